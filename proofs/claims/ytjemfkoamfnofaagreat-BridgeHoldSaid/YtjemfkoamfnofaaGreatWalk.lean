import Derived.Test.YtjemfkoamfnofaaGreatPerf
import Derived.LoopN
import Derived.Scope
set_option linter.unusedVariables false
namespace Go.Proofs.YtjemfkoamfnofaaGreat
open Go Go.RowKit
section
variable {P : Program} {c : Ctx} {n : Nat}
theorem Path.holds_put {a : Act} {p : Path} {d : Nat} (h : Path.free p d = true) (v : Value) : PathHolds (a.put (some d) v) p ↔ PathHolds a p := by
 have key : ∀ t b, (t, b) ∈ p → (a.put (some d) v).tmps[t]? = a.tmps[t]? := by
   intro t b hm
   unfold Path.free at h
   rw [List.all_eq_true] at h
   have := h _ hm
   have hne : d ≠ t := by
     intro he; subst he
     simp at this
   simp only [Act.put, Array.getElem?_setIfInBounds]
   rw [if_neg hne]
 constructor
 · intro h1 t b hm; rw [← key t b hm]; exact h1 t b hm
 · intro h1 t b hm; rw [key t b hm]; exact h1 t b hm
theorem putSlot_ok {S : Stat} {E : Env} {s s' : Slots} {a : Act} {dst : Option Nat} {p : Path} {x : Option SV} {v : Value} (h : putSlot s n dst p x = some s') (hs : SlotsOk S E s a) (hn : a.tmps.size = n)
   (h1 : PathHolds a p → v = vOf S E x) (h2 : ¬ PathHolds a p → v = undef) : SlotsOk S E s' (a.put dst v) := by
 unfold putSlot at h
 split at h
 · injection h with h; subst h
   exact hs
 · rename_i d
   cases hb : (Nat.blt d n && (s.all fun e => Path.free e.2.1 d) && Path.free p d) with
   | false => rw [hb] at h; cases h
   | true =>
     rw [hb] at h
     simp only [cond_true, Option.some.injEq] at h
     subst h
     simp only [Bool.and_eq_true] at hb
     obtain ⟨⟨hlt, hfree⟩, hp⟩ := hb
     have hlt : d < n := by simpa using hlt
     intro e q y hget
     simp only [Slots.get] at hget
     cases hbe : Nat.beq d e with
     | true =>
       rw [hbe] at hget
       have := Nat.eq_of_beq_eq_true hbe
       subst this
       simp only [cond_true, Option.some.injEq, Prod.mk.injEq] at hget
       obtain ⟨rfl, rfl⟩ := hget
       have hput : (a.put (some d) v).tmps[d]? = some v := by
         simp [Act.put, hn, hlt]
       rw [Path.holds_put hp]
       refine ⟨fun hh => ?_, fun hh => ?_⟩
       · rw [hput, h1 hh]; cases x <;> rfl
       · rw [hput, h2 hh]
     | false =>
       rw [hbe] at hget
       have hne : d ≠ e := by intro he; subst he; simp at hbe
       have hput : (a.put (some d) v).tmps[e]? = a.tmps[e]? := by
         simp only [Act.put, Array.getElem?_setIfInBounds]
         rw [if_neg hne]
       rw [hput, Path.holds_put (slots_all hfree hget)]
       exact hs e q y hget
theorem guarded_ok {S : Stat} {E : Env} {s : Slots} {a : Act} {ops : List Oper} {o : Oper} {r : Option Path} (h : guarded s ops o = some r) (hs : SlotsOk S E s a) :
   (∀ p, r = some p → (PathHolds a p → Region.wanted o (yielded ops.toArray a.tmps) = true) ∧ (¬ PathHolds a p → Region.wanted o (yielded ops.toArray a.tmps) = false)) ∧
   (r = none → Region.wanted o (yielded ops.toArray a.tmps) = false) := by
 unfold guarded at h
 split at h
 · rename_i hg
   injection h with h; subst h
   refine ⟨fun p hp => ?_, fun hh => by cases hh⟩
   injection hp with hp; subst hp
   refine ⟨fun _ => by simp [Region.wanted, hg], fun hh => absurd (fun t b hm => by cases hm) hh⟩
 · rename_i j b hg
   split at h
   · cases h
   · rename_i d hd
     have hy : ∀ v, a.tmps[d]? = some v → yielded ops.toArray a.tmps j = (match v with | .bool b => some b | _ => none) := by
       intro v hv
       simp only [yielded, List.getElem?_toArray, hd, Option.bind_some, hv]
       cases v <;> rfl
     split at h
     · rename_i q t hget
       have hq := hs _ _ _ hget
       cases htb : (t == b) with
       | true =>
         rw [htb] at h
         simp only [cond_true, Option.some.injEq] at h
         subst h
         have : t = b := by simpa using htb
         subst this
         refine ⟨fun p hp => ?_, fun hh => by cases hh⟩
         injection hp with hp; subst hp
         refine ⟨fun hh => ?_, fun hh => ?_⟩
         · simp [Region.wanted, hg, hy _ (hq.1 hh), SV.den]
         · simp [Region.wanted, hg, hy _ (hq.2 hh), undef]
       | false =>
         rw [htb] at h
         simp only [cond_false, Option.some.injEq] at h
         subst h
         refine ⟨(fun p hp => by cases hp), fun _ => ?_⟩
         have hne : t ≠ b := by simpa using htb
         by_cases hh : PathHolds a q
         · simp [Region.wanted, hg, hy _ (hq.1 hh), SV.den, hne]
         · simp [Region.wanted, hg, hy _ (hq.2 hh), undef]
     · rename_i q x hget
       have hq := hs _ _ _ hget
       injection h with h; subst h
       refine ⟨fun p hp => ?_, fun hh => by cases hh⟩
       injection hp with hp; subst hp
       refine ⟨fun hh => ?_, fun hh => ?_⟩
       · have := hh d b List.mem_cons_self
         simp [Region.wanted, hg, hy _ this]
       · by_cases hqq : PathHolds a q
         · have hx := hq.1 hqq
           have hne : x ≠ b := by
             intro he; subst he
             exact hh (holds_cons hqq (by simpa [SV.den] using hx))
           simp [Region.wanted, hg, hy _ hx, SV.den, hne]
         · simp [Region.wanted, hg, hy _ (hq.2 hqq), undef]
     · rename_i q vs hget
       have hq := hs _ _ _ hget
       injection h with h; subst h
       refine ⟨fun p hp => (by cases hp), fun _ => ?_⟩
       by_cases hh : PathHolds a q
       · simp [Region.wanted, hg, hy _ (hq.1 hh), SV.den]
       · simp [Region.wanted, hg, hy _ (hq.2 hh), undef]
     · cases h
theorem Act.put_size (a : Act) (d : Option Nat) (v : Value) : (a.put d v).tmps.size = a.tmps.size := by
 cases d <;> simp [Act.put]
theorem Act.put_defers' (a : Act) (d : Option Nat) (v : Value) : (a.put d v).defers = a.defers := by
 cases d <;> rfl
theorem Sat.put {w0 : World} {M : Nat → Nat → Prop} {E : Env} {st : St} {a : Act} {w : World} {s' : Slots} {d : Option Nat} {v : Value} (h : Sat c n w0 M E st a w) (hs : SlotsOk c.S E s' (a.put d v)) :
   Sat c n w0 M E { st with slots := s' } (a.put d v) w :=
 ⟨hs, h.hs, h.own, h.fr, h.win, h.winb, by rw [Act.put_size]; exact h.size, by rw [Act.put_defers']; exact h.defers⟩
theorem isNilP_ok {p : Path} (h : isNilP p = true) : p = [] := by cases p <;> simp_all [isNilP]
theorem cleanP_ok {a : Act} {g : Nat} {b : Bool} (hg : a.tmps[g]? = some (.bool b)) : ∀ {p : Path}, (∀ q, cleanP g b p = some q → (PathHolds a q ↔ PathHolds a p)) ∧ (cleanP g b p = none → ¬ PathHolds a p)
 | [] => ⟨fun q h => by simp only [cleanP, Option.some.injEq] at h; subst h; exact Iff.rfl, fun h => by simp [cleanP] at h⟩
 | (t, b') :: r => by
   obtain ⟨i1, i2⟩ := cleanP_ok hg (p := r)
   have hsub : PathHolds a ((t, b') :: r) → PathHolds a r := fun h x y hm => h x y (List.mem_cons_of_mem _ hm)
   have hcons : ∀ q, PathHolds a ((t, b') :: q) ↔ (a.tmps[t]? = some (.bool b') ∧ PathHolds a q) := fun q =>
     ⟨fun h => ⟨h t b' List.mem_cons_self, fun x y hm => h x y (List.mem_cons_of_mem _ hm)⟩, fun h x y hm => by
       rcases List.mem_cons.1 hm with he | he
       · injection he with e1 e2; subst e1 e2; exact h.1
       · exact h.2 x y he⟩
   unfold cleanP
   split
   · rename_i hn
     exact ⟨fun q h => (by cases h), fun _ h => i2 hn (hsub h)⟩
   · rename_i q hq
     cases hb : Nat.beq t g with
     | true =>
       have := Nat.eq_of_beq_eq_true hb; subst this
       simp only [cond_true]
       cases hbb : (b' == b) with
       | true =>
         have := beq_iff_eq.1 hbb; subst this
         simp only [cond_true]
         exact ⟨fun q' h => by injection h with h; subst h; rw [hcons, i1 q hq]; exact ⟨fun h => ⟨hg, h⟩, fun h => h.2⟩, fun h => by cases h⟩
       | false =>
         simp only [cond_false]
         refine ⟨fun q' h => (by cases h), fun _ h => ?_⟩
         have := h t b' List.mem_cons_self
         rw [hg] at this
         injection this with this; injection this with this
         rw [this] at hbb
         simp at hbb
     | false =>
       simp only [cond_false]
       exact ⟨fun q' h => by injection h with h; subst h; rw [hcons, hcons, i1 q hq], fun h => by cases h⟩
theorem knowS_ok {S : Stat} {E : Env} {s : Slots} {a : Act} {g : Nat} {b : Bool} (hs : SlotsOk S E s a) (hg : a.tmps[g]? = some (.bool b)) : SlotsOk S E (knowS g b s) a := by
 have key : ∀ (s : Slots) (d : Nat) (p : Path) (x : SV), (knowS g b s).get d = some (p, x) → (d = g ∧ x = .kb b) ∨ (d ≠ g ∧ ((∃ p', s.get d = some (p', x) ∧ cleanP g b p' = some p) ∨ (∃ p' x', s.get d = some (p', x') ∧ cleanP g b p' = none ∧ p = [] ∧ x = .v undef))) := by
   intro s
   induction s with
   | nil => intro d p x h; simp [knowS, Slots.get] at h
   | cons e r ih =>
     obtain ⟨k, p0, x0⟩ := e
     intro d p x h
     unfold knowS at h
     cases hk : Nat.beq k g with
     | true =>
       rw [hk] at h
       simp only [cond_true, Slots.get] at h
       have := Nat.eq_of_beq_eq_true hk; subst this
       cases hd : Nat.beq k d with
       | true =>
         rw [hd] at h
         have := Nat.eq_of_beq_eq_true hd; subst this
         simp only [cond_true, Option.some.injEq, Prod.mk.injEq] at h
         exact .inl ⟨rfl, h.2.symm⟩
       | false =>
         rw [hd] at h
         have h' := ih d p x h
         simp only [Slots.get, hd, cond_false]
         exact h'
     | false =>
       rw [hk] at h
       simp only [cond_false] at h
       have hne : k ≠ g := fun he => by subst he; simp at hk
       split at h
       · rename_i q hq
         simp only [Slots.get] at h ⊢
         cases hd : Nat.beq k d with
         | true =>
           rw [hd] at h
           have := Nat.eq_of_beq_eq_true hd; subst this
           simp only [cond_true, Option.some.injEq, Prod.mk.injEq] at h
           obtain ⟨rfl, rfl⟩ := h
           exact .inr ⟨hne, .inl ⟨p0, rfl, hq⟩⟩
         | false => rw [hd] at h; exact ih d p x h
       · rename_i hq
         simp only [Slots.get] at h ⊢
         cases hd : Nat.beq k d with
         | true =>
           rw [hd] at h
           have := Nat.eq_of_beq_eq_true hd; subst this
           simp only [cond_true, Option.some.injEq, Prod.mk.injEq] at h
           obtain ⟨rfl, rfl⟩ := h
           exact .inr ⟨hne, .inr ⟨p0, x0, rfl, hq, rfl, rfl⟩⟩
         | false => rw [hd] at h; exact ih d p x h
 have hgs : ∀ p x, (knowS g b s).get g = some (p, x) → ∃ x', s.get g = some (p, x') := by
   have : ∀ (s : Slots) p x, (knowS g b s).get g = some (p, x) → ∃ x', s.get g = some (p, x') := by
     intro s
     induction s with
     | nil => intro p x h; simp [knowS, Slots.get] at h
     | cons e r ih =>
       obtain ⟨k, p0, x0⟩ := e
       intro p x h
       unfold knowS at h
       cases hk : Nat.beq k g with
       | true =>
         rw [hk] at h
         simp only [cond_true, Slots.get, hk, Option.some.injEq, Prod.mk.injEq] at h ⊢
         obtain ⟨rfl, rfl⟩ := h
         exact ⟨x0, rfl, rfl⟩
       | false =>
         rw [hk] at h
         simp only [cond_false] at h
         simp only [Slots.get, hk, cond_false]
         split at h
         · simp only [Slots.get, hk, cond_false] at h; exact ih p x h
         · simp only [Slots.get, hk, cond_false] at h; exact ih p x h
   exact this s
 intro d p x hx
 rcases key s d p x hx with ⟨rfl, rfl⟩ | ⟨hne, ⟨p', h1, h2⟩ | ⟨p', x', h1, h2, rfl, rfl⟩⟩
 · refine ⟨fun _ => by simpa [SV.den] using hg, fun hp => ?_⟩
   obtain ⟨x', hx'⟩ := hgs p _ hx
   exact (hs d p x' hx').2 hp
 · rw [(cleanP_ok hg).1 p h2]
   exact hs d p' x h1
 · refine ⟨fun _ => ?_, fun h => absurd (fun t b hm => by cases hm) h⟩
   rw [(hs d p' x' h1).2 ((cleanP_ok hg).2 h2)]
   rfl
theorem Sat.know {w0 : World} {M : Nat → Nat → Prop} {E : Env} {st : St} {a : Act} {w : World} (h : Sat c n w0 M E st a w) {g : Nat} {b : Bool} (hg : a.tmps[g]? = some (.bool b)) : Sat c n w0 M E (st.know g b) a w :=
 ⟨knowS_ok h.slots hg, h.hs, h.own, h.fr, h.win, h.winb, h.size, h.defers⟩
theorem needs_ok {st : St} {p : Path} {d : Deed} {g : Nat} {b x : Bool} (h : needs c st p d = some (g, b, x)) : p = [(g, b)] ∧ st.slots.get g = some ([], .v (.bool x)) := by
 unfold needs at h
 split at h
 · cases hl : loud c st d with
   | false => rw [hl] at h; cases h
   | true =>
     rw [hl] at h
     simp only [cond_true] at h
     split at h
     · rename_i hx
       simp only [Option.some.injEq, Prod.mk.injEq] at h
       obtain ⟨rfl, rfl, rfl⟩ := h
       exact ⟨rfl, hx⟩
     · cases h
 · cases h
theorem region_pre (hc : CtxFull P c) {w0 : World} {M : Nat → Nat → Prop} {Q : Exit → Act → World → Prop} (ops tl : List Oper) : ∀ (l : List Oper) (st st' : St) (a : Act) (w : World) (E : Env),
   Sat c n w0 M E st a w → (region c n ops l st).sel = some st' →
   (∀ E' a' w', Env.upto st.next E E' → st.next ≤ st'.next → Sat c n w0 M E' st' a' w' → wpList P ops.toArray Q tl a' w') → wpList P ops.toArray Q (l ++ tl) a w
 | [], st, st', a, w, E, sat, h, hK => by
   simp only [region, Out.sel, Option.some.injEq] at h
   subst h
   exact hK E a w (Env.upto.refl _ _) (Nat.le_refl _) sat
 | o :: rest, st, st', a, w, E, sat, h, hK => by
   unfold region at h
   split at h
   · rename_i r hr
     exact hc.tail n ops (o :: rest) st r st' hr h w0 M Q tl a w E sat hK
   rw [List.cons_append]
   unfold wpList
   split at h
   · cases h
   · rename_i hg
     have hw := (guarded_ok hg sat.slots).2 rfl
     rw [if_neg (by rw [hw]; exact Bool.false_ne_true)]
     split at h
     · rename_i s' hs'
       have hso := putSlot_ok hs' sat.slots sat.size (v := undef) (fun _ => rfl) (fun _ => rfl)
       exact region_pre hc ops tl rest _ st' _ w E (sat.put hso) h hK
     · cases h
   · rename_i p hg
     obtain ⟨hw1, hw2⟩ := (guarded_ok hg sat.slots).1 p rfl
     split at h
     · cases h
     · rename_i d hd
       split at h
       · rename_i g b x hnd
         obtain ⟨rfl, hgx⟩ := needs_ok hnd
         have hnil : PathHolds a [] := fun _ _ hm => by cases hm
         have hgv : a.tmps[g]? = some (.bool x) := by simpa [SV.den] using (sat.slots g [] _ hgx).1 hnil
         have hpath : PathHolds a [(g, b)] ↔ x = b := by
           constructor
           · intro hp
             have := hp g b List.mem_cons_self
             rw [hgv] at this
             injection this with this; injection this
           · rintro rfl t b' hm
             rcases List.mem_cons.1 hm with he | he
             · injection he with e1 e2; subst e1 e2; exact hgv
             · cases he
         cases hxb : (x == b) with
         | true =>
           have := beq_iff_eq.1 hxb; subst this
           rw [hxb] at h
           simp only [Out.sel, if_true] at h
           rw [if_pos (hw1 (hpath.2 rfl))]
           refine .inl ?_
           have satk := sat.know (g := g) hgv
           split at h
           · cases h
           · rename_i d' hd'
             rw [Out.sel_bind] at h
             cases hpf : (perform c (st.know g x) false d').sel with
             | none => rw [hpf] at h; cases h
             | some r =>
               rw [hpf] at h
               simp only [Option.bind_some] at h
               split at h
               · rename_i s' hs'
                 refine perform_ok hc satk (plan_ok hc satk.win satk.slots hnil hd') hpf (Q := Q) ?_
                 intro E' w' ⟨hu, hle, sat'⟩
                 have hso := putSlot_ok hs' sat'.slots sat'.size (v := vOf c.S E' r.1) (fun _ => rfl) (fun hh => absurd hnil hh)
                 exact region_pre hc ops tl rest _ st' _ w' E' (sat'.put hso) h fun E'' a'' w'' hu2 hle2 sat2 =>
                   hK E'' a'' w'' (Env.upto.trans (n := st.next) hu hu2 hle) (Nat.le_trans hle hle2) sat2
               · cases h
         | false =>
           have hne : x = !b := by cases x <;> cases b <;> simp_all
           subst hne
           rw [hxb] at h
           simp only [Out.sel, Bool.false_eq_true, if_false] at h
           have hnp : ¬ PathHolds a [(g, b)] := fun hp => by have := hpath.1 hp; cases b <;> simp at this
           rw [if_neg (by rw [hw2 hnp]; exact Bool.false_ne_true)]
           have satk := sat.know (g := g) hgv
           split at h
           · rename_i s' hs'
             have hso := putSlot_ok hs' satk.slots satk.size (v := undef) (fun _ => rfl) (fun _ => rfl)
             exact region_pre hc ops tl rest _ st' _ w E (satk.put hso) h hK
           · cases h
       rw [Out.sel_bind] at h
       cases hpf : (perform c st (!(isNilP p)) d).sel with
       | none => rw [hpf] at h; cases h
       | some r =>
         rw [hpf] at h
         simp only [Option.bind_some] at h
         split at h
         · rename_i s' hs'
           by_cases hp : PathHolds a p
           · rw [if_pos (hw1 hp)]
             refine .inl ?_
             refine perform_ok hc sat (plan_ok hc sat.win sat.slots hp hd) hpf (Q := Q) ?_
             intro E' w' ⟨hu, hle, sat'⟩
             have hso := putSlot_ok hs' sat'.slots sat'.size (v := vOf c.S E' r.1) (fun _ => rfl) (fun hh => absurd hp hh)
             exact region_pre hc ops tl rest _ st' _ w' E' (sat'.put hso) h fun E'' a'' w'' hu2 hle2 sat2 =>
               hK E'' a'' w'' (hu.trans hu2 hle) (Nat.le_trans hle hle2) sat2
           · rw [if_neg (by rw [hw2 hp]; exact Bool.false_ne_true)]
             have hq : (!(isNilP p)) = true := by
               cases hb : isNilP p with
               | false => rfl
               | true => exact absurd (by rw [isNilP_ok hb]; intro t b hm; cases hm) hp
             rw [hq] at hpf
             obtain ⟨h1, h2⟩ := perform_quiet hpf
             rw [h1, h2] at h
             have hso := putSlot_ok hs' sat.slots sat.size (v := undef) (fun hh => absurd hh hp) (fun _ => rfl)
             exact region_pre hc ops tl rest _ st' _ w E (sat.put hso) h hK
         · cases h
theorem region_ok (hc : CtxFull P c) {w0 : World} {M : Nat → Nat → Prop} {Q : Exit → Act → World → Prop} (ops : List Oper) (l : List Oper) (st st' : St) (a : Act) (w : World) (E : Env)
   (sat : Sat c n w0 M E st a w) (h : (region c n ops l st).sel = some st') (hK : ∀ E' a' w', Env.upto st.next E E' → st.next ≤ st'.next → Sat c n w0 M E' st' a' w' → Q .normal a' w') : wpList P ops.toArray Q l a w := by
 have := region_pre hc (Q := Q) ops [] l st st' a w E sat h hK
 simpa using this
theorem keepSlots_get (g : List Nat) : ∀ (s : Slots) (d : Nat) (q : Path × SV), Slots.get (keepSlots g s) d = some q → s.get d = some q ∧ hasN g d = false
 | [], d, q, h => by simp [keepSlots, Slots.get] at h
 | (e, p, x) :: r, d, q, h => by
   unfold keepSlots at h
   simp only [Slots.get]
   cases hg : hasN g e with
   | true =>
     rw [hg] at h
     have ih := keepSlots_get g r d q h
     have hne : Nat.beq e d = false := by
       cases hb : Nat.beq e d with
       | false => rfl
       | true =>
         have := Nat.eq_of_beq_eq_true hb
         subst this
         rw [hg] at ih; exact absurd ih.2 (by simp)
     rw [hne]
     exact ih
   | false =>
     rw [hg] at h
     simp only [cond_false, Slots.get] at h
     cases hb : Nat.beq e d with
     | true =>
       rw [hb] at h
       have := Nat.eq_of_beq_eq_true hb
       subst this
       exact ⟨h, hg⟩
     | false =>
       rw [hb] at h
       exact keepSlots_get g r d q h
theorem dropGuarded_ok {S : Stat} {E : Env} {s : Slots} {a : Act} (h : SlotsOk S E s a) : SlotsOk S E (dropGuarded s) a := by
 unfold dropGuarded
 split
 · exact h
 · exact fun d p x hx => h d p x (keepSlots_get _ s d (p, x) hx).1
def Ex.out : Ex → Exit
 | .nrm => .normal
 | .exit i => .exit i
 | .ret => .ret
 | .goto l => .goto l
end
end Go.Proofs.YtjemfkoamfnofaaGreat
