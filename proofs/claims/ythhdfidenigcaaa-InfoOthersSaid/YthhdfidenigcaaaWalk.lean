/- A region in the text's order, and whole code: the walk by symbols is right. -/
import Derived.Test.YthhdfidenigcaaaPerf
import Derived.LoopN
import Derived.Scope
set_option linter.unusedVariables false
namespace Go.Proofs.Ythhdfidenigcaaa
open Go Go.RowKit

section
variable {P : Program} {c : Ctx} {n : Nat}

theorem Path.holds_put {a : Act} {p : Path} {d : Nat} (h : Path.free p d = true) (v : Value) : PathHolds (a.put (some d) v) p ↔ PathHolds a p := by
  have key : ∀ t b, (t, b) ∈ p → (a.put (some d) v).tmps[t]? = a.tmps[t]? := by
    intro t b hm
    unfold Path.free at h
    rw [List.all_eq_true] at h
    have := h _ hm
    have hne : d ≠ t := by
      intro he; subst he
      simp at this
    simp only [Act.put, Array.getElem?_setIfInBounds]
    rw [if_neg hne]
  constructor
  · intro h1 t b hm; rw [← key t b hm]; exact h1 t b hm
  · intro h1 t b hm; rw [key t b hm]; exact h1 t b hm

theorem putSlot_ok {S : Stat} {E : Env} {s s' : Slots} {a : Act} {dst : Option Nat} {p : Path} {x : Option SV} {v : Value} (h : putSlot s n dst p x = some s') (hs : SlotsOk S E s a) (hn : a.tmps.size = n)
    (h1 : PathHolds a p → v = vOf S E x) (h2 : ¬ PathHolds a p → v = undef) : SlotsOk S E s' (a.put dst v) := by
  unfold putSlot at h
  split at h
  · injection h with h; subst h
    exact hs
  · rename_i d
    cases hb : (Nat.blt d n && (s.all fun e => Path.free e.2.1 d) && Path.free p d) with
    | false => rw [hb] at h; cases h
    | true =>
      rw [hb] at h
      simp only [cond_true, Option.some.injEq] at h
      subst h
      simp only [Bool.and_eq_true] at hb
      obtain ⟨⟨hlt, hfree⟩, hp⟩ := hb
      have hlt : d < n := by simpa using hlt
      intro e q y hget
      simp only [Slots.get] at hget
      cases hbe : Nat.beq d e with
      | true =>
        rw [hbe] at hget
        have := Nat.eq_of_beq_eq_true hbe
        subst this
        simp only [cond_true, Option.some.injEq, Prod.mk.injEq] at hget
        obtain ⟨rfl, rfl⟩ := hget
        have hput : (a.put (some d) v).tmps[d]? = some v := by
          simp [Act.put, hn, hlt]
        rw [Path.holds_put hp]
        refine ⟨fun hh => ?_, fun hh => ?_⟩
        · rw [hput, h1 hh]; cases x <;> rfl
        · rw [hput, h2 hh]
      | false =>
        rw [hbe] at hget
        have hne : d ≠ e := by intro he; subst he; simp at hbe
        have hput : (a.put (some d) v).tmps[e]? = a.tmps[e]? := by
          simp only [Act.put, Array.getElem?_setIfInBounds]
          rw [if_neg hne]
        rw [hput, Path.holds_put (slots_all hfree hget)]
        exact hs e q y hget

theorem guarded_ok {S : Stat} {E : Env} {s : Slots} {a : Act} {ops : List Oper} {o : Oper} {r : Option Path} (h : guarded s ops o = some r) (hs : SlotsOk S E s a) :
    (∀ p, r = some p → (PathHolds a p → Region.wanted o (yielded ops.toArray a.tmps) = true) ∧ (¬ PathHolds a p → Region.wanted o (yielded ops.toArray a.tmps) = false)) ∧
    (r = none → Region.wanted o (yielded ops.toArray a.tmps) = false) := by
  unfold guarded at h
  split at h
  · rename_i hg
    injection h with h; subst h
    refine ⟨fun p hp => ?_, fun hh => by cases hh⟩
    injection hp with hp; subst hp
    refine ⟨fun _ => by simp [Region.wanted, hg], fun hh => absurd (fun t b hm => by cases hm) hh⟩
  · rename_i j b hg
    split at h
    · cases h
    · rename_i d hd
      have hy : ∀ v, a.tmps[d]? = some v → yielded ops.toArray a.tmps j = (match v with | .bool b => some b | _ => none) := by
        intro v hv
        simp only [yielded, List.getElem?_toArray, hd, Option.bind_some, hv]
        cases v <;> rfl
      split at h
      · rename_i q t hget
        have hq := hs _ _ _ hget
        cases htb : (t == b) with
        | true =>
          rw [htb] at h
          simp only [cond_true, Option.some.injEq] at h
          subst h
          have : t = b := by simpa using htb
          subst this
          refine ⟨fun p hp => ?_, fun hh => by cases hh⟩
          injection hp with hp; subst hp
          refine ⟨fun hh => ?_, fun hh => ?_⟩
          · simp [Region.wanted, hg, hy _ (hq.1 hh), SV.den]
          · simp [Region.wanted, hg, hy _ (hq.2 hh), undef]
        | false =>
          rw [htb] at h
          simp only [cond_false, Option.some.injEq] at h
          subst h
          refine ⟨(fun p hp => by cases hp), fun _ => ?_⟩
          have hne : t ≠ b := by simpa using htb
          by_cases hh : PathHolds a q
          · simp [Region.wanted, hg, hy _ (hq.1 hh), SV.den, hne]
          · simp [Region.wanted, hg, hy _ (hq.2 hh), undef]
      · rename_i q x hget
        have hq := hs _ _ _ hget
        injection h with h; subst h
        refine ⟨fun p hp => ?_, fun hh => by cases hh⟩
        injection hp with hp; subst hp
        refine ⟨fun hh => ?_, fun hh => ?_⟩
        · have := hh d b List.mem_cons_self
          simp [Region.wanted, hg, hy _ this]
        · by_cases hqq : PathHolds a q
          · have hx := hq.1 hqq
            have hne : x ≠ b := by
              intro he; subst he
              exact hh (holds_cons hqq (by simpa [SV.den] using hx))
            simp [Region.wanted, hg, hy _ hx, SV.den, hne]
          · simp [Region.wanted, hg, hy _ (hq.2 hqq), undef]
      · cases h

theorem Act.put_size (a : Act) (d : Option Nat) (v : Value) : (a.put d v).tmps.size = a.tmps.size := by
  cases d <;> simp [Act.put]
theorem Act.put_defers' (a : Act) (d : Option Nat) (v : Value) : (a.put d v).defers = a.defers := by
  cases d <;> rfl

theorem Sat.put {w0 : World} {M : Nat → Nat → Prop} {E : Env} {st : St} {a : Act} {w : World} {s' : Slots} {d : Option Nat} {v : Value} (h : Sat c n w0 M E st a w) (hs : SlotsOk c.S E s' (a.put d v)) :
    Sat c n w0 M E { st with slots := s' } (a.put d v) w :=
  ⟨hs, h.hs, h.own, h.fr, h.win, h.winb, by rw [Act.put_size]; exact h.size, by rw [Act.put_defers']; exact h.defers⟩

theorem isNilP_ok {p : Path} (h : isNilP p = true) : p = [] := by cases p <;> simp_all [isNilP]

theorem region_ok (hc : CtxFull P c) {w0 : World} {M : Nat → Nat → Prop} {Q : Exit → Act → World → Prop} (ops : List Oper) : ∀ (l : List Oper) (st st' : St) (a : Act) (w : World) (E : Env),
    Sat c n w0 M E st a w → (region c n ops l st).sel = some st' →
    (∀ E' a' w', Env.upto st.next E E' → st.next ≤ st'.next → Sat c n w0 M E' st' a' w' → Q .normal a' w') → wpList P ops.toArray Q l a w
  | [], st, st', a, w, E, sat, h, hK => by
    simp only [region, Out.sel, Option.some.injEq] at h
    subst h
    exact hK E a w (Env.upto.refl _ _) (Nat.le_refl _) sat
  | o :: rest, st, st', a, w, E, sat, h, hK => by
    unfold region at h
    unfold wpList
    split at h
    · cases h
    · rename_i hg
      have hw := (guarded_ok hg sat.slots).2 rfl
      rw [if_neg (by rw [hw]; exact Bool.false_ne_true)]
      split at h
      · rename_i s' hs'
        have hso := putSlot_ok hs' sat.slots sat.size (v := undef) (fun _ => rfl) (fun _ => rfl)
        exact region_ok hc ops rest _ st' _ w E (sat.put hso) h hK
      · cases h
    · rename_i p hg
      obtain ⟨hw1, hw2⟩ := (guarded_ok hg sat.slots).1 p rfl
      split at h
      · cases h
      · rename_i d hd
        rw [Out.sel_bind] at h
        cases hpf : (perform c st (!(isNilP p)) d).sel with
        | none => rw [hpf] at h; cases h
        | some r =>
          rw [hpf] at h
          simp only [Option.bind_some] at h
          split at h
          · rename_i s' hs'
            by_cases hp : PathHolds a p
            · rw [if_pos (hw1 hp)]
              refine .inl ?_
              refine perform_ok hc sat (plan_ok hc sat.win sat.slots hp hd) hpf (Q := Q) ?_
              intro E' w' ⟨hu, hle, sat'⟩
              have hso := putSlot_ok hs' sat'.slots sat'.size (v := vOf c.S E' r.1) (fun _ => rfl) (fun hh => absurd hp hh)
              exact region_ok hc ops rest _ st' _ w' E' (sat'.put hso) h fun E'' a'' w'' hu2 hle2 sat2 =>
                hK E'' a'' w'' (hu.trans hu2 hle) (Nat.le_trans hle hle2) sat2
            · rw [if_neg (by rw [hw2 hp]; exact Bool.false_ne_true)]
              have hq : (!(isNilP p)) = true := by
                cases hb : isNilP p with
                | false => rfl
                | true => exact absurd (by rw [isNilP_ok hb]; intro t b hm; cases hm) hp
              rw [hq] at hpf
              obtain ⟨h1, h2⟩ := perform_quiet hpf
              rw [h1, h2] at h
              have hso := putSlot_ok hs' sat.slots sat.size (v := undef) (fun hh => absurd hh hp) (fun _ => rfl)
              exact region_ok hc ops rest _ st' _ w E (sat.put hso) h hK
          · cases h

theorem keepSlots_get (g : List Nat) : ∀ (s : Slots) (d : Nat) (q : Path × SV), Slots.get (keepSlots g s) d = some q → s.get d = some q ∧ hasN g d = false
  | [], d, q, h => by simp [keepSlots, Slots.get] at h
  | (e, p, x) :: r, d, q, h => by
    unfold keepSlots at h
    simp only [Slots.get]
    cases hg : hasN g e with
    | true =>
      rw [hg] at h
      have ih := keepSlots_get g r d q h
      have hne : Nat.beq e d = false := by
        cases hb : Nat.beq e d with
        | false => rfl
        | true =>
          have := Nat.eq_of_beq_eq_true hb
          subst this
          rw [hg] at ih; exact absurd ih.2 (by simp)
      rw [hne]
      exact ih
    | false =>
      rw [hg] at h
      simp only [cond_false, Slots.get] at h
      cases hb : Nat.beq e d with
      | true =>
        rw [hb] at h
        have := Nat.eq_of_beq_eq_true hb
        subst this
        exact ⟨h, hg⟩
      | false =>
        rw [hb] at h
        exact keepSlots_get g r d q h

theorem dropGuarded_ok {S : Stat} {E : Env} {s : Slots} {a : Act} (h : SlotsOk S E s a) : SlotsOk S E (dropGuarded s) a := by
  unfold dropGuarded
  split
  · exact h
  · exact fun d p x hx => h d p x (keepSlots_get _ s d (p, x) hx).1

/-- how the walk's end stands to the machine's -/
def Ex.out : Ex → Exit
  | .nrm => .normal
  | .exit i => .exit i
  | .ret => .ret
  | .goto l => .goto l
end
end Go.Proofs.Ythhdfidenigcaaa
