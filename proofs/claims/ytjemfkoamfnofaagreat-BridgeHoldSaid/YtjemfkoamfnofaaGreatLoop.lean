import Derived.Test.YtjemfkoamfnofaaGreatAuto
set_option linter.unusedVariables false
namespace Go.Proofs.YtjemfkoamfnofaaGreat
section
open Go Go.RowKit
def ReSlots (s : Slots) (S S' : Stat) (E : Env) : Slots → Prop
 | [] => True
 | (t, p, x') :: r => (∃ x, s.get t = some (p, x) ∧ x.den S E = x'.den S' E) ∧ ReSlots s S S' E r
def ReHeap (h : Heap) (S S' : Stat) (E : Env) : Heap → Prop
 | [] => True
 | (k, x') :: r => (∃ x, h.get k = some x ∧ x.cells S E = x'.cells S' E ∧ x'.foOk S') ∧ ReHeap h S S' E r
structure Redesc (c : Ctx) (st : St) (c' : Ctx) (st' : St) (E : Env) : Prop where
 slots : ReSlots st.slots c.S c'.S E st'.slots
 heap : ReHeap st.heap c.S c'.S E st'.heap
 ro : c'.S.ro = c.S.ro
 win : c'.win = []
theorem ReSlots.get {s : Slots} {S S' : Stat} {E : Env} : ∀ {l : Slots}, ReSlots s S S' E l → ∀ t p x', l.get t = some (p, x') → ∃ x, s.get t = some (p, x) ∧ x.den S E = x'.den S' E
 | [], _, t, p, x', h => by simp [Slots.get] at h
 | (k, q, y) :: r, hr, t, p, x', h => by
   simp only [Slots.get] at h
   cases hb : Nat.beq k t with
   | true =>
     rw [hb] at h
     have := Nat.eq_of_beq_eq_true hb; subst this
     simp only [cond_true, Option.some.injEq, Prod.mk.injEq] at h
     obtain ⟨rfl, rfl⟩ := h
     exact hr.1
   | false => rw [hb] at h; exact ReSlots.get hr.2 t p x' h
theorem ReHeap.get {s : Heap} {S S' : Stat} {E : Env} : ∀ {l : Heap}, ReHeap s S S' E l → ∀ k x', l.get k = some x' → ∃ x, s.get k = some x ∧ x.cells S E = x'.cells S' E ∧ x'.foOk S'
 | [], _, k, x', h => by simp [Heap.get] at h
 | (j, y) :: r, hr, k, x', h => by
   simp only [Heap.get] at h
   cases hb : Nat.beq j k with
   | true =>
     rw [hb] at h
     have := Nat.eq_of_beq_eq_true hb; subst this
     simp only [cond_true, Option.some.injEq] at h
     subst h
     exact hr.1
   | false => rw [hb] at h; exact ReHeap.get hr.2 k x' h
theorem size_of_cells {S S' : Stat} {E : Env} {x y : SV} (h : x.cells S E = y.cells S' E) : x.size = y.size := by
 rw [← SV.len S E x, ← SV.len S' E y, h]
section
variable {P : Program} {c c' : Ctx} {n : Nat} {w0 : World} {M : Nat → Nat → Prop} {E : Env} {st st' : St} {a : Act} {w : World}
theorem Sat.re (h : Sat c n w0 M E st a w) (r : Redesc c st c' st' E) : Sat c' n w0 M E st' a w := by
 refine ⟨?_, ⟨?_, ?_, ?_, fun k x' hk => (r.heap.get k x' hk).choose_spec.2.2⟩, ?_, h.fr, by rw [r.win]; intro n j k z hm; (cases hm), by rw [r.win]; intro n j k z hm; (cases hm), h.size, h.defers⟩
 · intro t p x' hx
   obtain ⟨x, hx1, hd⟩ := r.slots.get t p x' hx
   rw [← hd]; exact h.slots t p x hx1
 · intro k x' hk hp
   obtain ⟨x, hx, hc, _⟩ := r.heap.get k x' hk
   rw [← hc]; exact h.hs.at_ k x hx (by rw [size_of_cells hc]; exact hp)
 · intro k x' hk hp hnt hro
   obtain ⟨x, hx, hc, _⟩ := r.heap.get k x' hk
   exact h.hs.wr k x hx (by rw [size_of_cells hc]; exact hp) (by rw [hc]; exact hnt) (by rw [← r.ro]; exact hro)
 · intro k k' x1 x2 hne h1 h2 p1 p2 hro
   obtain ⟨y1, hy1, hc1, _⟩ := r.heap.get k x1 h1
   obtain ⟨y2, hy2, hc2, _⟩ := r.heap.get k' x2 h2
   have e1 := size_of_cells hc1
   have e2 := size_of_cells hc2
   rw [← e1, ← e2]
   exact h.hs.dis k k' y1 y2 hne hy1 hy2 (by omega) (by omega) (by rw [← r.ro]; exact hro)
 · intro k x' hk hro
   obtain ⟨x, hx, hc, _⟩ := r.heap.get k x' hk
   rw [← size_of_cells hc]
   exact h.own k x hx (by rw [← r.ro]; exact hro)
end
def keepT (s : Slots) : List Nat → Slots
 | [] => []
 | t :: r => match s.get t with | some q => (t, q) :: keepT s r | none => keepT s r
def keepH (nx : Nat) : Heap → Heap
 | [] => []
 | (k, x) :: r => bif Nat.blt k nx then (k, x) :: keepH nx r else keepH nx r
def trimSt (ts : List Nat) (nx : Nat) (st : St) : St := ⟨keepT st.slots ts, keepH nx st.heap, nx⟩
def trimO (ts : List Nat) (nx : Nat) (o : Out (Ex × St)) : Out (Ex × St) := o.bind fun r => .ret (r.1, trimSt ts nx r.2)
theorem keepT_get {s : Slots} : ∀ {ts : List Nat} {t : Nat} {q : Path × SV}, (keepT s ts).get t = some q → s.get t = some q
 | [], t, q, h => by simp [keepT, Slots.get] at h
 | u :: r, t, q, h => by
   unfold keepT at h
   split at h
   · rename_i q' hq
     simp only [Slots.get] at h
     cases hb : Nat.beq u t with
     | true =>
       rw [hb] at h
       have := Nat.eq_of_beq_eq_true hb; subst this
       simp only [cond_true, Option.some.injEq] at h
       subst h; exact hq
     | false => rw [hb] at h; exact keepT_get h
   · exact keepT_get h
theorem keepH_get {nx : Nat} : ∀ {h : Heap} {k : Nat} {x : SV}, (keepH nx h).get k = some x → h.get k = some x
 | [], k, x, h => by simp [keepH, Heap.get] at h
 | (j, y) :: r, k, x, h => by
   unfold keepH at h
   simp only [Heap.get]
   cases hb : Nat.blt j nx with
   | true =>
     rw [hb] at h
     simp only [cond_true, Heap.get] at h
     cases hj : Nat.beq j k with
     | true => rw [hj] at h; simpa using h
     | false => rw [hj] at h; simpa using keepH_get h
   | false =>
     rw [hb] at h
     simp only [cond_false] at h
     have h1 := keepH_get h
     cases hj : Nat.beq j k with
     | true =>
       exfalso
       have := Nat.eq_of_beq_eq_true hj; subst this
       -- a chunk that is kept lies ahead of nx
       have key : ∀ {h : Heap} {k : Nat} {x : SV}, (keepH nx h).get k = some x → Nat.blt k nx = true := by
         intro h
         induction h with
         | nil => intro k x h; simp [keepH, Heap.get] at h
         | cons p r ih =>
           obtain ⟨i, z⟩ := p
           intro k x h
           unfold keepH at h
           cases hi : Nat.blt i nx with
           | true =>
             rw [hi] at h
             simp only [cond_true, Heap.get] at h
             cases hk : Nat.beq i k with
             | true => have := Nat.eq_of_beq_eq_true hk; subst this; exact hi
             | false => rw [hk] at h; exact ih h
           | false => rw [hi] at h; exact ih h
       rw [key h] at hb; cases hb
     | false => simpa using h1
section
variable {P : Program} {c : Ctx} {n : Nat} {w0 : World} {M : Nat → Nat → Prop} {E : Env} {st : St} {a : Act} {w : World}
theorem Sat.trim (h : Sat c n w0 M E st a w) (hwin : c.win = []) (ts : List Nat) (nx : Nat) : Sat c n w0 M E (trimSt ts nx st) a w := by
 refine ⟨fun t p x hx => h.slots t p x (keepT_get hx), ⟨fun k x hk hp => h.hs.at_ k x (keepH_get hk) hp, fun k x hk hp hnt hro => h.hs.wr k x (keepH_get hk) hp hnt hro, fun k k' x x' hne hk hk' hp hp' hro => h.hs.dis k k' x x' hne (keepH_get hk) (keepH_get hk') hp hp' hro, fun k x hk => h.hs.fo k x (keepH_get hk)⟩,
   fun k x hk hro => h.own k x (keepH_get hk) hro, h.fr, h.win, ?_, h.size, h.defers⟩
 rw [hwin]
 intro n j k z hm
 cases hm
theorem trimO_sel {ts : List Nat} {nx : Nat} {o : Out (Ex × St)} {ex : Ex} {st1 : St} (h : (trimO ts nx o).sel = some (ex, st1)) : ∃ st0, o.sel = some (ex, st0) ∧ st1 = trimSt ts nx st0 := by
 unfold trimO at h
 rw [Out.sel_bind] at h
 cases h0 : o.sel with
 | none => rw [h0] at h; cases h
 | some r =>
   rw [h0] at h
   simp only [Option.bind_some, Out.sel, Option.some.injEq, Prod.mk.injEq] at h
   obtain ⟨rfl, rfl⟩ := h
   exact ⟨r.2, rfl, rfl⟩
theorem fold_rounds {σ : Type} {nx fuel : Nat} {b : Code} {ts : List Nat} (cx : σ → Ctx) (vw : σ → St) (mu : σ → Nat) (I : σ → Prop) (res : σ → Ex × St)
   (hfull : ∀ s, I s → CtxFull P (cx s)) (hwin : ∀ s, (cx s).win = []) (hl : ∀ s, I s → LoopsOk P (cx s) n b) (hnx : ∀ s, (vw s).next = nx)
   (hstep : ∀ s, I s → ∃ ex1 st1, (trimO ts nx (exec (cx s) n fuel b (vw s))).sel = some (ex1, st1) ∧
     ((ex1 = .nrm ∧ ∃ s', I s' ∧ mu s' < mu s ∧ res s' = res s ∧ ∀ E, Redesc (cx s) st1 (cx s') (vw s') E) ∨
      (ex1 ≠ .nrm ∧ (res s).1 = ex1 ∧ ∀ E, Redesc (cx s) st1 c (res s).2 E))) :
   ∀ (k : Nat) (s : σ), I s → mu s < k → ∀ {w0 : World} {M : Nat → Nat → Prop} {Q : Exit → Act → World → Prop} {a : Act} {w : World} {E : Env}, Sat (cx s) n w0 M E (vw s) a w →
     (∀ E' a' w', Env.upto nx E E' → Sat c n w0 M E' (res s).2 a' w' → Q (res s).1.out a' w') → Code.rounds P b Q k a w
 | 0, s, _, hlt, _, _, _, _, _, _, _, _ => absurd hlt (Nat.not_lt_zero _)
 | k + 1, s, hI, hlt, w0, M, Q, a, w, E, sat, hK => by
   rw [rounds_succ]
   obtain ⟨ex1, st1, hsel, hcase⟩ := hstep s hI
   obtain ⟨st0, h0, rfl⟩ := trimO_sel hsel
   refine exec_ok (hfull s hI) (draw_ok (hfull s hI)) b (hl s hI) w0 M _ (vw s) st0 ex1 a w E sat h0 ?_
   intro E' a' w' hu hle sat'
   rw [hnx] at hu
   have satt := sat'.trim (hwin s) ts nx
   rcases hcase with ⟨rfl, s', hI', hmu, hres, hre⟩ | ⟨hne, hex, hre⟩
   · refine fold_rounds cx vw mu I res hfull hwin hl hnx hstep k s' hI' (by omega) (satt.re (hre E')) ?_
     intro E'' a'' w'' hu2 sat2
     rw [hres] at sat2 ⊢
     exact hK E'' a'' w'' (hu.trans hu2 (Nat.le_refl _)) sat2
   · have := hK E' a' w' hu (satt.re (hre E'))
     rw [hex] at this
     cases ex1 with
     | nrm => exact absurd rfl hne
     | exit i => exact this
     | ret => exact this
     | goto l => exact this
end
end
section
open Go Go.RowKit
mutual
def SV.ren (f : Nat → Nat) : SV → SV
 | .ptr c o => .ptr (f c) o
 | .mp c => .mp (f c)
 | .slc c o l k => .slc (f c) o l k
 | .slu c o l u => .slu (f c) o l (f u)
 | .elt c i z o => .elt (f c) i z o
 | .slr c l u q => .slr (f c) l (f u) q
 | .fn q a b => .fn q (SV.rens f a) (SV.rens f b)
 | .agg l => .agg (SV.rens f l)
 | .tup l => .tup (SV.rens f l)
 | .foc j a x b => .foc j a (SV.ren f x) b
 | .v x => .v x
 | .tab T => .tab T
 | .kb b => .kb b
 | .ki k n => .ki k n
 | .ix j => .ix j
 | .sl n => .sl n
 | .rcd r => .rcd r
 | .rows R => .rows R
def SV.rens (f : Nat → Nat) : List SV → List SV
 | [] => []
 | x :: r => SV.ren f x :: SV.rens f r
end
def Env.comp (E : Env) (f : Nat → Nat) : Env := ⟨fun k => E.ad (f k), fun k => E.cp (f k)⟩
theorem Env.comp_cp (E : Env) (f : Nat → Nat) (c : Nat) : (E.comp f).cp c = E.cp (f c) := rfl
theorem Env.comp_ad (E : Env) (f : Nat → Nat) (c : Nat) : (E.comp f).ad c = E.ad (f c) := rfl
theorem Env.comp_place (E : Env) (f : Nat → Nat) (c o : Nat) : (E.comp f).place c o = E.place (f c) o := rfl
mutual
theorem SV.ren_cells (S : Stat) (E : Env) (f : Nat → Nat) : ∀ x : SV, (x.ren f).cells S E = x.cells S (E.comp f)
 | .fn _ a b => by simp [SV.ren, SV.cells, SV.rens_dens S E f a, SV.rens_dens S E f b]
 | .agg l => by simp [SV.ren, SV.cells, SV.rens_cells S E f l]
 | .tup l => by simp [SV.ren, SV.cells, SV.rens_dens S E f l]
 | .foc _ a x b => by simp [SV.ren, SV.cells, SV.ren_cells S E f x]
 | .tab _ | .mp _ | .ptr _ _ | .slc _ _ _ _ | .slu _ _ _ _ | .elt _ _ _ _ | .slr _ _ _ _ | .v _ | .kb _ | .ki _ _ | .ix _ | .sl _ | .rcd _ | .rows _ => by simp [SV.ren, SV.cells, Env.comp_ad, Env.comp_place, Env.comp_cp]
theorem SV.rens_cells (S : Stat) (E : Env) (f : Nat → Nat) : ∀ l : List SV, SV.cellss S E (SV.rens f l) = SV.cellss S (E.comp f) l
 | [] => by simp [SV.rens, SV.cellss]
 | x :: r => by simp [SV.rens, SV.cellss, SV.ren_cells S E f x, SV.rens_cells S E f r]
theorem SV.ren_den (S : Stat) (E : Env) (f : Nat → Nat) : ∀ x : SV, (x.ren f).den S E = x.den S (E.comp f)
 | .fn _ a b => by simp [SV.ren, SV.den, SV.rens_dens S E f a, SV.rens_dens S E f b]
 | .agg l => by simp [SV.ren, SV.den, SV.rens_cells S E f l]
 | .tup l => by simp [SV.ren, SV.den, SV.rens_dens S E f l]
 | .foc _ a x b => by simp [SV.ren, SV.den, SV.ren_cells S E f x]
 | .tab _ | .mp _ | .ptr _ _ | .slc _ _ _ _ | .slu _ _ _ _ | .elt _ _ _ _ | .slr _ _ _ _ | .v _ | .kb _ | .ki _ _ | .ix _ | .sl _ | .rcd _ | .rows _ => by simp [SV.ren, SV.den, Env.comp_ad, Env.comp_place, Env.comp_cp]
theorem SV.rens_dens (S : Stat) (E : Env) (f : Nat → Nat) : ∀ l : List SV, SV.dens S E (SV.rens f l) = SV.dens S (E.comp f) l
 | [] => by simp [SV.rens, SV.dens]
 | x :: r => by simp [SV.rens, SV.dens, SV.ren_den S E f x, SV.rens_dens S E f r]
end
theorem SV.ren_foOk {S : Stat} {f : Nat → Nat} {x : SV} (h : x.foOk S) : (x.ren f).foOk S := by
 cases x <;> first | trivial | exact h
theorem SV.ren_size (S : Stat) (E : Env) (f : Nat → Nat) (x : SV) : (x.ren f).size = x.size := by
 rw [← SV.len S E, SV.ren_cells, SV.len]
def idxOf : List Nat → Nat → Nat
 | [], _ => 0
 | x :: r, k => bif Nat.beq x k then 0 else Nat.add (idxOf r k) 1
def nthK : List Nat → Nat → Option Nat
 | [], _ => none
 | x :: r, n => match n with | 0 => some x | n + 1 => nthK r n
def back (ks : List Nat) (nx : Nat) (i : Nat) : Nat := match nthK ks i with | some k => k | none => Nat.add nx (Nat.sub i ks.length)
def dedup : List Nat → List Nat
 | [] => []
 | x :: r => bif hasN (dedup r) x then dedup r else x :: dedup r
def heap0 (H : Heap) (f : Nat → Nat) : List Nat → Nat → Heap
 | [], _ => []
 | k :: r, i => match H.get k with
   | some x => (i, x.ren f) :: heap0 H f r (Nat.add i 1)
   | none => heap0 H f r (Nat.add i 1)
def putAll (H : Heap) (f : Nat → Nat) (ro : Nat → Bool) : Heap → Heap
 | [] => H
 | (i, x) :: r => bif ro i then putAll H f ro r else (putAll H f ro r).put (f i) (x.ren f)
theorem idxOf_back {ks : List Nat} {nx k : Nat} (h : k ∈ ks) : back ks nx (idxOf ks k) = k := by
 unfold back
 have : nthK ks (idxOf ks k) = some k := by
   induction ks with
   | nil => cases h
   | cons x r ih =>
     unfold idxOf
     cases hb : Nat.beq x k with
     | true => have := Nat.eq_of_beq_eq_true hb; subst this; rfl
     | false =>
       rcases List.mem_cons.1 h with he | he
       · subst he; simp at hb
       · exact ih he
 rw [this]
theorem nthK_eq : ∀ (l : List Nat) (n : Nat), nthK l n = l[n]?
 | [], _ => by simp [nthK]
 | x :: r, 0 => by simp [nthK]
 | x :: r, n + 1 => by simp [nthK, nthK_eq r n]
theorem dedup_nodup : ∀ l : List Nat, (dedup l).Nodup
 | [] => by simp [dedup]
 | x :: r => by
   unfold dedup
   cases hb : hasN (dedup r) x with
   | true => exact dedup_nodup r
   | false => exact List.nodup_cons.2 ⟨hasN_false hb, dedup_nodup r⟩
theorem heap0_get (H : Heap) (f : Nat → Nat) : ∀ (l : List Nat) (i0 i : Nat) (y : SV), (heap0 H f l i0).get i = some y → i0 ≤ i ∧ ∃ k x, l[i - i0]? = some k ∧ H.get k = some x ∧ y = x.ren f
 | [], i0, i, y, h => by simp [heap0, Heap.get] at h
 | k :: r, i0, i, y, h => by
   unfold heap0 at h
   split at h
   · rename_i x hx
     simp only [Heap.get] at h
     cases hb : Nat.beq i0 i with
     | true =>
       rw [hb] at h
       have := Nat.eq_of_beq_eq_true hb; subst this
       simp only [cond_true, Option.some.injEq] at h
       exact ⟨Nat.le_refl _, k, x, by simp, hx, h.symm⟩
     | false =>
       rw [hb] at h
       have hne : i0 ≠ i := by intro he; subst he; simp at hb
       obtain ⟨h1, k', x', h2, h3, h4⟩ := heap0_get H f r (Nat.add i0 1) i y h
       have h1 : i0 + 1 ≤ i := h1
       refine ⟨by omega, k', x', ?_, h3, h4⟩
       rw [show i - i0 = (i - Nat.add i0 1) + 1 from by simp only [Nat.add_eq]; omega]
       simpa using h2
   · obtain ⟨h1, k', x', h2, h3, h4⟩ := heap0_get H f r (Nat.add i0 1) i y h
     have h1 : i0 + 1 ≤ i := h1
     refine ⟨by omega, k', x', ?_, h3, h4⟩
     rw [show i - i0 = (i - Nat.add i0 1) + 1 from by simp only [Nat.add_eq]; omega]
     simpa using h2
theorem putAll_get (H : Heap) (b : Nat → Nat) (ro : Nat → Bool) : ∀ (L : Heap) (k : Nat) (x : SV), (putAll H b ro L).get k = some x →
   (∃ i y, L.get i = some y ∧ ro i = false ∧ k = b i ∧ x = y.ren b) ∨ (H.get k = some x ∧ ∀ i y, L.get i = some y → ro i = false → b i ≠ k)
 | [], k, x, h => .inr ⟨h, fun i y h => by simp [Heap.get] at h⟩
 | (i, z) :: r, k, x, h => by
   unfold putAll at h
   cases hr : ro i with
   | true =>
     rw [hr] at h
     rcases putAll_get H b ro r k x h with ⟨i', y, h1, h2, h3, h4⟩ | ⟨h1, h2⟩
     · refine .inl ⟨i', y, ?_, h2, h3, h4⟩
       simp only [Heap.get]
       cases hb : Nat.beq i i' with
       | true => have := Nat.eq_of_beq_eq_true hb; subst this; rw [hr] at h2; cases h2
       | false => exact h1
     · refine .inr ⟨h1, fun i' y hy hro => ?_⟩
       simp only [Heap.get] at hy
       cases hb : Nat.beq i i' with
       | true => have := Nat.eq_of_beq_eq_true hb; subst this; rw [hr] at hro; cases hro
       | false => rw [hb] at hy; exact h2 i' y hy hro
   | false =>
     rw [hr] at h
     simp only [cond_false, Heap.get_put] at h
     split at h
     · rename_i hk
       injection h with h
       exact .inl ⟨i, z, by simp [Heap.get], hr, hk, h.symm⟩
     · rename_i hk
       rcases putAll_get H b ro r k x h with ⟨i', y, h1, h2, h3, h4⟩ | ⟨h1, h2⟩
       · refine .inl ⟨i', y, ?_, h2, h3, h4⟩
         simp only [Heap.get]
         cases hb : Nat.beq i i' with
         | true => have := Nat.eq_of_beq_eq_true hb; subst this; exact absurd h3 hk
         | false => exact h1
       · refine .inr ⟨h1, fun i' y hy hro => ?_⟩
         simp only [Heap.get] at hy
         cases hb : Nat.beq i i' with
         | true => have := Nat.eq_of_beq_eq_true hb; subst this; exact fun he => hk he.symm
         | false => rw [hb] at hy; exact h2 i' y hy hro
abbrev CanonFn := (Nat → Bool) → List SV → Heap → Nat → Out (SV × Heap × Nat)
def CanonOk (f : FuncId) (g : CanonFn) : Prop := ∀ (S : Stat) args H m v H' m', (g S.ro args H m).sel = some (v, H', m') → FnIn Tryz.prog f ∧ ∀ E w, HS S E H w → Calls Tryz.prog f (SV.dens S E args).toArray w fun e w' =>
   ∃ E', Env.upto m E E' ∧ m ≤ m' ∧ e = .returned (v.den S E') ∧ HS S E' H' w' ∧ Fr w w' (MH S E H) ∧
     ∀ k x, H'.get k = some x → S.ro k = false → (w.heap.size ≤ (E'.ad k).block ∨ ∀ j, j < x.size → MH S E H (E'.ad k).block ((E'.ad k).off + j))
noncomputable def lift (g : CanonFn) (ro : Nat → Bool) (depth : Nat) : SpecFn := fun args H nx =>
 let ks := dedup (closure H depth (SV.keyss args))
 let f := idxOf ks
 let b := back ks nx
 let H0 := heap0 H f ks 0
 bif SV.kalls (hasN ks) args && ((ks.all fun k => Nat.blt k nx && (match H.get k with | some x => x.kall (hasN ks) | none => true))) then
   (g (fun i => ro (b i)) (SV.rens f args) H0 ks.length).bind fun r =>
     bif H0.all fun e => ro (b e.1) || (r.2.1.get e.1).isSome then .ret (r.1.ren b, putAll H b (fun i => ro (b i)) r.2.1, Nat.add nx (Nat.sub r.2.2 ks.length)) else .bad
 else .bad
theorem lift_ok {f : FuncId} {g : CanonFn} (hg : CanonOk f g) (S : Stat) (depth : Nat) : SpecOk S [] f (lift g S.ro depth) := by
 intro args H nx v H' nx' h
 unfold lift at h
 obtain ⟨ks, hks⟩ : ∃ ks, dedup (closure H depth (SV.keyss args)) = ks := ⟨_, rfl⟩
 have hnd : ks.Nodup := by rw [← hks]; exact dedup_nodup _
 simp only [hks] at h
 cases hc : (SV.kalls (hasN ks) args && ((ks.all fun k => Nat.blt k nx && (match H.get k with | some x => x.kall (hasN ks) | none => true)))) with
 | false => rw [hc] at h; cases h
 | true =>
   rw [hc] at h
   simp only [cond_true, Out.sel_bind] at h
   cases hs0 : (g (fun i => S.ro (back ks nx i)) (SV.rens (idxOf ks) args) (heap0 H (idxOf ks) ks 0) ks.length).sel with
   | none => rw [hs0] at h; cases h
   | some r =>
     obtain ⟨v0, H0', m'⟩ := r
     rw [hs0] at h
     simp only [Option.bind_some] at h
     cases hret : ((heap0 H (idxOf ks) ks 0).all fun e => S.ro (back ks nx e.1) || (H0'.get e.1).isSome) with
     | false => rw [hret] at h; cases h
     | true =>
       rw [hret] at h
       simp only [cond_true, Out.sel, Option.some.injEq, Prod.mk.injEq] at h
       obtain ⟨rfl, rfl, rfl⟩ := h
       simp only [Bool.and_eq_true] at hc
       obtain ⟨hargs, hall⟩ := hc
       obtain ⟨b, hbd⟩ : ∃ b, back ks nx = b := ⟨_, rfl⟩
       obtain ⟨fi, hfd⟩ : ∃ fi, idxOf ks = fi := ⟨_, rfl⟩
       rw [hbd] at hs0 hret ⊢
       rw [hfd] at hs0 hret
       have hbf : ∀ k, hasN ks k = true → b (fi k) = k := fun k hk => by rw [← hbd, ← hfd]; exact idxOf_back (hasN_mem _ _ hk)
       have hblt : ∀ i k, ks[i]? = some k → b i = k := fun i k hk => by rw [← hbd]; unfold back; rw [nthK_eq, hk]
       have hbge : ∀ i, ks.length ≤ i → b i = nx + (i - ks.length) := fun i hi => by rw [← hbd]; unfold back; rw [nthK_eq, List.getElem?_eq_none hi]; rfl
       have hknx : ∀ k, k ∈ ks → k < nx := fun k hk => by
         have := List.all_eq_true.1 hall k hk
         simp only [Bool.and_eq_true] at this
         simpa using this.1
       have hkk : ∀ k x, k ∈ ks → H.get k = some x → x.kall (hasN ks) = true := fun k x hk hx => by
         have := List.all_eq_true.1 hall k hk
         simp only [Bool.and_eq_true, hx] at this
         exact this.2
       let S0 : Stat := { S with ro := fun i => S.ro (b i) }
       obtain ⟨hfn, hcall⟩ := hg S0 _ _ _ _ _ _ hs0
       refine ⟨hfn, fun E w hs hwin hwb hbnd => ?_⟩
       have hcomp : Env.agree (hasN ks) E ((E.comp b).comp fi) := fun k hk => by
         simp only [Env.comp, hbf k hk, and_self]
       -- the chunks, numbered anew
       have h0 : ∀ i y, (heap0 H fi ks 0).get i = some y → ∃ k x, ks[i]? = some k ∧ H.get k = some x ∧ y = x.ren fi ∧ b i = k := fun i y hy => by
         obtain ⟨_, k, x, h1, h2, h3⟩ := heap0_get H fi ks 0 i y hy
         rw [Nat.sub_zero] at h1
         exact ⟨k, x, h1, h2, h3, hblt i k h1⟩
       have hcells : ∀ k x, k ∈ ks → H.get k = some x → (x.ren fi).cells S0 (E.comp b) = x.cells S E := fun k x hk hx => by
         rw [SV.ren_cells, SV.cells_stat (S := S0) (S' := S) rfl rfl, SV.cells_agree S hcomp x (hkk k x hk hx)]
       have hs0' : HS S0 (E.comp b) (heap0 H fi ks 0) w := by
         refine ⟨fun i y hy hp => ?_, fun i y hy hp hnt hro => ?_, fun i i' y y' hne hy hy' hp hp' hro => ?_, fun i y hy => ?_⟩
         · obtain ⟨k, x, h1, h2, rfl, h4⟩ := h0 i y hy
           rw [hcells k x (List.mem_of_getElem? h1) h2]
           show At w (E.ad (b i)) _
           rw [h4]
           exact hs.at_ k x h2 (by rw [SV.ren_size S E] at hp; exact hp)
         · obtain ⟨k, x, h1, h2, rfl, h4⟩ := h0 i y hy
           show Wr w (E.ad (b i)).block
           rw [h4]
           have hro : S.ro (b i) = false := hro
           rw [h4] at hro
           rw [hcells k x (List.mem_of_getElem? h1) h2] at hnt
           exact hs.wr k x h2 (by rw [SV.ren_size S E] at hp; exact hp) hnt hro
         · obtain ⟨k, x, h1, h2, rfl, h4⟩ := h0 i y hy
           obtain ⟨k', x', h1', h2', rfl, h4'⟩ := h0 i' y' hy'
           show apart (E.ad (b i)) _ (E.ad (b i')) _
           have hro : S.ro (b i) = false := hro
           rw [h4] at hro ⊢
           rw [h4']
           rw [SV.ren_size S E] at hp hp' ⊢
           rw [SV.ren_size S E]
           refine hs.dis k k' x x' (fun he => hne ?_) h2 h2' hp hp' hro
           subst he
           obtain ⟨l1, e1⟩ := List.getElem?_eq_some_iff.1 h1
           obtain ⟨l2, e2⟩ := List.getElem?_eq_some_iff.1 h1'
           exact (List.getElem_inj hnd).1 (e1.trans e2.symm)
         · obtain ⟨k, x, h1, h2, rfl, h4⟩ := h0 i y hy
           exact SV.ren_foOk (SV.foOk_stat (S := S) (S' := S0) rfl (hs.fo k x h2))
       have hden : (SV.dens S0 (E.comp b) (SV.rens fi args)) = SV.dens S E args := by
         rw [SV.rens_dens, SV.dens_stat (S := S0) (S' := S) rfl rfl, SV.dens_agree S hcomp args hargs]
       have hmh : ∀ bl j, MH S0 (E.comp b) (heap0 H fi ks 0) bl j → ∃ k x i, ks[i]? = some k ∧ (heap0 H fi ks 0).get i = some (x.ren fi) ∧ H.get k = some x ∧ S.ro k = false ∧ bl = (E.ad k).block ∧ (E.ad k).off ≤ j ∧ j < (E.ad k).off + x.size := by
         rintro bl j ⟨i, y, hy, hro, h1, h2, h3⟩
         obtain ⟨k, x, e1, e2, rfl, e4⟩ := h0 i y hy
         have hro : S.ro (b i) = false := hro
         have h1 : bl = (E.ad (b i)).block := h1
         have h2 : (E.ad (b i)).off ≤ j := h2
         have h3 : j < (E.ad (b i)).off + (x.ren fi).size := h3
         rw [e4] at hro h1 h2 h3
         rw [SV.ren_size S E] at h3
         exact ⟨k, x, i, e1, hy, e2, hro, h1, h2, h3⟩
       rw [← hden]
       refine (hcall (E.comp b) w hs0').mono ?_
       rintro e w' ⟨E0', hu, hle, rfl, hs1, hfr, hown⟩
       let E' : Env := ⟨fun k => if k < nx then E.ad k else E0'.ad (k - nx + ks.length), fun k => if k < nx then E.cp k else E0'.cp (k - nx + ks.length)⟩
       have hup : Env.upto nx E E' := fun k hk => by simp [E', hk]
       have hcmp : E'.comp b = E0' := by
         have key : ∀ i, E'.ad (b i) = E0'.ad i ∧ E'.cp (b i) = E0'.cp i := by
           intro i
           by_cases hi : i < ks.length
           · have hk : ks[i]? = some ks[i] := List.getElem?_eq_getElem hi
             have hb := hblt i _ hk
             have hlt := hknx _ (List.getElem_mem hi)
             obtain ⟨u1, u2⟩ := hu i hi
             have u1 : E0'.ad i = E.ad (b i) := u1
             have u2 : E0'.cp i = E.cp (b i) := u2
             rw [u1, u2, hb]
             simp [E', hlt]
           · have hb := hbge i (by omega)
             rw [hb]
             have h1 : ¬ nx + (i - ks.length) < nx := by omega
             have h2 : nx + (i - ks.length) - nx + ks.length = i := by omega
             simp only [E', h1, if_false, h2, and_self]
         cases E0'
         simp only [Env.comp, Env.mk.injEq]
         exact ⟨funext fun i => (key i).1, funext fun i => (key i).2⟩
       have had : ∀ i, E'.ad (b i) = E0'.ad i := fun i => by rw [← hcmp]; rfl
       have hret' : ∀ i y, (heap0 H fi ks 0).get i = some y → S.ro (b i) = false → ∃ y', H0'.get i = some y' := fun i y hy hro => by
         have := heap_all hret hy
         simp only [hro, Bool.false_or] at this
         exact Option.isSome_iff_exists.1 this
       -- a chunk that is none of the callee's keeps clear of what the callee wrote
       have hclear : ∀ k x, H.get k = some x → (∀ i y, H0'.get i = some y → S.ro (b i) = false → b i ≠ k) → 0 < x.size → ∀ j, j < x.size → ¬ MH S0 (E.comp b) (heap0 H fi ks 0) (E.ad k).block ((E.ad k).off + j) := by
         intro k x hk hno hp j hj hm
         obtain ⟨k1, x1, i1, e1, e2, e3, e4, e5, e6, e7⟩ := hmh _ _ hm
         have hb1 := hblt i1 k1 e1
         obtain ⟨y', hy'⟩ := hret' i1 _ e2 (by rw [hb1]; exact e4)
         have hne : k1 ≠ k := by rw [← hb1]; exact hno i1 y' hy' (by rw [hb1]; exact e4)
         rcases hs.dis k1 k x1 x hne e3 hk (by omega) hp e4 with hd | hd | hd
         · exact hd e5.symm
         · omega
         · omega
       have hother : ∀ i y, H0'.get i = some y → S.ro (b i) = false → 0 < y.size → ∀ k x, H.get k = some x → (∀ i y, H0'.get i = some y → S.ro (b i) = false → b i ≠ k) → 0 < x.size → apart (E0'.ad i) y.size (E.ad k) x.size := by
         intro i y hy hro hp k x hk hno hxp
         rcases hown i y hy hro with hge | hm
         · refine .inl ?_
           have := (hs.at_ k x hk hxp).lt
           omega
         · refine apart_of (fun j hj hb h1 h2 => ?_) hp hxp
           have := hm j hj
           rw [hb] at this
           exact hclear k x hk hno hxp ((E0'.ad i).off + j - (E.ad k).off) (by omega) (by rw [show (E.ad k).off + ((E0'.ad i).off + j - (E.ad k).off) = (E0'.ad i).off + j from by omega]; exact this)
       refine ⟨E', hup, Nat.le_add_right _ _, ?_, ⟨?_, ?_, ?_, fun k x hk => ?_⟩, ?_, ?_⟩
       · rw [SV.ren_den, hcmp, SV.den_stat (S := S0) (S' := S) rfl rfl]
       · intro k x hk hp
         rcases putAll_get H b _ H0' k x hk with ⟨i, y, h1, h2, rfl, rfl⟩ | ⟨h1, h2⟩
         · rw [SV.ren_cells, hcmp, had]
           rw [SV.ren_size S E] at hp
           have := hs1.at_ i y h1 hp
           rw [SV.cells_stat (S := S0) (S' := S) rfl rfl] at this
           exact this
         · obtain ⟨b1, b2⟩ := hbnd k x h1
           rw [SV.cells_upto S hup x b2, (hup k b1).1]
           exact (hs.at_ k x h1 hp).fr hfr fun j hj => hclear k x h1 h2 hp j (by rw [SV.len] at hj; exact hj)
       · intro k x hk hp hnt hro
         rcases putAll_get H b _ H0' k x hk with ⟨i, y, h1, h2, rfl, rfl⟩ | ⟨h1, h2⟩
         · rw [had]
           rw [SV.ren_size S E] at hp
           rw [SV.ren_cells, hcmp] at hnt
           refine hs1.wr i y h1 hp ?_ h2
           rw [SV.cells_stat (S := S0) (S' := S) rfl rfl]
           exact hnt
         · rw [(hup k (hbnd k x h1).1).1]
           rw [SV.cells_upto S hup x (hbnd k x h1).2] at hnt
           exact (hs.wr k x h1 hp hnt hro).fr hfr
       · intro k k' x x' hne hk hk' hp hp' hro
         rcases putAll_get H b _ H0' k x hk with ⟨i, y, h1, h2, rfl, rfl⟩ | ⟨h1, h2⟩
         · rw [SV.ren_size S E] at hp ⊢
           rcases putAll_get H b _ H0' k' x' hk' with ⟨i', y', h1', h2', rfl, rfl⟩ | ⟨h1', h2'⟩
           · rw [SV.ren_size S E] at hp' ⊢
             rw [had, had]
             exact hs1.dis i i' y y' (fun he => hne (by rw [he])) h1 h1' hp hp' h2
           · rw [had, (hup k' (hbnd k' x' h1').1).1]
             exact hother i y h1 h2 hp k' x' h1' h2' hp'
         · rcases putAll_get H b _ H0' k' x' hk' with ⟨i', y', h1', h2', rfl, rfl⟩ | ⟨h1', h2'⟩
           · rw [SV.ren_size S E] at hp' ⊢
             rw [had, (hup k (hbnd k x h1).1).1]
             exact (hother i' y' h1' h2' hp' k x h1 h2 hp).symm
           · rw [(hup k (hbnd k x h1).1).1, (hup k' (hbnd k' x' h1').1).1]
             exact hs.dis k k' x x' hne h1 h1' hp hp' hro
       · rcases putAll_get H b _ H0' k x hk with ⟨i, y, h1, h2, rfl, rfl⟩ | ⟨h1, h2⟩
         · exact SV.ren_foOk (SV.foOk_stat (S := S0) (S' := S) rfl (hs1.fo i y h1))
         · exact hs.fo k x h1
       · refine hfr.mono fun bl j _ hm => ?_
         obtain ⟨k1, x1, i1, e1, e2, e3, e4, e5, e6, e7⟩ := hmh _ _ hm
         exact ⟨k1, x1, e3, e4, e5, e6, e7⟩
       · intro k x hk hro
         rcases putAll_get H b _ H0' k x hk with ⟨i, y, h1, h2, rfl, rfl⟩ | ⟨h1, h2⟩
         · rw [had, SV.ren_size S E]
           rcases hown i y h1 h2 with hge | hm
           · exact .inl hge
           · refine .inr fun j hj => ?_
             obtain ⟨k1, x1, i1, e1, e2, e3, e4, e5, e6, e7⟩ := hmh _ _ (hm j hj)
             exact ⟨k1, x1, e3, e4, e5, e6, e7⟩
         · rw [(hup k (hbnd k x h1).1).1]
           exact .inr fun j hj => ⟨k, x, h1, hro, rfl, by omega, by omega⟩
end
section
open Go Go.RowKit
abbrev LoopFn := St → Option (Out (Ex × St))
def lookG : List (Nat × LoopFn) → Nat → St → Option (Out (Ex × St))
 | [], _, _ => none
 | (k, g) :: r, q, st => bif Nat.beq k q then g st else lookG r q st
def withLoops (c : Ctx) (ls : List (Nat × LoopFn)) : Ctx := { c with loop := lookG ls }
theorem withLoops_full {P : Program} {c : Ctx} (h : CtxFull P c) (ls : List (Nat × LoopFn)) : CtxFull P (withLoops c ls) :=
 { small := h.small, mixed := h.mixed, tys := h.tys, eqb := h.eqb, flds := h.flds, read := h.read, spec := h.spec, make := h.make, tail := fun n ops l st r st' hr hs w0 M Q tl a w E sat hK => h.tail n ops l st r st' hr hs w0 M Q tl a w E ⟨sat.slots, sat.hs, sat.own, sat.fr, sat.win, sat.winb, sat.size, sat.defers⟩ fun E' a' w' hu hle s => hK E' a' w' hu hle ⟨s.slots, s.hs, s.own, s.fr, s.win, s.winb, s.size, s.defers⟩ }
def loopAt (code : Code) (i : Nat) : Code := ((loopsOf code)[i]?).getD .skip
theorem LoopsOk.of {P : Program} {c : Ctx} {n : Nat} {code : Code} (h : ∀ i, i < (loopsOf code).length → LoopOk P c n (loopAt code i) (c.loop (firstId (loopAt code i)))) : LoopsOk P c n code := by
 intro b hb
 obtain ⟨i, hi, rfl⟩ := List.getElem_of_mem hb
 have := h i hi
 unfold loopAt at this
 rw [List.getElem?_eq_getElem hi] at this
 exact this
theorem walk_ok {f : FuncId} {fn : Func} (hf : Tryz.prog.funcs[f]? = some fn) (hname : (fn.name == "runtime.NumGoroutine") = false) {c : Ctx} {S : Stat} (hc : CtxFull Tryz.prog c) (hS : c.S = S) (hwin : c.win = []) (hl : ∀ code, fn.body = some code → LoopsOk Tryz.prog c fn.ntmps code)
   {fuel : Nat} {args : List SV} {H H' : Heap} {m m' : Nat} {v : SV} (h : (inline c fuel fn args H m).sel = some (v, H', m')) : FnIn Tryz.prog f ∧ ∀ E w, HS S E H w → Calls Tryz.prog f (SV.dens S E args).toArray w fun e w' =>
   ∃ E', Env.upto m E E' ∧ m ≤ m' ∧ e = .returned (v.den S E') ∧ HS S E' H' w' ∧ Fr w w' (MH S E H) ∧
     ∀ k x, H'.get k = some x → S.ro k = false → (w.heap.size ≤ (E'.ad k).block ∨ ∀ j, j < x.size → MH S E H (E'.ad k).block ((E'.ad k).off + j)) := by
 have hbody : fn.body.isNone = false := by
   unfold inline at h
   split at h
   · cases h
   · rename_i code hc; rw [hc]; rfl
 refine ⟨⟨fn, hf, hbody, hname⟩, fun E w hs => ?_⟩
 subst hS
 exact inline_ok (P := Tryz.prog) hc (fun n => draw_ok hc) hf hl h (E := E) (w := w) hs (by rw [hwin]; intro n j k z hm; cases hm) (by rw [hwin]; intro n j k z hm; cases hm)
def freeAll (ro : Nat → Bool) (H : Heap) : Bool := H.all fun e => !(ro e.1)
end
end Go.Proofs.YtjemfkoamfnofaaGreat
