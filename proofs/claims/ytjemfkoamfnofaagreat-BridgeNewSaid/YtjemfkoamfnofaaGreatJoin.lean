/- Calls that write into some chunks alone, what comes of all branches joined; calls of a function out of a table. -/
import Derived.Test.YtjemfkoamfnofaaGreatFor
set_option linter.unusedVariables false
namespace Go.Proofs.YtjemfkoamfnofaaGreat
open Go Go.RowKit

def tabGo (sp : FuncId → List SV → Heap → Nat → Out (SV × Heap × Nat)) (f : FuncId) (args : List SV) (H : Heap) (nx : Nat) : Nat → Nat → Out (SV × Heap × Nat)
  | _, 0 => .bad
  | b, k + 1 => .ite (Nat.beq f b) (sp b args H nx) (tabGo sp f args H nx (Nat.add b 1) k)
theorem tabGo_sel {sp : FuncId → List SV → Heap → Nat → Out (SV × Heap × Nat)} {f : FuncId} {args : List SV} {H : Heap} {nx : Nat} {r : SV × Heap × Nat} : ∀ {k b : Nat}, (tabGo sp f args H nx b k).sel = some r → (sp f args H nx).sel = some r
  | 0, b, h => by cases h
  | k + 1, b, h => by
    unfold tabGo at h
    cases hb : Nat.beq f b with
    | true =>
      have := Nat.eq_of_beq_eq_true hb; subst this
      rw [hb] at h
      simpa [Out.sel] using h
    | false =>
      rw [hb] at h
      simp only [Out.sel, Bool.false_eq_true, if_false] at h
      exact tabGo_sel h
noncomputable def tabCtx (c : Ctx) (ps : List (Nat × ReadFn)) (base n : Nat) : Ctx :=
  { c with read := lookP ps, spec := fun f args H nx => bif Nat.ble base f then tabGo c.spec f args H nx base n else c.spec f args H nx, loop := fun _ _ => none }
theorem tabCtx_full {c : Ctx} (hc : CtxFull Tryz.prog c) {ps : List (Nat × ReadFn)} (hp : ∀ f g, (f, g) ∈ ps → ReadOk c.S c.win f g) (base n : Nat) : CtxFull Tryz.prog (tabCtx c ps base n) := by
  refine { small := hc.small, mixed := hc.mixed, tys := hc.tys, eqb := hc.eqb, flds := hc.flds, read := ?_, spec := ?_, make := hc.make, tail := fun n ops l st r st' hr hs w0 M Q tl a w E sat hK => hc.tail n ops l st r st' hr hs w0 M Q tl a w E ⟨sat.slots, sat.hs, sat.own, sat.fr, sat.win, sat.winb, sat.size, sat.defers⟩ fun E' a' w' hu hle s => hK E' a' w' hu hle ⟨s.slots, s.hs, s.own, s.fr, s.win, s.winb, s.size, s.defers⟩ }
  · intro f args H nx y ks cd h hcd
    obtain ⟨g, hg, hy⟩ := lookP_mem h
    exact hp f g hg args H nx y ks cd hy hcd
  · intro f args H nx v H' nx' h
    refine hc.spec f args H nx v H' nx' ?_
    have h' : (bif Nat.ble base f then tabGo c.spec f args H nx base n else c.spec f args H nx).sel = some (v, H', nx') := h
    cases hb : Nat.ble base f with
    | true => rw [hb] at h'; exact tabGo_sel h'
    | false => rw [hb] at h'; exact h'

/-! ### joins of what is written -/
def joinRows (b : Bool) : Rows → Rows → Option Rows
  | .port l, .port l' => some (.port (if b = true then l else l'))
  | .sent l, .sent l' => some (.sent (if b = true then l else l'))
  | .int k l, .int k' l' => bif k == k' then some (.int k (if b = true then l else l')) else none
  | .bool l, .bool l' => some (.bool (if b = true then l else l'))
  | _, _ => none
theorem joinRows_ok {b : Bool} {x y z : Rows} (h : joinRows b x y = some z) : z = if b = true then x else y := by
  unfold joinRows at h
  split at h <;> first | cases h | skip
  · cases b <;> rfl
  · cases b <;> rfl
  · rename_i k l k' l'
    cases hb : (k == k') with
    | false => rw [hb] at h; cases h
    | true =>
      rw [hb] at h
      have := beq_iff_eq.1 hb; subst this
      injection h with h; subst h
      cases b <;> rfl
  · cases b <;> rfl
mutual
def joinSV (b : Bool) : SV → SV → Option SV
  | .agg l, y => match y with
    | .agg l' => (match joinSVs b l l' with | some r => some (.agg r) | none => none)
    | _ => none
  | .tup l, y => match y with
    | .tup l' => (match joinSVs b l l' with | some r => some (.tup r) | none => none)
    | _ => none
  | .tab T, y => match y with
    | .tab Q => (match joinTab b T Q with | some r => some (.tab r) | none => none)
    | _ => none
  | .rows R, y => match y with
    | .rows Q => (match joinRows b R Q with | some r => some (.rows r) | none => none)
    | _ => none
  | .foc j a x c, y => match y with
    | .foc j' a' x' c' => bif Nat.beq j j' then (match joinRows b a a', joinSV b x x', joinRows b c c' with | some a, some x, some c => some (.foc j a x c) | _, _, _ => none) else none
    | _ => none
  | .ptr c o, y => match y with
    | .ptr c' o' => bif Nat.beq c c' && Nat.beq o o' then some (.ptr c o) else none
    | _ => none
  | .slr c n u q, y => match y with
    | .slr c' n' u' q' => bif Nat.beq c c' && (Nat.beq u u' && q == q') then some (.slr c (if b = true then n else n') u q) else none
    | _ => none
  | .sl n, y => match y with
    | .sl n' => bif Nat.beq n n' then some (.sl n) else none
    | _ => none
  | x, y => joinTwo b x y
def joinSVs (b : Bool) : List SV → List SV → Option (List SV)
  | [], y => match y with | [] => some [] | _ => none
  | x :: r, y => match y with
    | x' :: r' => (match joinSV b x x', joinSVs b r r' with | some z, some s => some (z :: s) | _, _ => none)
    | _ => none
end
/-- told alike -/
structure Alike (x z : SV) : Prop where
  den : ∀ S E, x.den S E = z.den S E
  cells : ∀ S E, x.cells S E = z.cells S E
  fo : ∀ S, x.foOk S → z.foOk S
theorem Alike.rfl' (x : SV) : Alike x x := ⟨fun _ _ => rfl, fun _ _ => rfl, fun _ h => h⟩
theorem joinTwo_alike {b : Bool} {x y z : SV} (h : joinTwo b x y = some z) : Alike (if b = true then x else y) z := by
  have hd : ∀ S E, (if b = true then x else y).den S E = z.den S E := fun S E => by rw [joinTwo_den h]; cases b <;> rfl
  refine ⟨hd, fun S E => ?_, fun S _ => ?_⟩
  · unfold joinTwo at h
    split at h
    · rename_i k n k' m hx hy
      cases hb : (k == k') with
      | false => rw [hb] at h; cases h
      | true =>
        rw [hb] at h
        simp only [cond_true, Option.some.injEq] at h
        subst h
        have := beq_iff_eq.1 hb; subst this
        have e1 : x.aggr = false := by unfold asInt at hx; split at hx <;> first | rfl | cases hx
        have e2 : y.aggr = false := by unfold asInt at hy; split at hy <;> first | rfl | cases hy
        rw [SV.cells_flat S E _ (by cases b <;> assumption), SV.cells_flat S E (.v _) rfl, hd]
    · split at h
      · rename_i p q hx hy
        injection h with h; subst h
        have e1 : x.aggr = false := by unfold asBool at hx; split at hx <;> first | rfl | cases hx
        have e2 : y.aggr = false := by unfold asBool at hy; split at hy <;> first | rfl | cases hy
        rw [SV.cells_flat S E _ (by cases b <;> assumption), SV.cells_flat S E (.v _) rfl, hd]
      · split at h
        · split at h
          · rename_i t ht
            injection h with h; subst h
            rw [joinRec_ok ht]
            cases b <;> rfl
          · cases h
        · cases h
  · unfold joinTwo at h
    split at h
    · rename_i k n k' m hx hy
      cases hb : (k == k') with
      | false => rw [hb] at h; cases h
      | true => rw [hb] at h; injection h with h; subst h; trivial
    · split at h
      · injection h with h; subst h; trivial
      · split at h
        · split at h
          · injection h with h; subst h; trivial
          · cases h
        · cases h
theorem joinTwo_agg (b : Bool) (l : List SV) (y z : SV) (h : joinTwo b (.agg l) y = some z) : False := by
  unfold joinTwo at h
  simp [asInt, asBool] at h
mutual
theorem joinSV_ok {b : Bool} : ∀ {x y z : SV}, joinSV b x y = some z → Alike (if b = true then x else y) z
  | .agg l, y, z, h => by
    unfold joinSV at h
    split at h
    · rename_i l'
      split at h
      · rename_i r hr
        injection h with h; subst h
        obtain ⟨h1, h2⟩ := joinSVs_ok hr
        cases b with
        | true => exact ⟨fun S E => by simpa [SV.den] using h2 S E, fun S E => by simpa [SV.cells] using h2 S E, fun S _ => trivial⟩
        | false => exact ⟨fun S E => by simpa [SV.den] using h2 S E, fun S E => by simpa [SV.cells] using h2 S E, fun S _ => trivial⟩
      · cases h
    · cases h
  | .tup l, y, z, h => by
    unfold joinSV at h
    split at h
    · rename_i l'
      split at h
      · rename_i r hr
        injection h with h; subst h
        obtain ⟨h1, h2⟩ := joinSVs_ok hr
        cases b with
        | true => exact ⟨fun S E => by simpa [SV.den] using h1 S E, fun S E => by simpa [SV.cells] using h1 S E, fun S _ => trivial⟩
        | false => exact ⟨fun S E => by simpa [SV.den] using h1 S E, fun S E => by simpa [SV.cells] using h1 S E, fun S _ => trivial⟩
      · cases h
    · cases h
  | .tab T, y, z, h => by
    unfold joinSV at h
    split at h
    · split at h
      · rename_i r hr
        injection h with h; subst h
        rw [joinTab_ok hr]
        cases b <;> exact Alike.rfl' _
      · cases h
    · cases h
  | .rows R, y, z, h => by
    unfold joinSV at h
    split at h
    · split at h
      · rename_i r hr
        injection h with h; subst h
        rw [joinRows_ok hr]
        cases b <;> exact Alike.rfl' _
      · cases h
    · cases h
  | .foc j a x c, y, z, h => by
    unfold joinSV at h
    split at h
    · rename_i j' a' x' c'
      cases hj : Nat.beq j j' with
      | false => rw [hj] at h; cases h
      | true =>
        rw [hj] at h
        have := Nat.eq_of_beq_eq_true hj; subst this
        simp only [cond_true] at h
        split at h
        · rename_i a2 x2 c2 ha hx hc
          injection h with h; subst h
          obtain ⟨i1, i2, i3⟩ := joinSV_ok hx
          rw [joinRows_ok ha, joinRows_ok hc]
          cases b with
          | true => exact ⟨fun S E => by simpa [SV.den] using i2 S E, fun S E => by simpa [SV.cells] using i2 S E, fun S hf => hf⟩
          | false => exact ⟨fun S E => by simpa [SV.den] using i2 S E, fun S E => by simpa [SV.cells] using i2 S E, fun S hf => hf⟩
        · cases h
    · cases h
  | .ptr c o, y, z, h => by
    unfold joinSV at h
    split at h
    · rename_i c' o'
      cases hj : (Nat.beq c c' && Nat.beq o o') with
      | false => rw [hj] at h; cases h
      | true =>
        rw [hj] at h
        injection h with h; subst h
        simp only [Bool.and_eq_true, Nat.beq_eq] at hj
        obtain ⟨rfl, rfl⟩ := hj
        cases b <;> exact Alike.rfl' _
    · cases h
  | .slr c n u q, y, z, h => by
    unfold joinSV at h
    split at h
    · rename_i c' n' u' q'
      cases hj : (Nat.beq c c' && (Nat.beq u u' && q == q')) with
      | false => rw [hj] at h; cases h
      | true =>
        rw [hj] at h
        injection h with h; subst h
        simp only [Bool.and_eq_true, Nat.beq_eq, beq_iff_eq] at hj
        obtain ⟨rfl, rfl, rfl⟩ := hj
        cases b <;> exact Alike.rfl' _
    · cases h
  | .sl n, y, z, h => by
    unfold joinSV at h
    split at h
    · rename_i n'
      cases hj : Nat.beq n n' with
      | false => rw [hj] at h; cases h
      | true =>
        rw [hj] at h
        injection h with h; subst h
        have := Nat.eq_of_beq_eq_true hj; subst this
        cases b <;> exact Alike.rfl' _
    · cases h
  | .v _, y, z, h | .kb _, y, z, h | .ki _ _, y, z, h | .mp _, y, z, h | .ix _, y, z, h | .slc _ _ _ _, y, z, h | .slu _ _ _ _, y, z, h | .fn _ _ _, y, z, h | .rcd _, y, z, h | .elt _ _ _ _, y, z, h => by
    unfold joinSV at h
    exact joinTwo_alike h
theorem joinSVs_ok {b : Bool} : ∀ {x y z : List SV}, joinSVs b x y = some z → (∀ S E, SV.dens S E (if b = true then x else y) = SV.dens S E z) ∧ ∀ S E, SV.cellss S E (if b = true then x else y) = SV.cellss S E z
  | [], y, z, h => by
    unfold joinSVs at h
    split at h
    · injection h with h; subst h
      cases b <;> exact ⟨fun _ _ => rfl, fun _ _ => rfl⟩
    · cases h
  | x :: r, y, z, h => by
    unfold joinSVs at h
    split at h
    · rename_i x' r'
      split at h
      · rename_i u s hu hs
        injection h with h; subst h
        obtain ⟨i1, i2, _⟩ := joinSV_ok hu
        obtain ⟨k1, k2⟩ := joinSVs_ok hs
        cases b with
        | true => exact ⟨fun S E => by simp only [SV.dens]; rw [← i1, ← k1]; rfl, fun S E => by simp only [SV.cellss]; rw [← i2, ← k2]; rfl⟩
        | false => exact ⟨fun S E => by simp only [SV.dens]; rw [← i1, ← k1]; rfl, fun S E => by simp only [SV.cellss]; rw [← i2, ← k2]; rfl⟩
      · cases h
    · cases h
end

def joinC (b : Bool) : Option Bool → Option Bool → Option Bool
  | none, none => none
  | x, y => some (if b = true then okC x else okC y)
theorem joinC_ok {b : Bool} {x y : Option Bool} (h : okC (joinC b x y) = true) : okC (if b = true then x else y) = true := by
  cases x <;> cases y <;> cases b <;> simp_all [joinC, okC]
/-- the chunks ks of a heap -/
def pickH (H : Heap) : List Nat → Option (List SV)
  | [] => some []
  | k :: r => match H.get k, pickH H r with | some x, some l => some (x :: l) | _, _ => none
theorem pickH_get {H : Heap} : ∀ {ks : List Nat} {l : List SV}, pickH H ks = some l → l.length = ks.length ∧ ∀ (i k : Nat), ks[i]? = some k → ∃ x, l[i]? = some x ∧ H.get k = some x
  | [], l, h => by
    injection h with h; subst h
    exact ⟨rfl, fun i k hk => by simp at hk⟩
  | k :: r, l, h => by
    unfold pickH at h
    split at h
    · rename_i x s hx hs
      injection h with h; subst h
      obtain ⟨h1, h2⟩ := pickH_get hs
      refine ⟨by simp [h1], fun i q hq => ?_⟩
      cases i with
      | zero => simp only [List.getElem?_cons_zero, Option.some.injEq] at hq; subst hq; exact ⟨x, rfl, hx⟩
      | succ i => simpa using h2 i q (by simpa using hq)
    · cases h
def Out.isBad {α : Type} : Out α → Bool
  | .bad => true
  | _ => false
abbrev JW := SV × List SV × Option Bool
def joinIte (b tb eb : Bool) (t e : Option JW) : Option JW :=
  match tb with
  | true => (match eb with
    | true => none
    | false => (match e with | some (y, l, c) => some (y, l, some (!b && okC c)) | none => none))
  | false => (match eb with
    | true => (match t with | some (y, l, c) => some (y, l, some (b && okC c)) | none => none)
    | false => (match t with
      | some (x, l, c) => (match e with
        | some (y, l', c') => (match joinSV b x y with
          | some z => (match joinSVs b l l' with | some s => some (z, s, joinC b c c') | none => none)
          | none => none)
        | none => none)
      | none => none))
/-- what is yielded and what the chunks ks hold, joined; under a test -/
def joinW (ks : List Nat) : Out (SV × Heap × Nat) → Option JW
  | .ret r => match pickH r.2.1 ks with | some l => some (r.1, l, none) | none => none
  | .ite b t e => joinIte b t.isBad e.isBad (joinW ks t) (joinW ks e)
  | .bad => none
/-- lists told alike -/
def AlikeL : List SV → List SV → Prop
  | [], [] => True
  | x :: r, z :: s => Alike x z ∧ AlikeL r s
  | _, _ => False
theorem AlikeL.rfl' : ∀ l : List SV, AlikeL l l
  | [] => trivial
  | x :: r => ⟨Alike.rfl' x, AlikeL.rfl' r⟩
theorem Alike.trans {x y z : SV} (h : Alike x y) (k : Alike y z) : Alike x z := ⟨fun S E => (h.den S E).trans (k.den S E), fun S E => (h.cells S E).trans (k.cells S E), fun S hx => k.fo S (h.fo S hx)⟩
theorem AlikeL.trans : ∀ {x y z : List SV}, AlikeL x y → AlikeL y z → AlikeL x z
  | [], [], [], _, _ => trivial
  | _ :: _, _ :: _, _ :: _, h, k => ⟨h.1.trans k.1, h.2.trans k.2⟩
  | [], [], _ :: _, _, k => k.elim
  | [], _ :: _, _, h, _ => h.elim
  | _ :: _, [], _, h, _ => h.elim
  | _ :: _, _ :: _, [], _, k => k.elim
theorem joinSVs_alike {b : Bool} : ∀ {x y z : List SV}, joinSVs b x y = some z → AlikeL (if b = true then x else y) z
  | [], y, z, h => by
    unfold joinSVs at h
    split at h
    · injection h with h; subst h
      cases b <;> trivial
    · cases h
  | x :: r, y, z, h => by
    unfold joinSVs at h
    split at h
    · rename_i x' r'
      split at h
      · rename_i u s hu hs
        injection h with h; subst h
        have h1 := joinSV_ok hu
        have h2 := joinSVs_alike hs
        cases b with
        | true => exact ⟨h1, h2⟩
        | false => exact ⟨h1, h2⟩
      · cases h
    · cases h
theorem joinW_sel {ks : List Nat} : ∀ {o : Out (SV × Heap × Nat)} {y : SV} {l : List SV} {c : Option Bool}, joinW ks o = some (y, l, c) → okC c = true → ∃ r l0, o.sel = some r ∧ Alike r.1 y ∧ pickH r.2.1 ks = some l0 ∧ AlikeL l0 l
  | .ret r, y, l, c, h, hc => by
    unfold joinW at h
    split at h
    · rename_i l0 hl
      obtain ⟨rfl, h2⟩ := Prod.mk.inj (Option.some.inj h)
      obtain ⟨rfl, rfl⟩ := Prod.mk.inj h2
      exact ⟨r, l0, rfl, Alike.rfl' _, hl, AlikeL.rfl' _⟩
    · cases h
  | .ite b t e, y, l, c, h, hc => by
    unfold joinW joinIte at h
    split at h
    · split at h
      · cases h
      · split at h
        · rename_i y' l' c' hy
          obtain ⟨rfl, h2⟩ := Prod.mk.inj (Option.some.inj h)
          obtain ⟨rfl, rfl⟩ := Prod.mk.inj h2
          simp only [okC, Bool.and_eq_true, Bool.not_eq_true'] at hc
          obtain ⟨r, l0, h1, h2, h3, h4⟩ := joinW_sel hy hc.2
          exact ⟨r, l0, by rw [hc.1]; simpa [Out.sel] using h1, h2, h3, h4⟩
        · cases h
    · split at h
      · split at h
        · rename_i x lx cx hx
          obtain ⟨rfl, h2⟩ := Prod.mk.inj (Option.some.inj h)
          obtain ⟨rfl, rfl⟩ := Prod.mk.inj h2
          have hcc : (b && okC cx) = true := hc
          simp only [Bool.and_eq_true] at hcc
          obtain ⟨r, l0, h1, h2, h3, h4⟩ := joinW_sel hx hcc.2
          exact ⟨r, l0, by rw [hcc.1]; simpa [Out.sel] using h1, h2, h3, h4⟩
        · cases h
      · split at h
        · rename_i x lx cx hx
          split at h
          · rename_i y' l' c' hy
            split at h
            · rename_i z hz
              split at h
              · rename_i s hs
                obtain ⟨rfl, h2⟩ := Prod.mk.inj (Option.some.inj h)
                obtain ⟨rfl, rfl⟩ := Prod.mk.inj h2
                have hcc := joinC_ok hc
                cases b with
                | true =>
                  obtain ⟨r, l0, h1, h2, h3, h4⟩ := joinW_sel hx hcc
                  exact ⟨r, l0, by simpa [Out.sel] using h1, h2.trans (joinSV_ok hz), h3, h4.trans (joinSVs_alike hs)⟩
                | false =>
                  obtain ⟨r, l0, h1, h2, h3, h4⟩ := joinW_sel hy hcc
                  exact ⟨r, l0, by simpa [Out.sel] using h1, h2.trans (joinSV_ok hz), h3, h4.trans (joinSVs_alike hs)⟩
              · cases h
            · cases h
          · cases h
        · cases h
  | .bad, y, l, c, h, hc => by cases h

/-! ### calls, joined -/
/-- the chunks of a list alone may be written -/
def Stat.only (S : Stat) (ks : List Nat) (nx : Nat) : Stat := { S with ro := fun k => bif Nat.blt k nx then (bif hasN ks k then S.ro k else true) else S.ro k }
def putsH (H : Heap) : List Nat → List SV → Heap
  | k :: r, x :: l => putsH (H.put k x) r l
  | _, _ => H
/-- a function that writes into some chunks that it finds alone (ks: which, by what it is called with) -/
noncomputable def jsp (mk : Stat → Ctx) (S : Stat) (ks : List SV → List Nat) (fuel f : Nat) : SpecFn := fun args H nx =>
  let ks := ks args
  bif distinct ks && (ks.all fun k => Nat.blt k nx && !(S.ro k)) then
    (match joinW ks (inline (mk (S.only ks nx)) fuel (fnOf f) args H nx) with
    | some (v, l, c) => bif v.bnd nx && SV.bnds nx l then Out.when c (v, putsH H ks l, nx) else .bad
    | none => .bad)
  else .bad

theorem putsH_get : ∀ {ks : List Nat} {l : List SV} {H : Heap}, l.length = ks.length → distinct ks = true → ∀ {k : Nat} {x : SV}, (putsH H ks l).get k = some x →
    (∃ i : Nat, ks[i]? = some k ∧ l[i]? = some x) ∨ (hasN ks k = false ∧ H.get k = some x)
  | [], l, H, hl, _, k, x, h => by
    cases l with
    | nil => exact .inr ⟨rfl, h⟩
    | cons y l => cases hl
  | q :: r, [], H, hl, _, k, x, h => by cases hl
  | q :: r, y :: l, H, hl, hd, k, x, h => by
    simp only [distinct, Bool.and_eq_true, Bool.not_eq_true'] at hd
    rcases putsH_get (H := H.put q y) (ks := r) (l := l) (by simpa using hl) hd.2 h with ⟨i, h1, h2⟩ | ⟨h1, h2⟩
    · exact .inl ⟨i + 1, by simpa using h1, by simpa using h2⟩
    · rw [Heap.get_put] at h2
      split at h2
      · rename_i he; subst he
        injection h2 with h2; subst h2
        exact .inl ⟨0, rfl, rfl⟩
      · rename_i he
        refine .inr ⟨?_, h2⟩
        unfold hasN
        have : Nat.beq q k = false := by
          cases hb : Nat.beq q k with
          | false => rfl
          | true => exact absurd (Nat.eq_of_beq_eq_true hb).symm he
        rw [this]; exact h1
theorem AlikeL.get : ∀ {l l' : List SV}, AlikeL l l' → ∀ {i : Nat} {x : SV}, l'[i]? = some x → ∃ x0, l[i]? = some x0 ∧ Alike x0 x
  | [], [], _, i, x, h => by simp at h
  | a :: l, b :: l', hh, i, x, h => by
    cases i with
    | zero => simp only [List.getElem?_cons_zero, Option.some.injEq] at h; subst h; exact ⟨a, rfl, hh.1⟩
    | succ i => simpa using hh.2.get (by simpa using h)
  | [], _ :: _, hh, _, _, _ => hh.elim
  | _ :: _, [], hh, _, _, _ => hh.elim
theorem AlikeL.len : ∀ {l l' : List SV}, AlikeL l l' → l'.length = l.length
  | [], [], _ => rfl
  | _ :: l, _ :: l', h => by simp [h.2.len]
  | [], _ :: _, h => h.elim
  | _ :: _, [], h => h.elim
theorem bnds_get {n : Nat} : ∀ {l : List SV}, SV.bnds n l = true → ∀ {i : Nat} {x : SV}, l[i]? = some x → x.bnd n = true
  | [], _, i, x, h => by simp at h
  | a :: l, hb, i, x, h => by
    have hc : a.kall (fun c => Nat.blt c n) = true ∧ SV.kalls (fun c => Nat.blt c n) l = true := by simpa [SV.bnds, SV.kalls] using hb
    cases i with
    | zero => simp only [List.getElem?_cons_zero, Option.some.injEq] at h; subst h; exact hc.1
    | succ i => exact bnds_get (l := l) hc.2 (by simpa using h)
theorem jsp_ok {mk : Stat → Ctx} (hm : Fam mk) (S : Stat) (ks : List SV → List Nat) {fuel f : Nat} {fn : Func} (hf : Tryz.prog.funcs[f]? = some fn) (hname : ((fnOf f).name == "runtime.NumGoroutine") = false) : SpecOk S [] f (jsp mk S ks fuel f) := by
  intro args H nx v H' nx' h
  unfold jsp at h
  dsimp only at h
  generalize ks args = ks at h
  cases hg : (distinct ks && (ks.all fun k => Nat.blt k nx && !(S.ro k))) with
  | false => rw [hg] at h; cases h
  | true =>
  rw [hg] at h
  simp only [cond_true] at h
  simp only [Bool.and_eq_true] at hg
  obtain ⟨hdis, hall⟩ := hg
  split at h
  rotate_left
  · cases h
  rename_i v1 l c hj
  cases hb : (v1.bnd nx && SV.bnds nx l) with
  | false => rw [hb] at h; cases h
  | true =>
  rw [hb] at h
  simp only [cond_true] at h
  simp only [Bool.and_eq_true] at hb
  obtain ⟨hc, he⟩ := Out.when_sel h
  obtain ⟨rfl, he2⟩ := Prod.mk.inj he
  obtain ⟨rfl, rfl⟩ := Prod.mk.inj he2
  obtain ⟨⟨v0, H1, nx1⟩, l0, hr, hav, hp, hal⟩ := joinW_sel hj hc
  obtain ⟨hpl, hpg⟩ := pickH_get hp
  have hS' : (mk (S.only ks nx)).S = S.only ks nx := hm.S _
  obtain ⟨h1, h2⟩ := walk_ok (fnOf_eq hf) hname (hm.full (S.only ks nx)) hS' (hm.win _) (fun code _ => LoopsOk.none (hm.loop _) code) hr
  refine ⟨h1, fun E w hs hw hwb hbd => ?_⟩
  have hkn : ∀ k, k ∈ ks → k < nx ∧ S.ro k = false := fun k hk => by
    have := List.all_eq_true.1 hall k hk
    simpa using this
  have hro' : ∀ k, (S.only ks nx).ro k = false → S.ro k = false := by
    intro k hk
    simp only [Stat.only] at hk
    cases h1 : Nat.blt k nx with
    | false => rw [h1] at hk; exact hk
    | true =>
      rw [h1] at hk
      cases h2 : hasN ks k with
      | false => rw [h2] at hk; cases hk
      | true => rw [h2] at hk; exact hk
  have hin : ∀ k, k < nx → (S.only ks nx).ro k = false → k ∈ ks := by
    intro k hkx hk
    simp only [Stat.only] at hk
    rw [show Nat.blt k nx = true from by simpa using hkx] at hk
    cases h2 : hasN ks k with
    | false => rw [h2] at hk; cases hk
    | true => exact hasN_mem _ _ h2
  have hks : ∀ k, k ∈ ks → (S.only ks nx).ro k = false := by
    intro k hk
    simp only [Stat.only]
    rw [show Nat.blt k nx = true from by simpa using (hkn k hk).1, hasN_of hk]
    exact (hkn k hk).2
  have hcs : ∀ (E : Env) (x : SV), x.cells (S.only ks nx) E = x.cells S E := fun E x => SV.cells_stat (S := S.only ks nx) (S' := S) rfl rfl E x
  have hs' : HS (S.only ks nx) E H w := by
    refine ⟨fun k x hk hp => by rw [hcs]; exact hs.at_ k x hk hp, fun k x hk hp hnt hro => by rw [hcs] at hnt; exact hs.wr k x hk hp hnt (hro' k hro), fun k k' x x' hne hk hk' hp hp' hro => hs.dis k k' x x' hne hk hk' hp hp' (hro' k hro), fun k x hk => SV.foOk_stat (S := S) (S' := S.only ks nx) rfl (hs.fo k x hk)⟩
  have hmh : ∀ b j, MH (S.only ks nx) E H b j → MH S E H b j := by
    rintro b j ⟨k, x, hk, hro, h3⟩
    exact ⟨k, x, hk, hro' k hro, h3⟩
  have hda : SV.dens S E args = SV.dens (S.only ks nx) E args := SV.dens_stat (S := S) (S' := S.only ks nx) rfl rfl E args
  rw [hda]
  refine (h2 E w hs').mono ?_
  rintro e w' ⟨E', hu, hle, rfl, hH1, hfr, hown⟩
  have hclear : ∀ k x, H.get k = some x → hasN ks k = false → 0 < x.size → ∀ j, j < x.size → ¬ MH (S.only ks nx) E H (E.ad k).block ((E.ad k).off + j) := by
    rintro k x hk hno hp j hj ⟨k', x', hk', hro, hbl, hlo, hhi⟩
    have hk'm := hin k' (hbd k' x' hk').1 hro
    have hne : k' ≠ k := by intro he; subst he; rw [hasN_of hk'm] at hno; cases hno
    rcases hs.dis k' k x' x hne hk' hk (by omega) hp (hro' k' hro) with hd | hd | hd
    · exact hd hbl.symm
    · omega
    · omega
  have hold : ∀ k x, H.get k = some x → hasN ks k = false → 0 < x.size → At w' (E.ad k) (x.cells S E) := fun k x hk hno hp =>
    (hs.at_ k x hk hp).fr hfr fun j hj => hclear k x hk hno hp j (by rw [SV.len] at hj; exact hj)
  have hnew : ∀ (k : Nat) (x : SV) (i : Nat), ks[i]? = some k → l[i]? = some x → ∃ x0, H1.get k = some x0 ∧ x0.cells (S.only ks nx) E' = x.cells S E ∧ (x0.foOk (S.only ks nx) → x.foOk S) ∧ x0.size = x.size ∧ E'.ad k = E.ad k ∧ k ∈ ks := by
    intro k x i hi hx
    obtain ⟨x0, hx0, ha⟩ := hal.get hx
    obtain ⟨x1, hx1, hg1⟩ := hpg i k hi
    rw [hx0] at hx1; injection hx1 with hx1; subst hx1
    have hkm : k ∈ ks := List.mem_of_getElem? hi
    have hce : x0.cells (S.only ks nx) E' = x.cells S E := by
      rw [ha.cells, hcs, SV.cells_upto S hu x (bnds_get hb.2 hx)]
    exact ⟨x0, hg1, hce, fun hf => SV.foOk_stat (S := S.only ks nx) (S' := S) rfl (ha.fo _ hf), size_of_cells' hce, (hu k (hkn k hkm).1).1, hkm⟩
  have hll : l.length = ks.length := hal.len.trans hpl
  have hcross : ∀ (k : Nat) (x : SV) (i k' : Nat) (x' : SV), ks[i]? = some k → l[i]? = some x → H.get k' = some x' → hasN ks k' = false → 0 < x.size → 0 < x'.size → apart (E.ad k) x.size (E.ad k') x'.size := by
    intro k x i k' x' hi hx hk' hno hp hp'
    obtain ⟨x0, g1, g2, g3, g4, g5, g6⟩ := hnew k x i hi hx
    rcases hown k x0 g1 (hks k g6) with hge | hm
    · refine .inl ?_
      have := (hs.at_ k' x' hk' hp').lt
      rw [g5] at hge
      omega
    · refine apart_of (fun j hj hbl h3 h4 => ?_) hp hp'
      have := hm j (by omega)
      rw [g5, hbl] at this
      exact hclear k' x' hk' hno hp' ((E.ad k).off + j - (E.ad k').off) (by omega) (by rw [show (E.ad k').off + ((E.ad k).off + j - (E.ad k').off) = (E.ad k).off + j from by omega]; exact this)
  refine ⟨E, Env.upto.refl _ _, Nat.le_refl _, ?_, ⟨?_, ?_, ?_, ?_⟩, hfr.mono fun b j _ hm => hmh b j hm, ?_⟩
  · rw [hav.den, SV.den_stat (S := S.only ks nx) (S' := S) rfl rfl, SV.den_upto S hu v1 hb.1]
  · intro k x hk hp
    rcases putsH_get hll hdis hk with ⟨i, hi, hx⟩ | ⟨hno, hk⟩
    · obtain ⟨x0, g1, g2, g3, g4, g5, g6⟩ := hnew k x i hi hx
      rw [← g2, ← g5]
      exact hH1.at_ k x0 g1 (by omega)
    · exact hold k x hk hno hp
  · intro k x hk hp hnt hro
    rcases putsH_get hll hdis hk with ⟨i, hi, hx⟩ | ⟨hno, hk⟩
    · obtain ⟨x0, g1, g2, g3, g4, g5, g6⟩ := hnew k x i hi hx
      rw [← g5]
      exact hH1.wr k x0 g1 (by omega) (by rw [g2]; exact hnt) (hks k g6)
    · exact (hs.wr k x hk hp hnt hro).fr hfr
  · intro k k' x x' hne hk hk' hp hp' hro
    rcases putsH_get hll hdis hk with ⟨i, hi, hx⟩ | ⟨hno, hk⟩
    · rcases putsH_get hll hdis hk' with ⟨i', hi', hx'⟩ | ⟨hno', hk'⟩
      · obtain ⟨x0, g1, g2, g3, g4, g5, g6⟩ := hnew k x i hi hx
        obtain ⟨x0', g1', g2', g3', g4', g5', g6'⟩ := hnew k' x' i' hi' hx'
        rw [← g4, ← g4', ← g5, ← g5']
        exact hH1.dis k k' x0 x0' hne g1 g1' (by omega) (by omega) (hks k g6)
      · exact hcross k x i k' x' hi hx hk' hno' hp hp'
    · rcases putsH_get hll hdis hk' with ⟨i', hi', hx'⟩ | ⟨hno', hk'⟩
      · exact (hcross k' x' i' k x hi' hx' hk hno hp' hp).symm
      · exact hs.dis k k' x x' hne hk hk' hp hp' hro
  · intro k x hk
    rcases putsH_get hll hdis hk with ⟨i, hi, hx⟩ | ⟨hno, hk⟩
    · obtain ⟨x0, g1, g2, g3, g4, g5, g6⟩ := hnew k x i hi hx
      exact g3 (hH1.fo k x0 g1)
    · exact hs.fo k x hk
  · intro k x hk hro
    rcases putsH_get hll hdis hk with ⟨i, hi, hx⟩ | ⟨hno, hk⟩
    · obtain ⟨x0, g1, g2, g3, g4, g5, g6⟩ := hnew k x i hi hx
      rw [← g4, ← g5]
      rcases hown k x0 g1 (hks k g6) with hge | hm
      · exact .inl hge
      · exact .inr fun j hj => hmh _ _ (hm j hj)
    · exact .inr fun j hj => ⟨k, x, hk, hro, rfl, by omega, by omega⟩
end Go.Proofs.YtjemfkoamfnofaaGreat
