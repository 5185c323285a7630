/- A region that draws its order: if no two operations of which none waits for the other can be told apart, any order comes to what the text's own comes to. -/
import Derived.Test.YtfncoeoaniclmaaTrace
import Derived.Test.YtfncoeoaniclmaaCode
set_option linter.unusedVariables false
namespace Go.Proofs.Ytfncoeoaniclmaa
open Go Go.RowKit

section
variable {s s' : Slots} {p : Path}
theorem ev_congr {x : Operand} (h : ∀ t, Operand.tmp? x = some t → s.get t = s'.get t) (p : Path) : ev s p x = ev s' p x := by
  cases x with
  | tmp t => simp only [ev]; rw [h t rfl]
  | const v => rfl
  | global g => rfl
  | func f => rfl
theorem evs_congr (p : Path) : ∀ (l : List Operand), (∀ x ∈ l, ∀ p, ev s p x = ev s' p x) → evs s p l = evs s' p l
  | [], _ => rfl
  | x :: r, h => by
    simp only [evs, h x List.mem_cons_self p, evs_congr p r fun y hy => h y (List.mem_cons_of_mem _ hy)]
theorem fills_congr (c : Ctx) (fl : List (Nat × TypeId)) (p : Path) : ∀ (l : List (Nat × Operand)) (z : SV), (∀ x ∈ l.map (·.2), ∀ p, ev s p x = ev s' p x) → fills c fl s p l z = fills c fl s' p l z
  | [], _, _ => rfl
  | (i, x) :: r, z, h => by
    unfold fills
    rw [h x (by simp) p]
    have ih := fun z => fills_congr c fl p r z fun y hy => h y (by simp only [List.map_cons]; exact List.mem_cons_of_mem _ hy)
    simp only [ih]
theorem fillsAt_congr (c : Ctx) (e : TypeId) (d : TD) (p : Path) : ∀ (l : List (Nat × Operand)) (z : SV), (∀ x ∈ l.map (·.2), ∀ p, ev s p x = ev s' p x) → fillsAt c e d s p l z = fillsAt c e d s' p l z
  | [], _, _ => rfl
  | (i, x) :: r, z, h => by
    unfold fillsAt
    rw [h x (by simp) p]
    have ih := fun z => fillsAt_congr c e d p r z fun y hy => h y (by simp only [List.map_cons]; exact List.mem_cons_of_mem _ hy)
    simp only [ih]

theorem plan_congr (c : Ctx) (o : Oper) (p : Path) (h : ∀ t ∈ o.op.operands.toList.filterMap Operand.tmp?, s.get t = s'.get t) : plan c s p o = plan c s' p o := by
  have H : ∀ x ∈ o.op.operands.toList, ∀ p, ev s p x = ev s' p x := fun x hx p => ev_congr (fun t ht => h t (List.mem_filterMap.2 ⟨x, hx, ht⟩)) p
  cases ho : o.op <;> simp only [ho] at H <;> simp only [plan, ho]
  case move x => rw [H x (by simp [Op.operands]) p]
  case assign x => rw [H x (by simp [Op.operands]) p]
  case pick x a b =>
    simp only [H x (by simp [Op.operands]) p, H a (by simp [Op.operands]), H b (by simp [Op.operands])]
  case box t x => rw [H x (by simp [Op.operands]) p]
  case build t parts =>
    have := fun fs z => fills_congr (s := s) (s' := s') c fs p parts.toList z fun x hx => H x (by simpa [Op.operands] using hx)
    simp only [this]
  case buildSlice t len parts =>
    have := fun e d z => fillsAt_congr (s := s) (s' := s') c e d p parts.toList z fun x hx => H x (by simpa [Op.operands] using hx)
    simp only [this]
  case load t x => rw [H x (by simp [Op.operands]) p]
  case store t x y => simp only [H x (by simp [Op.operands]) p, H y (by simp [Op.operands]) p]
  case nilCheck x => rw [H x (by simp [Op.operands]) p]
  case binOp op t x y t' => simp only [H x (by simp [Op.operands]) p, H y (by simp [Op.operands]) p]
  case unOp op t x => rw [H x (by simp [Op.operands]) p]
  case convert a b x => rw [H x (by simp [Op.operands]) p]
  case makeMap t r => cases r <;> rfl
  case insert t m k x => simp only [H m (by simp [Op.operands]) p, H k (by simp [Op.operands]) p, H x (by simp [Op.operands]) p]
  case mapUpdate t m k x => simp only [H m (by simp [Op.operands]) p, H k (by simp [Op.operands]) p, H x (by simp [Op.operands]) p]
  case lookup t m k b => cases b <;> simp only [H m (by simp [Op.operands]) p, H k (by simp [Op.operands]) p]
  case makeFunc fn first cap =>
    rw [evs_congr p first.toList fun x hx => H x (by simp [Op.operands]; left; simpa using hx), evs_congr p cap.toList fun x hx => H x (by simp [Op.operands]; right; simpa using hx)]
  case fieldAddr t x f => rw [H x (by simp [Op.operands]) p]
  case field t x f => rw [H x (by simp [Op.operands]) p]
  case indexAddr t x i => simp only [H x (by simp [Op.operands]) p, H i (by simp [Op.operands]) p]
  case index t x i => simp only [H x (by simp [Op.operands]) p, H i (by simp [Op.operands]) p]
  case extract x i => rw [H x (by simp [Op.operands]) p]
  case call q =>
    have ha : ∀ x ∈ q.args.toList, ∀ p, ev s p x = ev s' p x := fun x hx => H x (by simp [Op.operands, Call.operands]; right; simpa using hx)
    have hs := evs_congr p q.args.toList ha
    rw [hs]
    split
    · rename_i f hf
      rw [H f (by simp [Op.operands, Call.operands, hf]) p]
    · split
      · rename_i x t hx ht
        rw [ha x (by rw [hx]; simp) p]
      · rfl
    · rfl
    · split
      · rename_i m k t t' hx ht
        simp only [ha m (by rw [hx]; simp) p, ha k (by rw [hx]; simp) p]
      · rfl
    all_goals rfl

theorem guarded_congr (ops : List Oper) (o : Oper) (h : ∀ j b d, o.guard = some (j, b) → (ops[j]?).bind (·.dst) = some d → s.get d = s'.get d) : guarded s ops o = guarded s' ops o := by
  unfold guarded
  split
  · rfl
  · rename_i j b hg
    split
    · rfl
    · rename_i d hd
      rw [h j b d hg hd]
end

/-- whoever waits for one that has been has it behind itself -/
def Closed (ops : List Oper) (D : Nat → Bool) : Prop := ∀ i o e, ops[i]? = some o → D i = true → e ∈ o.after.toList → Region.binds .any e = true → D e.on = true

theorem maskOf_bit (tab : List Nat) : ∀ (es : List Edge) (b : Nat), (maskOf tab es).testBit b = true → ∃ e ∈ es, Region.binds .any e = true ∧ (b = e.on ∨ (tab.getD e.on 0).testBit b = true)
  | [], b, h => by simp [maskOf] at h
  | e :: r, b, h => by
    unfold maskOf at h
    cases hb : Region.binds .any e with
    | true =>
      rw [hb] at h
      simp only [cond_true] at h
      have h' : ((2 ^ e.on ||| tab.getD e.on 0) ||| maskOf tab r).testBit b = true := h
      rw [Nat.testBit_or, Nat.testBit_or, Nat.testBit_two_pow] at h'
      simp only [Bool.or_eq_true, decide_eq_true_eq] at h'
      rcases h' with (h1 | h1) | h1
      · exact ⟨e, List.mem_cons_self, hb, .inl h1.symm⟩
      · exact ⟨e, List.mem_cons_self, hb, .inr h1⟩
      · obtain ⟨e', h2, h3, h4⟩ := maskOf_bit tab r b h1
        exact ⟨e', List.mem_cons_of_mem _ h2, h3, h4⟩
    | false =>
      rw [hb] at h
      obtain ⟨e', h2, h3, h4⟩ := maskOf_bit tab r b h
      exact ⟨e', List.mem_cons_of_mem _ h2, h3, h4⟩

def MaskGood (ops : List Oper) (j m : Nat) : Prop := ∀ D, Closed ops D → D j = true → ∀ b, m.testBit b = true → D b = true

theorem masks_good (ops : List Oper) : ∀ (l : List Oper) (tab : List Nat), (∃ pre, ops = pre ++ l ∧ pre.length = tab.length) → (∀ (j m : Nat), tab[j]? = some m → MaskGood ops j m) →
    (∀ (j m : Nat), (masks l tab)[j]? = some m → MaskGood ops j m) ∧ (masks l tab).length = tab.length + l.length
  | [], tab, _, h => ⟨by simpa [masks] using h, by simp [masks]⟩
  | o :: r, tab, ⟨pre, hpre, hlen⟩, h => by
    unfold masks
    have hio : ops[tab.length]? = some o := by rw [hpre, List.getElem?_append_right (by omega)]; simp [hlen]
    have ih := masks_good ops r (tab ++ [maskOf tab o.after.toList]) ⟨pre ++ [o], by simp [hpre], by simp [hlen]⟩ ?_
    · exact ⟨ih.1, by rw [ih.2]; simp; omega⟩
    · intro j m hj
      by_cases hlt : j < tab.length
      · rw [List.getElem?_append_left hlt] at hj
        exact h j m hj
      · have hje : j = tab.length := by
          have := (List.getElem?_eq_some_iff.1 hj).1
          simp at this; omega
        subst hje
        simp only [List.getElem?_append_right (Nat.le_refl _), Nat.sub_self, List.getElem?_cons_zero, Option.some.injEq] at hj
        subst hj
        intro D hD hDj b hb
        obtain ⟨e, he, hbe, hor⟩ := maskOf_bit tab _ b hb
        have hon := hD _ o e hio hDj he hbe
        rcases hor with rfl | hor
        · exact hon
        · by_cases hlt2 : e.on < tab.length
          · have : tab[e.on]? = some (tab.getD e.on 0) := by simp [List.getD_eq_getElem?_getD, List.getElem?_eq_getElem hlt2]
            exact h _ _ this D hD hon b hor
          · rw [List.getD_eq_getElem?_getD, List.getElem?_eq_none (by omega)] at hor
            simp at hor

/-- what 'allPairs' says -/
structure PairOk (ops : List Oper) (ms : List Nat) (i j : Nat) (x y : Item) : Prop where
  ah : ahead x y = true
  or_ : (∃ m : Nat, ms[j]? = some m ∧ m.testBit i = true) ∨ loose ops x y = true

theorem pairs_ok (ops : List Oper) (x : Item) (i : Nat) : ∀ (l : List Item) (ms : List Nat), pairs ops x i l ms = true → ∀ (j : Nat) (y : Item), l[j]? = some y → ahead x y = true ∧ ((∃ m : Nat, ms[j]? = some m ∧ m.testBit i = true) ∨ loose ops x y = true)
  | [], _, _, j, y, hj => by simp at hj
  | z :: r, [], h, j, y, hj => by simp [pairs] at h
  | z :: r, m :: ms, h, j, y, hj => by
    simp only [pairs, Bool.and_eq_true, Bool.or_eq_true] at h
    cases j with
    | zero =>
      simp only [List.getElem?_cons_zero, Option.some.injEq] at hj
      subst hj
      exact ⟨h.1, h.2.1.imp (fun hh => ⟨m, rfl, hh⟩) id⟩
    | succ j => simpa using pairs_ok ops x i r ms h.2.2 j y (by simpa using hj)

theorem allPairs_ok (ops : List Oper) (nx : Nat) : ∀ (l : List Item) (ms : List Nat) (i : Nat), allPairs ops nx l ms i = true →
    (∀ (j : Nat) (x : Item), l[j]? = some x → ∀ a b, x.span = some (a, b) → nx ≤ a) ∧ ∀ (j k : Nat) (x y : Item), l[j]? = some x → l[k]? = some y → j < k → ahead x y = true ∧ ((∃ m : Nat, ms[k]? = some m ∧ m.testBit (i + j) = true) ∨ loose ops x y = true)
  | [], _, _, _ => ⟨fun j x h => by simp at h, fun j k x y h => by simp at h⟩
  | z :: r, [], i, h => by simp [allPairs] at h
  | z :: r, m :: ms, i, h => by
    simp only [allPairs, Bool.and_eq_true] at h
    obtain ⟨h0, h1, h2⟩ := h
    obtain ⟨k1, k2⟩ := allPairs_ok ops nx r ms (i + 1) h2
    refine ⟨?_, ?_⟩
    · intro j x hj k b hk
      cases j with
      | zero =>
        simp only [List.getElem?_cons_zero, Option.some.injEq] at hj
        subst hj
        rw [hk] at h0
        exact Nat.le_of_ble_eq_true h0
      | succ j => exact k1 j x (by simpa using hj) k b hk
    · intro j k x y hj hk hlt
      cases k with
      | zero => omega
      | succ k =>
        cases j with
        | zero =>
          simp only [List.getElem?_cons_zero, Option.some.injEq] at hj
          subst hj
          simpa using pairs_ok ops _ i r ms h1 k y (by simpa using hk)
        | succ j =>
          have := k2 j k x y (by simpa using hj) (by simpa using hk) (by omega)
          simpa [Nat.add_assoc, Nat.add_comm 1] using this

theorem edgesBack_ok (ops : List Oper) : ∀ (l : List Oper) (i : Nat), edgesBack l i = true → ∀ (j : Nat) (o : Oper) (e : Edge), l[j]? = some o → e ∈ o.after.toList → Region.binds .any e = true → e.on < i + j
  | [], _, _, j, o, e, hj => by simp at hj
  | z :: r, i, h, j, o, e, hj => by
    simp only [edgesBack, Bool.and_eq_true] at h
    intro he hb
    cases j with
    | zero =>
      simp only [List.getElem?_cons_zero, Option.some.injEq] at hj
      subst hj
      have := List.all_eq_true.1 h.1 e he
      simpa [hb] using this
    | succ j =>
      have := edgesBack_ok ops r (i + 1) h.2 j o e (by simpa using hj) he hb
      omega
end Go.Proofs.Ytfncoeoaniclmaa
