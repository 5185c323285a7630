/- The text's own run of a region, told by the last writes to each slot and each cell. -/
import Derived.Test.YthhdfidenigcaaaWalk
set_option linter.unusedVariables false
namespace Go.Proofs.Ythhdfidenigcaaa
open Go Go.RowKit

section
variable {β : Type}
def ov (w a : Option β) : Option β := match w with | some v => some v | none => a
@[simp] theorem ov_some (v : β) (a : Option β) : ov (some v) a = some v := rfl
@[simp] theorem ov_none (a : Option β) : ov none a = a := rfl
/-- the last write among those that have been -/
def lastW (w : Item → Option β) (D : Nat → Bool) : List Item → Nat → Option β → Option β
  | [], _, a => a
  | it :: r, i, a => lastW w D r (i + 1) (if D i = true then (ov (w it) a) else a)

theorem lastW_append (w : Item → Option β) (D : Nat → Bool) : ∀ (l1 l2 : List Item) (i : Nat) (a : Option β), lastW w D (l1 ++ l2) i a = lastW w D l2 (i + l1.length) (lastW w D l1 i a)
  | [], l2, i, a => by simp [lastW]
  | it :: r, l2, i, a => by
    simp only [List.cons_append, lastW, List.length_cons]
    rw [lastW_append w D r l2 (i + 1)]
    rw [show i + 1 + r.length = i + (r.length + 1) from by omega]

theorem lastW_congr (w w' : Item → Option β) (D D' : Nat → Bool) : ∀ (l : List Item) (i : Nat) (a : Option β),
    (∀ j it, l[j]? = some it → D (i + j) = D' (i + j) ∧ (D (i + j) = true → w it = w' it)) → lastW w D l i a = lastW w' D' l i a
  | [], i, a, _ => rfl
  | it :: r, i, a, h => by
    simp only [lastW]
    obtain ⟨h0, h1⟩ := h 0 it rfl
    have hstep : (if D i = true then (ov (w it) a) else a) = (if D' i = true then (ov (w' it) a) else a) := by
      rw [← show D i = D' i from h0]
      split
      · rename_i hd; rw [h1 hd]
      · rfl
    rw [hstep]
    exact lastW_congr w w' D D' r (i + 1) _ fun j it' hj => by
      have := h (j + 1) it' (by simpa using hj)
      rwa [show i + (j + 1) = i + 1 + j from by omega] at this

theorem lastW_none (w : Item → Option β) (D : Nat → Bool) : ∀ (l : List Item) (i : Nat) (a : Option β),
    (∀ j it, l[j]? = some it → D (i + j) = true → w it = none) → lastW w D l i a = a
  | [], i, a, _ => rfl
  | it :: r, i, a, h => by
    simp only [lastW]
    rw [lastW_none w D r (i + 1) _ fun j it' hj hd => h (j + 1) it' (by simpa using hj) (by rwa [show i + (j + 1) = i + 1 + j from by omega])]
    split
    · rename_i hd; rw [h 0 it rfl hd]; rfl
    · rfl

/-- what is read at i is what the text's own run reads there -/
theorem lastW_text (w : Item → Option β) (D : Nat → Bool) (items : List Item) (i : Nat) (it : Item) (hi : items[i]? = some it) (a : Option β) (hD : D i = false)
    (h1 : ∀ j x, items[j]? = some x → j < i → D j = false → w x = none) (h2 : ∀ j x, items[j]? = some x → i < j → D j = true → w x = none) :
    lastW w D items 0 a = lastW w (fun _ => true) (items.take i) 0 a := by
  have hlt : i < items.length := (List.getElem?_eq_some_iff.1 hi).1
  have hsplit : items = items.take i ++ (it :: items.drop (i + 1)) := by
    have := List.take_append_drop i items
    rw [List.drop_eq_getElem_cons hlt] at this
    rw [(List.getElem?_eq_some_iff.1 hi).2] at this
    exact this.symm
  have hlen : (items.take i).length = i := by simp; omega
  conv => lhs; rw [hsplit]
  rw [lastW_append, hlen]
  simp only [lastW, Nat.zero_add, hD]
  rw [if_neg (by simp)]
  rw [lastW_none w D _ (i + 1) _ fun j x hj hd => by
    rw [List.getElem?_drop] at hj
    exact h2 _ x hj (by omega) hd]
  -- the part ahead
  have key : ∀ (l : List Item) (k : Nat) (b : Option β), (∀ j x, l[j]? = some x → D (k + j) = false → w x = none) → lastW w D l k b = lastW w (fun _ => true) l k b := by
    intro l
    induction l with
    | nil => intro k b _; rfl
    | cons y r ih =>
      intro k b h
      simp only [lastW]
      cases hd : D k with
      | true => simp only [if_true]; exact ih _ _ fun j x hj hdj => h (j + 1) x (by simpa using hj) (by rwa [show k + (j + 1) = k + 1 + j from by omega])
      | false =>
        have := h 0 y rfl (by simpa using hd)
        simp only [this, ov, if_true, Bool.false_eq_true, if_false]
        exact ih _ _ fun j x hj hdj => h (j + 1) x (by simpa using hj) (by rwa [show k + (j + 1) = k + 1 + j from by omega])
  refine key _ 0 a fun j x hj hd => ?_
  have hji : j < i := by
    have := (List.getElem?_eq_some_iff.1 hj).1
    omega
  rw [List.getElem?_take_of_lt hji] at hj
  exact h1 j x hj hji (by simpa using hd)

/-- one more has been -/
theorem lastW_insert (w : Item → Option β) (D D' : Nat → Bool) (items : List Item) (i : Nat) (it : Item) (hi : items[i]? = some it) (a : Option β) (hD : D i = false) (hD' : D' i = true) (hne : ∀ j, j ≠ i → D' j = D j)
    (h2 : w it ≠ none → ∀ j x, items[j]? = some x → i < j → D j = true → w x = none) :
    lastW w D' items 0 a = ov (w it) (lastW w D items 0 a) := by
  have hlt : i < items.length := (List.getElem?_eq_some_iff.1 hi).1
  have hsplit : items = items.take i ++ (it :: items.drop (i + 1)) := by
    have := List.take_append_drop i items
    rw [List.drop_eq_getElem_cons hlt] at this
    rw [(List.getElem?_eq_some_iff.1 hi).2] at this
    exact this.symm
  have hlen : (items.take i).length = i := by simp; omega
  have hpre : ∀ b, lastW w D' (items.take i) 0 b = lastW w D (items.take i) 0 b := fun b => lastW_congr w w D' D _ 0 b fun j x hj => by
    have := (List.getElem?_eq_some_iff.1 hj).1
    exact ⟨hne _ (by omega), fun _ => rfl⟩
  have hpost : ∀ b, lastW w D' (items.drop (i + 1)) (i + 1) b = lastW w D (items.drop (i + 1)) (i + 1) b := fun b => lastW_congr w w D' D _ (i + 1) b fun j x hj =>
    ⟨hne _ (by omega), fun _ => rfl⟩
  have e1 : lastW w D' items 0 a = lastW w D (items.drop (i + 1)) (i + 1) (ov (w it) (lastW w D (items.take i) 0 a)) := by
    conv => lhs; rw [hsplit]
    rw [lastW_append, hlen]
    simp only [lastW, Nat.zero_add, hD', if_true, hpre, hpost]
  have e2 : lastW w D items 0 a = lastW w D (items.drop (i + 1)) (i + 1) (lastW w D (items.take i) 0 a) := by
    conv => lhs; rw [hsplit]
    rw [lastW_append, hlen]
    simp only [lastW, Nat.zero_add, hD]
    rw [if_neg (by simp)]
  rw [e1, e2]
  cases hw : w it with
  | none => rfl
  | some v =>
    simp only [ov]
    refine lastW_none w D _ (i + 1) _ fun j x hj hd => ?_
    rw [List.getElem?_drop] at hj
    exact h2 (by rw [hw]; simp) _ x hj (by omega) hd
end

def Item.val (it : Item) : Path × SV := match it.act with
  | some (p, _, x) => (p, svOf x)
  | none => ([], .v undef)
def wSlot (t : Nat) (it : Item) : Option (Path × SV) := bif isDst it.o.dst t then some it.val else none
def wSize (k : Nat) (it : Item) : Option Nat := match it.act with
  | some (_, .new y, _) => bif Nat.beq it.key k then some y.size else none
  | some (_, .newSlice y _, _) => bif Nat.beq it.key k then some y.size else none
  | _ => none
def wCell (S : Stat) (E : Env) (k j : Nat) (it : Item) : Option Value := match it.act with
  | some (_, .store k' o y, _) => bif Nat.beq k' k && (Nat.ble (o.val S) j && Nat.blt j (Nat.add (o.val S) y.size)) then (y.cells S E)[j - o.val S]? else none
  | some (_, .new y, _) => bif Nat.beq it.key k then (y.cells S E)[j]? else none
  | some (_, .newSlice y _, _) => bif Nat.beq it.key k then (y.cells S E)[j]? else none
  | _ => none

/-- the text's own run, as far as some items -/
structure TF (S : Stat) (st0 : St) (items : List Item) (st : St) : Prop where
  slots : ∀ t, st.slots.get t = lastW (wSlot t) (fun _ => true) items 0 (st0.slots.get t)
  size : ∀ k, (st.heap.get k).map SV.size = lastW (wSize k) (fun _ => true) items 0 ((st0.heap.get k).map SV.size)
  cells : ∀ E k x j, st.heap.get k = some x → j < x.size → (x.cells S E)[j]? = lastW (wCell S E k j) (fun _ => true) items 0 ((st0.heap.get k).bind fun x => (x.cells S E)[j]?)
  fo : ∀ k x, st.heap.get k = some x → x.foOk S
  tup : ∀ E k x, st0.heap.get k = some x → ¬ NoTup (x.cells S E) → st.heap.get k = some x

theorem TF.start (S : Stat) (st : St) (h : ∀ k x, st.heap.get k = some x → x.foOk S) : TF S st [] st :=
  ⟨fun _ => rfl, fun _ => rfl, fun E k x j hk hj => by simp [lastW, hk], h, fun _ _ _ hk _ => hk⟩

theorem lastW_snoc {β : Type} (w : Item → Option β) (l : List Item) (it : Item) (a : Option β) : lastW w (fun _ => true) (l ++ [it]) 0 a = ov (w it) (lastW w (fun _ => true) l 0 a) := by
  rw [lastW_append]; simp [lastW]

theorem putSlot_get {s s' : Slots} {n : Nat} {dst : Option Nat} {p : Path} {x : Option SV} (h : putSlot s n dst p x = some s') (t : Nat) :
    s'.get t = bif isDst dst t then some (p, svOf x) else s.get t := by
  unfold putSlot at h
  cases dst with
  | none => injection h with h; subst h; rfl
  | some d =>
    dsimp only at h
    cases hb : (Nat.blt d n && (s.all fun e => Path.free e.2.1 d) && Path.free p d) with
    | false => rw [hb] at h; cases h
    | true =>
      rw [hb] at h
      simp only [cond_true, Option.some.injEq] at h
      subst h
      simp only [Slots.get, isDst]

theorem wSlot_val {it : Item} {t : Nat} {p : Path} {x : Option SV} (hv : it.val = (p, svOf x)) (a : Option (Path × SV)) :
    ov (wSlot t it) a = bif isDst it.o.dst t then some (p, svOf x) else a := by
  unfold wSlot
  cases isDst it.o.dst t with
  | true => simp [hv, ov]
  | false => rfl

theorem TF.step {S : Stat} {c : Ctx} {n : Nat} {ops : List Oper} {st0 st st1 : St} {items : List Item} {o : Oper} {it : Item} (hS : c.S = S) (h : TF S st0 items st) (hs : stepItem c n ops st o = some (it, st1)) (hcd : okC it.cnd = true) :
    TF S st0 (items ++ [it]) st1 ∧ it.o = o ∧ it.key = st.next := by
  unfold stepItem at hs
  split at hs
  · cases hs
  · split at hs
    · rename_i s' hput
      simp only [Option.some.injEq, Prod.mk.injEq] at hs
      obtain ⟨rfl, rfl⟩ := hs
      refine ⟨⟨fun t => ?_, fun k => ?_, fun E k x j hk hj => ?_, h.fo, h.tup⟩, rfl, rfl⟩
      · rw [lastW_snoc, wSlot_val (p := []) (x := none) rfl, ← h.slots t]
        exact putSlot_get hput t
      · rw [lastW_snoc]; exact h.size k
      · rw [lastW_snoc]; exact h.cells E k x j hk hj
    · cases hs
  · rename_i p hg
    split at hs
    · cases hs
    · rename_i d hd
      cases hcalm : calm c st d with
      | false => rw [hcalm] at hs; cases hs
      | true =>
        rw [hcalm] at hs
        simp only [cond_true] at hs
        split at hs
        · rename_i cd r hr
          split at hs
          · rename_i s' hput
            simp only [Option.some.injEq, Prod.mk.injEq] at hs
            obtain ⟨rfl, rfl⟩ := hs
            replace hr := Out.one_sel hr hcd
            have hslots : ∀ t, s'.get t = lastW (wSlot t) (fun _ => true) (items ++ [⟨o, some (p, settle c st d, r.1), st.next, cd⟩]) 0 (st0.slots.get t) := by
              intro t
              rw [lastW_snoc, wSlot_val (x := r.1) (p := p) rfl, ← h.slots t]
              exact putSlot_get hput t
            have hfo := h.fo
            rw [← hS] at hfo
            have hfo1 := perform_fo hr hcalm hfo
            rw [hS] at hfo1
            have htup1 : ∀ E k x, st0.heap.get k = some x → ¬ NoTup (x.cells S E) → r.2.1.get k = some x := fun E k x hk hx => perform_tup hr hcalm E k x (h.tup E k x hk hx) (by rw [hS]; exact hx)
            refine ⟨⟨hslots, fun k => ?_, fun E k x j hk hj => ?_, hfo1, htup1⟩, rfl, rfl⟩
            · rw [lastW_snoc, ← h.size k]
              unfold perform at hr
              split at hr
              · simp only [Out.sel, Option.some.injEq] at hr; subst hr; rfl
              · obtain ⟨_, rfl⟩ := Out.when_sel hr; rfl
              · split at hr
                · split at hr
                  · obtain ⟨_, rfl⟩ := Out.when_sel hr; rfl
                  · cases hr
                · cases hr
              · rename_i k' o' y
                cases hq : ((!(isNilP p)) || (c.S.ro k' || !y.one)) with
                | true => rw [hq] at hr; cases hr
                | false =>
                  rw [hq] at hr
                  simp only [cond_false] at hr
                  split at hr
                  · rename_i x0 hx0
                    split at hr
                    · rename_i z hz
                      obtain ⟨cz, z⟩ := z
                      obtain ⟨hcz, rfl⟩ := Out.when_sel hr
                      simp only [wSize, settle, Heap.get_put]
                      split
                      · rename_i he; subst he
                        rw [hx0]; simp [(SV.putO_ok c.S ⟨fun _ => default, fun _ => (0, false)⟩ (hfo _ _ hx0) hz hcz).2.1]
                      · rfl
                    · cases hr
                  · cases hr
              · rename_i y
                cases hq : (!(isNilP p)) with
                | true => rw [hq] at hr; cases hr
                | false =>
                  rw [hq] at hr
                  simp only [cond_false] at hr
                  cases hb : (st.bnd && (y.bnd st.next && y.one) && !(c.S.ro st.next)) with
                  | false => rw [hb] at hr; cases hr
                  | true =>
                    rw [hb] at hr
                    simp only [cond_true] at hr
                    simp only [Out.sel, Option.some.injEq] at hr; subst hr
                    simp only [wSize, settle, Heap.get]
                    cases Nat.beq st.next k <;> rfl
              · rename_i y len
                cases hq : (!(isNilP p)) with
                | true => rw [hq] at hr; cases hr
                | false =>
                  rw [hq] at hr
                  simp only [cond_false] at hr
                  cases hb : (st.bnd && (y.bnd st.next && y.one) && !(c.S.ro st.next)) with
                  | false => rw [hb] at hr; cases hr
                  | true =>
                    rw [hb] at hr
                    simp only [cond_true] at hr
                    simp only [Out.sel, Option.some.injEq] at hr; subst hr
                    simp only [wSize, settle, Heap.get]
                    cases Nat.beq st.next k <;> rfl
              · simp [calm] at hcalm
              · simp [calm] at hcalm
              · simp [calm] at hcalm
              · simp [calm] at hcalm
              · split at hr
                · split at hr
                  · obtain ⟨_, rfl⟩ := Out.when_sel hr; rfl
                  · cases hr
                · cases hr
              · cases hr
              · rename_i f args
                unfold calm at hcalm
                split at hr
                · rename_i hp
                  obtain ⟨_, rfl⟩ := Out.when_sel hr; simp [wSize, settle, hp]
                · rename_i hp
                  dsimp only at hcalm
                  rw [hp] at hcalm; cases hcalm
            · rw [lastW_snoc]
              unfold perform at hr
              split at hr
              · simp only [Out.sel, Option.some.injEq] at hr; subst hr; exact h.cells E k x j hk hj
              · obtain ⟨_, rfl⟩ := Out.when_sel hr; exact h.cells E k x j hk hj
              · split at hr
                · split at hr
                  · obtain ⟨_, rfl⟩ := Out.when_sel hr; exact h.cells E k x j hk hj
                  · cases hr
                · cases hr
              · rename_i k' o' y
                cases hq : ((!(isNilP p)) || (c.S.ro k' || !y.one)) with
                | true => rw [hq] at hr; cases hr
                | false =>
                  rw [hq] at hr
                  simp only [cond_false] at hr
                  split at hr
                  · rename_i x0 hx0
                    split at hr
                    · rename_i z hz
                      obtain ⟨cz, z⟩ := z
                      obtain ⟨hcz, rfl⟩ := Out.when_sel hr
                      simp only [Heap.get_put] at hk
                      split at hk
                      · rename_i he; subst he
                        injection hk with hk; subst hk
                        rw [hS] at hz
                        obtain ⟨⟨h1, h2⟩, h3, h4⟩ := SV.putO_ok S E (h.fo _ _ hx0) hz hcz
                        have hl0 := SV.len S E x0
                        have hly := SV.len S E y
                        simp only [wCell, settle]
                        have hbk : Nat.beq k k = true := by simp
                        rw [hbk, Bool.true_and]
                        generalize o'.val S = o' at h1 h2 ⊢
                        cases hin : (Nat.ble o' j && Nat.blt j (Nat.add o' y.size)) with
                        | true =>
                          simp only [Bool.and_eq_true] at hin
                          have ha : o' ≤ j := Nat.le_of_ble_eq_true hin.1
                          have hb : j < o' + y.size := by simpa using hin.2
                          simp only [cond_true]
                          have hcell : (z.cells S E)[j]? = (y.cells S E)[j - o']? := by
                            rw [h1]; unfold splice
                            rw [List.getElem?_append_right (by simp; omega), List.getElem?_append_left (by simp; omega)]
                            congr 1
                            simp; omega
                          rw [hcell]
                          obtain ⟨v, hv⟩ : ∃ v, (y.cells S E)[j - o']? = some v := ⟨_, List.getElem?_eq_getElem (by omega)⟩
                          rw [hv, ov_some]
                        | false =>
                          simp only [cond_false]
                          rw [h3] at hj
                          rw [ov_none, ← h.cells E k x0 j hx0 hj, h1]
                          unfold splice
                          have hout : j < o' ∨ o' + y.size ≤ j := by
                            by_cases h5 : j < o'
                            · exact .inl h5
                            · refine .inr (Nat.le_of_not_lt fun h6 => ?_)
                              have : (Nat.ble o' j && Nat.blt j (Nat.add o' y.size)) = true := by
                                simp only [Bool.and_eq_true]
                                exact ⟨Nat.ble_eq_true_of_le (by omega), by simpa using h6⟩
                              rw [this] at hin; cases hin
                          rcases hout with h5 | h5
                          · rw [List.getElem?_append_left (by simp; omega), List.getElem?_take_of_lt h5]
                          · rw [List.getElem?_append_right (by simp; omega), List.getElem?_append_right (by simp; omega), List.getElem?_drop]
                            congr 1
                            simp; omega
                      · rename_i hne
                        have hbk : Nat.beq k' k = false := by
                          cases hb : Nat.beq k' k with
                          | false => rfl
                          | true => exact absurd (Nat.eq_of_beq_eq_true hb).symm hne
                        simp only [wCell, settle, hbk, Bool.false_and, cond_false]
                        exact h.cells E k x j hk hj
                    · cases hr
                  · cases hr
              · rename_i y
                cases hq : (!(isNilP p)) with
                | true => rw [hq] at hr; cases hr
                | false =>
                  rw [hq] at hr
                  simp only [cond_false] at hr
                  cases hb : (st.bnd && (y.bnd st.next && y.one) && !(c.S.ro st.next)) with
                  | false => rw [hb] at hr; cases hr
                  | true =>
                    rw [hb] at hr
                    simp only [cond_true] at hr
                    simp only [Out.sel, Option.some.injEq] at hr; subst hr
                    simp only [Heap.get] at hk
                    simp only [wCell, settle]
                    cases hbk : Nat.beq st.next k with
                    | true =>
                      rw [hbk] at hk
                      simp only [cond_true, Option.some.injEq] at hk
                      subst hk
                      simp only [cond_true]
                      obtain ⟨v, hv⟩ : ∃ v, (y.cells S E)[j]? = some v := ⟨_, List.getElem?_eq_getElem (by rw [SV.len]; exact hj)⟩
                      rw [hv, ov_some]
                    | false =>
                      rw [hbk] at hk
                      simp only [cond_false]
                      exact h.cells E k x j hk hj
              · rename_i y len
                cases hq : (!(isNilP p)) with
                | true => rw [hq] at hr; cases hr
                | false =>
                  rw [hq] at hr
                  simp only [cond_false] at hr
                  cases hb : (st.bnd && (y.bnd st.next && y.one) && !(c.S.ro st.next)) with
                  | false => rw [hb] at hr; cases hr
                  | true =>
                    rw [hb] at hr
                    simp only [cond_true] at hr
                    simp only [Out.sel, Option.some.injEq] at hr; subst hr
                    simp only [Heap.get] at hk
                    simp only [wCell, settle]
                    cases hbk : Nat.beq st.next k with
                    | true =>
                      rw [hbk] at hk
                      simp only [cond_true, Option.some.injEq] at hk
                      subst hk
                      simp only [cond_true]
                      obtain ⟨v, hv⟩ : ∃ v, (y.cells S E)[j]? = some v := ⟨_, List.getElem?_eq_getElem (by rw [SV.len]; exact hj)⟩
                      rw [hv, ov_some]
                    | false =>
                      rw [hbk] at hk
                      simp only [cond_false]
                      exact h.cells E k x j hk hj
              · simp [calm] at hcalm
              · simp [calm] at hcalm
              · simp [calm] at hcalm
              · simp [calm] at hcalm
              · split at hr
                · split at hr
                  · obtain ⟨_, rfl⟩ := Out.when_sel hr; exact h.cells E k x j hk hj
                  · cases hr
                · cases hr
              · cases hr
              · rename_i f args
                unfold calm at hcalm
                split at hr
                · rename_i hp
                  obtain ⟨_, rfl⟩ := Out.when_sel hr; simp only [wCell, settle, hp, ov_none]; exact h.cells E k x j hk hj
                · rename_i hp
                  dsimp only at hcalm
                  rw [hp] at hcalm; cases hcalm
          · cases hs
        · cases hs

theorem trace_TF {S : Stat} {c : Ctx} {n : Nat} {ops : List Oper} {st0 : St} (hS : c.S = S) : ∀ (l : List Oper) (pre : List Item) (st st' : St) (items : List Item), TF S st0 pre st → trace c n ops l st = some (items, st') → (∀ it ∈ items, okC it.cnd = true) →
    TF S st0 (pre ++ items) st' ∧ items.length = l.length ∧ ∀ i it, items[i]? = some it → ∃ o sti sti1, l[i]? = some o ∧ it.o = o ∧ it.key = sti.next ∧ TF S st0 (pre ++ items.take i) sti ∧ stepItem c n ops sti o = some (it, sti1)
  | [], pre, st, st', items, h, ht, _ => by
    simp only [trace, Option.some.injEq, Prod.mk.injEq] at ht
    obtain ⟨rfl, rfl⟩ := ht
    exact ⟨by simpa using h, rfl, fun i it hi => by simp at hi⟩
  | o :: r, pre, st, st', items, h, ht, hcs => by
    unfold trace at ht
    split at ht
    · cases ht
    · rename_i q hq
      obtain ⟨it, st1⟩ := q
      split at ht
      · cases ht
      · rename_i q2 hq2
        obtain ⟨items2, st2⟩ := q2
        simp only [Option.some.injEq, Prod.mk.injEq] at ht
        obtain ⟨rfl, rfl⟩ := ht
        obtain ⟨h1, h2, h3⟩ := TF.step hS h hq (hcs it List.mem_cons_self)
        obtain ⟨k1, k2, k3⟩ := trace_TF hS r (pre ++ [it]) st1 st2 items2 h1 hq2 (fun x hx => hcs x (List.mem_cons_of_mem _ hx))
        refine ⟨by simpa using k1, by simp [k2], ?_⟩
        intro i it' hi
        cases i with
        | zero =>
          simp only [List.getElem?_cons_zero, Option.some.injEq] at hi
          subst hi
          exact ⟨o, st, st1, rfl, h2, h3, by simpa using h, hq⟩
        | succ i =>
          obtain ⟨o', sti, sti1, a1, a2, a3, a4, a5⟩ := k3 i it' (by simpa using hi)
          exact ⟨o', sti, sti1, by simpa using a1, a2, a3, by simpa using a4, a5⟩
end Go.Proofs.Ythhdfidenigcaaa
