/- slices.SortFunc at fdb's entries: its contract. -/
import Derived.Test.YtfncoeoaniclmaaFdbS
set_option linter.unusedVariables false
set_option maxRecDepth 100000
namespace Go.Proofs.Ytfncoeoaniclmaa
open Go Go.Proofs Go.RowKit

def leM (x y : Entry) : Bool := decide (x.mac ≤ y.mac)
def insE (x : Entry) : List Entry → List Entry
  | [] => [x]
  | y :: r => if x.mac ≤ y.mac then x :: y :: r else y :: insE x r
def sortE : List Entry → List Entry
  | [] => []
  | x :: r => insE x (sortE r)
theorem insE_perm (x : Entry) : ∀ L, (insE x L).Perm (x :: L)
  | [] => List.Perm.refl _
  | y :: r => by
    unfold insE
    split
    · exact List.Perm.refl _
    · exact ((insE_perm x r).cons y).trans (List.Perm.swap x y r)
theorem insE_sorted (x : Entry) : ∀ L : List Entry, L.Pairwise (fun x y => leM x y = true) → (insE x L).Pairwise fun x y => leM x y = true
  | [], _ => by simp [insE]
  | y :: r, h => by
    obtain ⟨h1, h2⟩ := List.pairwise_cons.1 h
    unfold insE
    split
    · rename_i hxy
      refine List.pairwise_cons.2 ⟨fun z hz => ?_, h⟩
      rcases List.mem_cons.1 hz with rfl | hz
      · simpa [leM] using hxy
      · have := h1 z hz
        simp only [leM, decide_eq_true_eq] at this ⊢
        omega
    · rename_i hxy
      refine List.pairwise_cons.2 ⟨fun z hz => ?_, insE_sorted x r h2⟩
      rcases List.mem_cons.1 ((insE_perm x r).subset hz) with rfl | hz
      · simp only [leM, decide_eq_true_eq]; omega
      · exact h1 z hz
theorem sortE_sorted : ∀ L : List Entry, (sortE L).Pairwise fun x y => leM x y = true
  | [] => List.Pairwise.nil
  | x :: r => insE_sorted x _ (sortE_sorted r)
theorem sortE_perm : ∀ L : List Entry, (sortE L).Perm L
  | [] => List.Perm.refl _
  | x :: r => (insE_perm x _).trans ((sortE_perm r).cons x)
theorem sortE_len (L : List Entry) : (sortE L).length = L.length := (sortE_perm L).length_eq
/-- one sorted list alone, where no two keys are alike -/
theorem sorted_one : ∀ {A B : List Entry}, A.Perm B → (A.map (·.mac)).Nodup → A.Pairwise (fun x y => leM x y = true) → B.Pairwise (fun x y => leM x y = true) → A = B
  | [], B, hp, _, _, _ => by have := hp.length_eq; cases B with | nil => rfl | cons _ _ => simp at this
  | x :: A, B, hp, hn, hA, hB => by
    cases B with
    | nil => have := hp.length_eq; simp at this
    | cons y B =>
      have hxy : x = y := by
        have h1 : y ∈ x :: A := hp.symm.subset List.mem_cons_self
        have h2 : x ∈ y :: B := hp.subset List.mem_cons_self
        rcases List.mem_cons.1 h1 with h1 | h1
        · exact h1.symm
        rcases List.mem_cons.1 h2 with h2 | h2
        · exact h2
        have a1 := (List.pairwise_cons.1 hA).1 y h1
        have a2 := (List.pairwise_cons.1 hB).1 x h2
        simp only [leM, decide_eq_true_eq] at a1 a2
        have he : x.mac = y.mac := by omega
        simp only [List.map_cons, List.nodup_cons] at hn
        exact absurd (by rw [he]; exact List.mem_map_of_mem (f := fun e : Entry => e.mac) h1) hn.1
      subst hxy
      simp only [List.map_cons, List.nodup_cons] at hn
      rw [sorted_one hp.cons_inv hn.2 (List.pairwise_cons.1 hA).2 (List.pairwise_cons.1 hB).2]
theorem sortE_of_perm {A B : List Entry} (hp : A.Perm B) (hn : (A.map (·.mac)).Nodup) : sortE A = sortE B :=
  sorted_one ((sortE_perm A).trans (hp.trans (sortE_perm B).symm)) (((sortE_perm A).map _).nodup_iff.2 hn) (sortE_sorted A) (sortE_sorted B)

theorem ents_get : ∀ (L : List Entry) (j : Nat), j < L.length * 3 → (ents L)[j]? = some ((Entry.cells (L.toArray[j / 3]!))[j % 3]!)
  | [], j, h => by simp at h
  | x :: r, j, h => by
    have hc : (Entry.cells x).length = 3 := rfl
    show (Entry.cells x ++ ents r)[j]? = _
    by_cases hj : j < 3
    · rw [List.getElem?_append_left (by omega)]
      have h0 : j / 3 = 0 := by omega
      have h1 : j % 3 = j := by omega
      rw [h0, h1]
      have : (x :: r).toArray[0]! = x := rfl
      rw [this, List.getElem?_eq_getElem (by omega), getElem!_pos _ _ (by omega)]
    · rw [List.getElem?_append_right (by omega), hc]
      simp only [List.length_cons] at h
      rw [ents_get r (j - 3) (by omega)]
      have h0 : j / 3 = (j - 3) / 3 + 1 := by omega
      have h1 : j % 3 = (j - 3) % 3 := by omega
      rw [h0, h1]
      congr 3
      have hlt : (j - 3) / 3 < r.length := by omega
      rw [getElem!_pos _ _ (by simpa using hlt), getElem!_pos _ _ (by simpa using hlt)]
      simp

def gSort : CanonFn := fun ro args H m => match args, H with
  | [.slr 0 n 0 q, .fn (.func 42) [] []], [(0, .rows (.entry L))] => bif ro 0 then .bad else .ite (decide (n = L.length ∧ L.length ≤ 67108864) && decide ((L.map (·.mac)).Nodup)) (.ret (.tup [], [(0, .rows (.entry (sortE L)))], m)) .bad
  | _, _ => .bad

section
open Go.Sort Go.Shelf Go.Lib
/-- what the sort leaves of the heap -/
theorem sortWorld_heap {w : World} {blk off n : Nat} {d : Array Entry} {os : Array Obj} {cs : Array Value} {t : TypeId} (hb : w.heap[blk]? = some (.cells cs t (0, 0))) :
    (sortWorldK Entry.cells 3 w blk off n d os).heap[blk]? = some (.cells (putCells id off (flatK Entry.cells 3 d) cs) t (0, 0)) ∧ ∀ b, b ≠ blk → b < w.heap.size → (sortWorldK Entry.cells 3 w blk off n d os).heap[b]? = w.heap[b]? := by
  have hlt : blk < w.heap.size := lt_of_some hb
  have e : (sortWorldK Entry.cells 3 w blk off n d os).heap = w.heap.modify blk (onCells (putCells id off (flatK Entry.cells 3 d))) ++ os := rfl
  rw [e]
  refine ⟨?_, fun b hne hbl => ?_⟩
  · rw [Array.getElem?_append_left (by simpa using hlt), Array.getElem?_modify, if_pos rfl, hb]
    rfl
  · rw [Array.getElem?_append_left (by simpa using hbl), Array.getElem?_modify, if_neg (Ne.symm hne)]
theorem sort_ok : CanonOk 41 gSort := by
  intro S args H m v H' m' hr
  unfold gSort at hr
  split at hr <;> (try cases hr)
  rename_i n q L
  cases hro : S.ro 0 with
  | true => rw [hro] at hr; cases hr
  | false =>
    rw [hro] at hr
    simp only [cond_false] at hr
    obtain ⟨hc, hr⟩ := Out.ite_bad hr
    simp only [Out.sel, Option.some.injEq, Prod.mk.injEq] at hr
    obtain ⟨rfl, rfl, rfl⟩ := hr
    simp only [Bool.and_eq_true, decide_eq_true_eq] at hc
    obtain ⟨⟨rfl, hlen⟩, hnd⟩ := hc
    refine ⟨⟨_, Try.func41, by kernel_rfl, by kernel_rfl⟩, fun E w hs => ?_⟩
    have hsz : (SV.rows (.entry L)).size = L.length * 3 := rfl
    by_cases h0 : L.length = 0
    · obtain rfl : L = [] := List.eq_nil_of_length_eq_zero h0
      have := AnyF.slices_SortFunc_none (P := Try.prog) { sortLay with } (bif (E.cp 0).2 && Nat.beq 0 0 then none else some (E.place 0 0)) (bif q then 0 else (E.cp 0).1) (.func (.func 42) #[] #[]) w
      refine (show Calls Try.prog 41 _ w _ from this).mono ?_
      rintro e w' ⟨rfl, rfl⟩
      refine ⟨E, Env.upto.refl _ _, Nat.le_refl _, by simp [SV.den, SV.dens], ?_, Fr.refl _ _, fun k x hk hr => ?_⟩
      · have : sortE [] = [] := by have := sortE_len []; exact List.eq_nil_of_length_eq_zero (by simpa using this)
        rw [this]; exact hs
      · have : sortE [] = [] := by have := sortE_len []; exact List.eq_nil_of_length_eq_zero (by simpa using this)
        rw [this] at hk
        exact .inr fun j hj => ⟨k, x, hk, hr, rfl, by omega, by omega⟩
    · have hpos : 0 < (SV.rows (.entry L)).size := by rw [hsz]; omega
      have hat := hs.at_ 0 (.rows (.entry L)) rfl hpos
      have hwr := hs.wr 0 (.rows (.entry L)) rfl hpos (SV.noTup_ok S E rfl) hro
      have hvl : ((SV.rows (.entry L)).cells S E).length = L.length * 3 := by rw [SV.len]; rfl
      obtain ⟨hsp, cs, t, fr, hb, hsize, hcell⟩ := hat.cells hwr (by rw [hvl]; omega)
      obtain ⟨cs2, t2, hb2⟩ := hwr
      rw [hb] at hb2
      injection hb2 with hb2
      injection hb2 with e1 e2 e3
      subst e1 e2 e3
      rw [hvl] at hsize
      generalize hblk : (E.ad 0).block = blk at hb hsize
      generalize hoff : (E.ad 0).off = off at hcell hsize
      have hcell : ∀ j, j < L.length * 3 → cs[off + j]? = some ((Entry.cells (L.toArray[j / 3]!))[j % 3]!) := fun j hj => (hcell j _ (by have := ents_get L j hj; exact this)).1
      have hH : HoldsK Entry.cells 3 w blk off L.toArray := by
        intro j hj
        have hj' : j < L.length * 3 := by simpa using hj
        refine ⟨?_, ?_⟩
        · simp only [World.cell?, hb]
          rw [hcell j hj', get_flatK _ _ _ _ (by simpa using hj')]
          rfl
        · simp [World.frozen?, hb]
      have := AnyQ.slices_SortFunc sortLay 3 Try.isAgg30 Try.sizeOf30 Entry.cells (fun _ => rfl) (fun x v hv => by simp [Entry.cells] at hv; rcases hv with rfl | rfl | rfl <;> rfl) macC swoMac 42 #[] blk off
        (bif q then L.length else (E.cp 0).1) L.toArray w (enters_of Try.func42 (by kernel_rfl) rfl) (fun _ _ _ _ x y => less42 x y _) hH (lt_of_some hb) (by simp; omega)
      have hden : SV.dens S E [.slr 0 L.length 0 q, .fn (.func 42) [] []] = [.slice (some ⟨blk, off, none⟩) L.toArray.size (bif q then L.length else (E.cp 0).1), .func (.func 42) #[] #[]] := by
        have hb0 : Nat.beq L.length 0 = false := by
          cases hq : Nat.beq L.length 0 with
          | false => rfl
          | true => exact absurd (Nat.eq_of_beq_eq_true hq) h0
        simp [SV.dens, SV.den, SV.cellss, hb0, Env.place, hblk, hoff]
      rw [hden]
      refine (show Calls Try.prog 41 _ w _ from this).mono ?_
      rintro e w' ⟨rfl, d', nn, os, hperm, hsorted, rfl⟩
      obtain ⟨hd1, _, hd3⟩ := hperm
      have hdl : d'.toList.length = L.length := by simpa using hd1
      have hp : d'.toList.Perm L := by
        have h1 : d'.extract 0 L.toArray.size = d' := by rw [← hd1]; simp
        have h2 : L.toArray.extract 0 L.toArray.size = L.toArray := by simp
        rw [h1, h2] at hd3
        simpa using hd3
      have hsrt : d'.toList.Pairwise fun x y => leM x y = true := by
        rw [List.pairwise_iff_getElem]
        intro i j hi hj hij
        have := hsorted i j (Nat.zero_le _) hij (by rw [← hd1]; simpa using hj)
        rw [getElem!_pos _ _ (by simpa using hj), getElem!_pos _ _ (by simpa using hi), ltMac] at this
        simp only [decide_eq_false_iff_not] at this
        simp only [leM, decide_eq_true_eq]
        simpa using this
      have hone : sortE L = d'.toList := sorted_one ((sortE_perm L).trans hp.symm) (((sortE_perm L).map _).nodup_iff.2 hnd) (sortE_sorted L) hsrt
      obtain ⟨hb', hother⟩ := sortWorld_heap (off := off) (n := nn) (d := d') (os := os) hb
      have hsz' : w.heap.size ≤ (sortWorldK Entry.cells 3 w blk off nn d' os).heap.size := size_sortWorldK_c Entry.cells 3 w blk off nn d' os
      have hput : ∀ j, j < L.length * 3 → (putCells id off (flatK Entry.cells 3 d') cs)[off + j]? = some ((Entry.cells (d'[j / 3]!))[j % 3]!) := by
        intro j hj
        have hlt : off + j < cs.size := by omega
        simp only [putCells, Array.getElem?_mapIdx, Array.getElem?_eq_getElem hlt, Option.map_some]
        rw [if_pos ⟨by omega, by simp only [size_flatK, hd1]; simp; omega⟩, show off + j - off = j from by omega, get_flatK _ _ _ _ (by rw [hd1]; simpa using hj)]
        rfl
      refine ⟨E, Env.upto.refl _ _, Nat.le_refl _, by simp [SV.den, SV.dens], ⟨fun k x hk hpx => ?_, fun k x hk hpx _ _ => ?_, fun k k' x x' hne hk hk' => ?_, fun k x hk => ?_⟩, ⟨rfl, rfl, rfl, hsz', fun b o ho => ?_⟩, fun k x hk hr => ?_⟩
      · rw [Heap.get_cons] at hk
        split at hk
        · rename_i he; subst he
          injection hk with hk; subst hk
          refine ⟨hsp, .inl ⟨_, t, (0, 0), by rw [hblk]; exact hb', ?_, ?_⟩⟩
          · rw [SV.len, hoff]
            show off + (sortE L).length * 3 ≤ _
            rw [sortE_len]
            simpa [putCells] using hsize
          · intro j v hv
            have hj : j < L.length * 3 := by
              have := (List.getElem?_eq_some_iff.1 hv).1
              rw [SV.len] at this
              have e : (SV.rows (.entry (sortE L))).size = (sortE L).length * 3 := rfl
              rw [e, sortE_len] at this
              exact this
            refine ⟨?_, SV.one_cells S E (.rows (.entry (sortE L))) rfl v (List.mem_of_getElem? hv)⟩
            have hg := ents_get (sortE L) j (by rw [sortE_len]; exact hj)
            have hv' : (ents (sortE L))[j]? = some v := hv
            rw [hoff, hput j hj, ← hv', hg, hone]
        · simp [Heap.get] at hk
      · rw [Heap.get_cons] at hk
        split at hk
        · rename_i he; subst he
          exact ⟨_, t, by rw [hblk]; exact hb'⟩
        · simp [Heap.get] at hk
      · rw [Heap.get_cons] at hk hk'
        split at hk
        · split at hk'
          · rename_i h1 h2; exact absurd (h1.trans h2.symm) hne
          · simp [Heap.get] at hk'
        · simp [Heap.get] at hk
      · rw [Heap.get_cons] at hk
        split at hk
        · injection hk with hk; subst hk; trivial
        · simp [Heap.get] at hk
      · by_cases hbb : b = blk
        · subst hbb
          rw [hb] at ho
          injection ho with ho
          subst ho
          refine .inr (.inl ⟨cs, _, t, (0, 0), rfl, hb', by simp [putCells], fun k hk => ?_⟩)
          have hout : ¬ (off ≤ k ∧ k < off + L.length * 3) := by
            rintro ⟨h1, h2⟩
            exact hk ⟨0, _, rfl, hro, hblk.symm, by omega, by rw [hsz, hoff]; exact h2⟩
          simp only [putCells, Array.getElem?_mapIdx, size_flatK, hd1]
          cases cs[k]? with
          | none => rfl
          | some u => simp only [Option.map_some, List.size_toArray]; rw [if_neg hout]
        · exact .inl ((hother b hbb (lt_of_some ho)).trans ho)
      · rw [Heap.get_cons] at hk
        split at hk
        · rename_i he; subst he
          injection hk with hk; subst hk
          refine .inr fun j hj => ⟨0, _, rfl, hro, rfl, by omega, ?_⟩
          have e : (SV.rows (.entry (sortE L))).size = (sortE L).length * 3 := rfl
          rw [e, sortE_len] at hj
          rw [hsz]; omega
        · simp [Heap.get] at hk
end
end Go.Proofs.Ytfncoeoaniclmaa
