/- slices.SortFunc at fdb's entries: its contract. -/
import Derived.Test.YtfncoeoaniclmaaFdbS
import Derived.Test.YtfncoeoaniclmaaRd
set_option linter.unusedVariables false
set_option maxRecDepth 100000
namespace Go.Proofs.Ytfncoeoaniclmaa
open Go Go.Proofs Go.RowKit

def leM (x y : Entry) : Bool := decide (x.mac ≤ y.mac)
def insE (x : Entry) : List Entry → List Entry
  | [] => [x]
  | y :: r => if x.mac ≤ y.mac then x :: y :: r else y :: insE x r
def sortE : List Entry → List Entry
  | [] => []
  | x :: r => insE x (sortE r)
theorem insE_perm (x : Entry) : ∀ L, (insE x L).Perm (x :: L)
  | [] => List.Perm.refl _
  | y :: r => by
    unfold insE
    split
    · exact List.Perm.refl _
    · exact ((insE_perm x r).cons y).trans (List.Perm.swap x y r)
theorem insE_sorted (x : Entry) : ∀ L : List Entry, L.Pairwise (fun x y => leM x y = true) → (insE x L).Pairwise fun x y => leM x y = true
  | [], _ => by simp [insE]
  | y :: r, h => by
    obtain ⟨h1, h2⟩ := List.pairwise_cons.1 h
    unfold insE
    split
    · rename_i hxy
      refine List.pairwise_cons.2 ⟨fun z hz => ?_, h⟩
      rcases List.mem_cons.1 hz with rfl | hz
      · simpa [leM] using hxy
      · have := h1 z hz
        simp only [leM, decide_eq_true_eq] at this ⊢
        omega
    · rename_i hxy
      refine List.pairwise_cons.2 ⟨fun z hz => ?_, insE_sorted x r h2⟩
      rcases List.mem_cons.1 ((insE_perm x r).subset hz) with rfl | hz
      · simp only [leM, decide_eq_true_eq]; omega
      · exact h1 z hz
theorem sortE_sorted : ∀ L : List Entry, (sortE L).Pairwise fun x y => leM x y = true
  | [] => List.Pairwise.nil
  | x :: r => insE_sorted x _ (sortE_sorted r)
theorem sortE_perm : ∀ L : List Entry, (sortE L).Perm L
  | [] => List.Perm.refl _
  | x :: r => (insE_perm x _).trans ((sortE_perm r).cons x)
theorem sortE_len (L : List Entry) : (sortE L).length = L.length := (sortE_perm L).length_eq
/-- one sorted list alone, where no two keys are alike -/
theorem sorted_one : ∀ {A B : List Entry}, A.Perm B → (A.map (·.mac)).Nodup → A.Pairwise (fun x y => leM x y = true) → B.Pairwise (fun x y => leM x y = true) → A = B
  | [], B, hp, _, _, _ => by have := hp.length_eq; cases B with | nil => rfl | cons _ _ => simp at this
  | x :: A, B, hp, hn, hA, hB => by
    cases B with
    | nil => have := hp.length_eq; simp at this
    | cons y B =>
      have hxy : x = y := by
        have h1 : y ∈ x :: A := hp.symm.subset List.mem_cons_self
        have h2 : x ∈ y :: B := hp.subset List.mem_cons_self
        rcases List.mem_cons.1 h1 with h1 | h1
        · exact h1.symm
        rcases List.mem_cons.1 h2 with h2 | h2
        · exact h2
        have a1 := (List.pairwise_cons.1 hA).1 y h1
        have a2 := (List.pairwise_cons.1 hB).1 x h2
        simp only [leM, decide_eq_true_eq] at a1 a2
        have he : x.mac = y.mac := by omega
        simp only [List.map_cons, List.nodup_cons] at hn
        exact absurd (by rw [he]; exact List.mem_map_of_mem (f := fun e : Entry => e.mac) h1) hn.1
      subst hxy
      simp only [List.map_cons, List.nodup_cons] at hn
      rw [sorted_one hp.cons_inv hn.2 (List.pairwise_cons.1 hA).2 (List.pairwise_cons.1 hB).2]
theorem sortE_of_perm {A B : List Entry} (hp : A.Perm B) (hn : (A.map (·.mac)).Nodup) : sortE A = sortE B :=
  sorted_one ((sortE_perm A).trans (hp.trans (sortE_perm B).symm)) (((sortE_perm A).map _).nodup_iff.2 hn) (sortE_sorted A) (sortE_sorted B)

theorem ents_get : ∀ (L : List Entry) (j : Nat), j < L.length * 3 → (ents L)[j]? = some ((Entry.cells (L.toArray[j / 3]!))[j % 3]!)
  | [], j, h => by simp at h
  | x :: r, j, h => by
    have hc : (Entry.cells x).length = 3 := rfl
    show (Entry.cells x ++ ents r)[j]? = _
    by_cases hj : j < 3
    · rw [List.getElem?_append_left (by omega)]
      have h0 : j / 3 = 0 := by omega
      have h1 : j % 3 = j := by omega
      rw [h0, h1]
      have : (x :: r).toArray[0]! = x := rfl
      rw [this, List.getElem?_eq_getElem (by omega), getElem!_pos _ _ (by omega)]
    · rw [List.getElem?_append_right (by omega), hc]
      simp only [List.length_cons] at h
      rw [ents_get r (j - 3) (by omega)]
      have h0 : j / 3 = (j - 3) / 3 + 1 := by omega
      have h1 : j % 3 = (j - 3) % 3 := by omega
      rw [h0, h1]
      congr 3
      have hlt : (j - 3) / 3 < r.length := by omega
      rw [getElem!_pos _ _ (by simpa using hlt), getElem!_pos _ _ (by simpa using hlt)]
      simp

def gSort : CanonFn := fun ro args H m => match args, H with
  | [.slr 0 n 0 q, .fn (.func 42) [] []], [(0, .rows (.entry L))] => bif ro 0 then .bad else .ite (decide (n = L.length ∧ L.length ≤ 67108864) && decide ((L.map (·.mac)).Nodup)) (.ret (.tup [], [(0, .rows (.entry (sortE L)))], m)) .bad
  | _, _ => .bad

section
open Go.Sort Go.Shelf Go.Lib
/-- what the sort leaves of the heap -/
theorem sortWorld_heap {w : World} {blk off n : Nat} {d : Array Entry} {os : Array Obj} {cs : Array Value} {t : TypeId} (hb : w.heap[blk]? = some (.cells cs t (0, 0))) :
    (sortWorldK Entry.cells 3 w blk off n d os).heap[blk]? = some (.cells (putCells id off (flatK Entry.cells 3 d) cs) t (0, 0)) ∧ ∀ b, b ≠ blk → b < w.heap.size → (sortWorldK Entry.cells 3 w blk off n d os).heap[b]? = w.heap[b]? := by
  have hlt : blk < w.heap.size := lt_of_some hb
  have e : (sortWorldK Entry.cells 3 w blk off n d os).heap = w.heap.modify blk (onCells (putCells id off (flatK Entry.cells 3 d))) ++ os := rfl
  rw [e]
  refine ⟨?_, fun b hne hbl => ?_⟩
  · rw [Array.getElem?_append_left (by simpa using hlt), Array.getElem?_modify, if_pos rfl, hb]
    rfl
  · rw [Array.getElem?_append_left (by simpa using hbl), Array.getElem?_modify, if_neg (Ne.symm hne)]
theorem sort_ok : CanonOk 41 gSort := by
  intro S args H m v H' m' hr
  unfold gSort at hr
  split at hr <;> (try cases hr)
  rename_i n q L
  cases hro : S.ro 0 with
  | true => rw [hro] at hr; cases hr
  | false =>
    rw [hro] at hr
    simp only [cond_false] at hr
    obtain ⟨hc, hr⟩ := Out.ite_bad hr
    simp only [Out.sel, Option.some.injEq, Prod.mk.injEq] at hr
    obtain ⟨rfl, rfl, rfl⟩ := hr
    simp only [Bool.and_eq_true, decide_eq_true_eq] at hc
    obtain ⟨⟨rfl, hlen⟩, hnd⟩ := hc
    refine ⟨⟨_, Try.func41, by kernel_rfl, by kernel_rfl⟩, fun E w hs => ?_⟩
    have hsz : (SV.rows (.entry L)).size = L.length * 3 := rfl
    by_cases h0 : L.length = 0
    · obtain rfl : L = [] := List.eq_nil_of_length_eq_zero h0
      have := AnyF.slices_SortFunc_none (P := Try.prog) { sortLay with } (bif (E.cp 0).2 && Nat.beq 0 0 then none else some (E.place 0 0)) (bif q then 0 else (E.cp 0).1) (.func (.func 42) #[] #[]) w
      refine (show Calls Try.prog 41 _ w _ from this).mono ?_
      rintro e w' ⟨rfl, rfl⟩
      refine ⟨E, Env.upto.refl _ _, Nat.le_refl _, by simp [SV.den, SV.dens], ?_, Fr.refl _ _, fun k x hk hr => ?_⟩
      · have : sortE [] = [] := by have := sortE_len []; exact List.eq_nil_of_length_eq_zero (by simpa using this)
        rw [this]; exact hs
      · have : sortE [] = [] := by have := sortE_len []; exact List.eq_nil_of_length_eq_zero (by simpa using this)
        rw [this] at hk
        exact .inr fun j hj => ⟨k, x, hk, hr, rfl, by omega, by omega⟩
    · have hpos : 0 < (SV.rows (.entry L)).size := by rw [hsz]; omega
      have hat := hs.at_ 0 (.rows (.entry L)) rfl hpos
      have hwr := hs.wr 0 (.rows (.entry L)) rfl hpos (SV.noTup_ok S E rfl) hro
      have hvl : ((SV.rows (.entry L)).cells S E).length = L.length * 3 := by rw [SV.len]; rfl
      obtain ⟨hsp, cs, t, fr, hb, hsize, hcell⟩ := hat.cells hwr (by rw [hvl]; omega)
      obtain ⟨cs2, t2, hb2⟩ := hwr
      rw [hb] at hb2
      injection hb2 with hb2
      injection hb2 with e1 e2 e3
      subst e1 e2 e3
      rw [hvl] at hsize
      generalize hblk : (E.ad 0).block = blk at hb hsize
      generalize hoff : (E.ad 0).off = off at hcell hsize
      have hcell : ∀ j, j < L.length * 3 → cs[off + j]? = some ((Entry.cells (L.toArray[j / 3]!))[j % 3]!) := fun j hj => (hcell j _ (by have := ents_get L j hj; exact this)).1
      have hH : HoldsK Entry.cells 3 w blk off L.toArray := by
        intro j hj
        have hj' : j < L.length * 3 := by simpa using hj
        refine ⟨?_, ?_⟩
        · simp only [World.cell?, hb]
          rw [hcell j hj', get_flatK _ _ _ _ (by simpa using hj')]
          rfl
        · simp [World.frozen?, hb]
      have := AnyQ.slices_SortFunc sortLay 3 Try.isAgg30 Try.sizeOf30 Entry.cells (fun _ => rfl) (fun x v hv => by simp [Entry.cells] at hv; rcases hv with rfl | rfl | rfl <;> rfl) macC swoMac 42 #[] blk off
        (bif q then L.length else (E.cp 0).1) L.toArray w (enters_of Try.func42 (by kernel_rfl) rfl) (fun _ _ _ _ x y => less42 x y _) hH (lt_of_some hb) (by simp; omega)
      have hden : SV.dens S E [.slr 0 L.length 0 q, .fn (.func 42) [] []] = [.slice (some ⟨blk, off, none⟩) L.toArray.size (bif q then L.length else (E.cp 0).1), .func (.func 42) #[] #[]] := by
        have hb0 : Nat.beq L.length 0 = false := by
          cases hq : Nat.beq L.length 0 with
          | false => rfl
          | true => exact absurd (Nat.eq_of_beq_eq_true hq) h0
        simp [SV.dens, SV.den, SV.cellss, hb0, Env.place, hblk, hoff]
      rw [hden]
      refine (show Calls Try.prog 41 _ w _ from this).mono ?_
      rintro e w' ⟨rfl, d', nn, os, hperm, hsorted, rfl⟩
      obtain ⟨hd1, _, hd3⟩ := hperm
      have hdl : d'.toList.length = L.length := by simpa using hd1
      have hp : d'.toList.Perm L := by
        have h1 : d'.extract 0 L.toArray.size = d' := by rw [← hd1]; simp
        have h2 : L.toArray.extract 0 L.toArray.size = L.toArray := by simp
        rw [h1, h2] at hd3
        simpa using hd3
      have hsrt : d'.toList.Pairwise fun x y => leM x y = true := by
        rw [List.pairwise_iff_getElem]
        intro i j hi hj hij
        have := hsorted i j (Nat.zero_le _) hij (by rw [← hd1]; simpa using hj)
        rw [getElem!_pos _ _ (by simpa using hj), getElem!_pos _ _ (by simpa using hi), ltMac] at this
        simp only [decide_eq_false_iff_not] at this
        simp only [leM, decide_eq_true_eq]
        simpa using this
      have hone : sortE L = d'.toList := sorted_one ((sortE_perm L).trans hp.symm) (((sortE_perm L).map _).nodup_iff.2 hnd) (sortE_sorted L) hsrt
      obtain ⟨hb', hother⟩ := sortWorld_heap (off := off) (n := nn) (d := d') (os := os) hb
      have hsz' : w.heap.size ≤ (sortWorldK Entry.cells 3 w blk off nn d' os).heap.size := size_sortWorldK_c Entry.cells 3 w blk off nn d' os
      have hput : ∀ j, j < L.length * 3 → (putCells id off (flatK Entry.cells 3 d') cs)[off + j]? = some ((Entry.cells (d'[j / 3]!))[j % 3]!) := by
        intro j hj
        have hlt : off + j < cs.size := by omega
        simp only [putCells, Array.getElem?_mapIdx, Array.getElem?_eq_getElem hlt, Option.map_some]
        rw [if_pos ⟨by omega, by simp only [size_flatK, hd1]; simp; omega⟩, show off + j - off = j from by omega, get_flatK _ _ _ _ (by rw [hd1]; simpa using hj)]
        rfl
      refine ⟨E, Env.upto.refl _ _, Nat.le_refl _, by simp [SV.den, SV.dens], ⟨fun k x hk hpx => ?_, fun k x hk hpx _ _ => ?_, fun k k' x x' hne hk hk' => ?_, fun k x hk => ?_⟩, ⟨rfl, rfl, rfl, hsz', fun b o ho => ?_⟩, fun k x hk hr => ?_⟩
      · rw [Heap.get_cons] at hk
        split at hk
        · rename_i he; subst he
          injection hk with hk; subst hk
          refine ⟨hsp, .inl ⟨_, t, (0, 0), by rw [hblk]; exact hb', ?_, ?_⟩⟩
          · rw [SV.len, hoff]
            show off + (sortE L).length * 3 ≤ _
            rw [sortE_len]
            simpa [putCells] using hsize
          · intro j v hv
            have hj : j < L.length * 3 := by
              have := (List.getElem?_eq_some_iff.1 hv).1
              rw [SV.len] at this
              have e : (SV.rows (.entry (sortE L))).size = (sortE L).length * 3 := rfl
              rw [e, sortE_len] at this
              exact this
            refine ⟨?_, SV.one_cells S E (.rows (.entry (sortE L))) rfl v (List.mem_of_getElem? hv)⟩
            have hg := ents_get (sortE L) j (by rw [sortE_len]; exact hj)
            have hv' : (ents (sortE L))[j]? = some v := hv
            rw [hoff, hput j hj, ← hv', hg, hone]
        · simp [Heap.get] at hk
      · rw [Heap.get_cons] at hk
        split at hk
        · rename_i he; subst he
          exact ⟨_, t, by rw [hblk]; exact hb'⟩
        · simp [Heap.get] at hk
      · rw [Heap.get_cons] at hk hk'
        split at hk
        · split at hk'
          · rename_i h1 h2; exact absurd (h1.trans h2.symm) hne
          · simp [Heap.get] at hk'
        · simp [Heap.get] at hk
      · rw [Heap.get_cons] at hk
        split at hk
        · injection hk with hk; subst hk; trivial
        · simp [Heap.get] at hk
      · by_cases hbb : b = blk
        · subst hbb
          rw [hb] at ho
          injection ho with ho
          subst ho
          refine .inr (.inl ⟨cs, _, t, (0, 0), rfl, hb', by simp [putCells], fun k hk => ?_⟩)
          have hout : ¬ (off ≤ k ∧ k < off + L.length * 3) := by
            rintro ⟨h1, h2⟩
            exact hk ⟨0, _, rfl, hro, hblk.symm, by omega, by rw [hsz, hoff]; exact h2⟩
          simp only [putCells, Array.getElem?_mapIdx, size_flatK, hd1]
          cases cs[k]? with
          | none => rfl
          | some u => simp only [Option.map_some, List.size_toArray]; rw [if_neg hout]
        · exact .inl ((hother b hbb (lt_of_some ho)).trans ho)
      · rw [Heap.get_cons] at hk
        split at hk
        · rename_i he; subst he
          injection hk with hk; subst hk
          refine .inr fun j hj => ⟨0, _, rfl, hro, rfl, by omega, ?_⟩
          have e : (SV.rows (.entry (sortE L))).size = (sortE L).length * 3 := rfl
          rw [e, sortE_len] at hj
          rw [hsz]; omega
        · simp [Heap.get] at hk
end

open Go Go.RowKit

def allE (l : PL) : List Entry := sortE (l.map toE)
theorem allE_len (l : PL) : (allE l).length = l.length := by unfold allE; rw [sortE_len, List.length_map]
noncomputable def cB (S : Stat) : Ctx := mkCtx S [] [] [(41, spc gSort S)] 20 2
theorem cB_fam : Fam cB := mk_fam (fun _ => []) _ 20 2 (fun S f g h => by cases h) (fun S f g h => by
  rcases List.mem_cons.1 h with h | h
  · injection h with h1 h2; subst h1 h2; exact spc_ok sort_ok S
  · cases h)
theorem Sat.ctx {c c' : Ctx} {n : Nat} {w0 w : World} {M : Nat → Nat → Prop} {E : Env} {st : St} {a : Act} (h : Sat c n w0 M E st a w) (hS : c'.S = c.S) (hw : c'.win = c.win) : Sat c' n w0 M E st a w :=
  ⟨by rw [hS]; exact h.slots, by rw [hS]; exact h.hs, by rw [hS]; exact h.own, h.fr, by rw [hS, hw]; exact h.win, by rw [hw]; exact h.winb, h.size, h.defers⟩

def gAll : CanonFn := fun ro args H m => match args, H with
  | [.ptr 0 0], [(0, .agg [.v (.int .i64 x), .v (.int .i64 y), .mp 1]), (1, .tab (.place .u64 c l))] => bif !(Nat.beq m 2) then .bad else
      .ite (decide (l.length ≤ 67108864)) (.ret (.slr 2 l.length 2 false, (2, .rows (.entry (allE l))) :: fdbH x y c l, 3)) .bad
  | _, _ => .bad

theorem all_body : (fnOf 17).body = some (.seq (.region 0 (regL 17 0).toArray false) (.seq (.region 1 (regL 17 1).toArray false) (.seq (.seq (.region 2 (regL 17 2).toArray false) (.block 0 (.loop (lpOf 17 0))))
  (.seq (.region 6 (regL 17 6).toArray false) (.seq (.region 7 (regL 17 7).toArray false) .ret))))) := by kernel_rfl
theorem all_q0 (S : Stat) (x y : Int) (ck : Nat) (l : PL) : region (cB (S.rd 0 2)) 28 (regL 17 0) (regL 17 0) ⟨argSlots [.ptr 0 0] 0, fdbH x y ck l, 2⟩ = .ret ⟨[(2, [], .v (.slice none 0 0)), (0, [], .ptr 0 0)], fdbH x y ck l, 2⟩ := by kernel_rfl
theorem all_q1 (S : Stat) (x y : Int) (ck : Nat) (l : PL) : region (cB (S.rd 0 2)) 28 (regL 17 1) (regL 17 1) ⟨[(2, [], .v (.slice none 0 0)), (0, [], .ptr 0 0)], fdbH x y ck l, 2⟩ =
  .ret ⟨[(3, [], .v (.slice none 0 0)), (2, [], .v (.slice none 0 0)), (0, [], .ptr 0 0)], fdbH x y ck l, 2⟩ := by kernel_rfl
theorem all_q2 (S : Stat) (x y : Int) (ck : Nat) (l : PL) : region (cB (S.rd 0 2)) 28 (regL 17 2) ((regL 17 2).take 4) ⟨[(3, [], .v (.slice none 0 0)), (2, [], .v (.slice none 0 0)), (0, [], .ptr 0 0)], fdbH x y ck l, 2⟩ =
  .ret ⟨[(9, [], .mp 1), (8, [], .ptr 0 2), (7, [], .ptr 0 0), (6, [], .ptr 0 0), (3, [], .v (.slice none 0 0)), (2, [], .v (.slice none 0 0)), (0, [], .ptr 0 0)], fdbH x y ck l, 2⟩ := by kernel_rfl
theorem all_r2 : regL 17 2 = (regL 17 2).take 4 ++ [opAt 17 2 4] := by kernel_rfl
theorem all_range : (opAt 17 2 4).op = .range 93 (.tmp 9) ∧ (opAt 17 2 4).dst = some 10 ∧ (opAt 17 2 4).guard = none := ⟨by kernel_rfl, by kernel_rfl, by kernel_rfl⟩
theorem all_q6 (S : Stat) (x y : Int) (ck : Nat) (l : PL) (L : List Entry) (n : Nat) : exec (cB (S.rd 0 2)) 28 20 (.seq (.region 6 (regL 17 6).toArray false) (.seq (.region 7 (regL 17 7).toArray false) .ret)) ⟨[(3, [], .slr 2 n 2 false)], (2, .rows (.entry L)) :: fdbH x y ck l, 3⟩ =
    .ite (decide (n = L.length ∧ L.length ≤ 67108864) && decide ((L.map (·.mac)).Nodup)) (.ret (.ret, ⟨[(2, [], .slr 2 n 2 false), (27, [], .slr 2 n 2 false), (26, [], .tup []), (25, [], .slr 2 n 2 false), (3, [], .slr 2 n 2 false)], (2, .rows (.entry (sortE L))) :: fdbH x y ck l, 3⟩)) .bad := by kernel_rfl

theorem all_ok : CanonOk 17 gAll := by
  intro S args H m v H' m' hr
  unfold gAll at hr
  split at hr <;> (try cases hr)
  rename_i x y ck l
  cases hm : !(Nat.beq m 2) with
  | true => rw [hm] at hr; cases hr
  | false =>
    rw [hm] at hr
    simp only [cond_false] at hr
    obtain ⟨hc, hr⟩ := Out.ite_bad hr
    simp only [Out.sel, Option.some.injEq, Prod.mk.injEq] at hr
    obtain ⟨rfl, rfl, rfl⟩ := hr
    have := Nat.eq_of_beq_eq_true (by simpa using hm : Nat.beq m 2 = true); subst this
    have hlen : l.length ≤ 67108864 := by simpa using hc
    refine ⟨⟨_, Try.func17, by kernel_rfl, by kernel_rfl⟩, fun E w hs0 => ?_⟩
    have hfull := cB_fam.full (S.rd 0 2)
    have hS : (cB (S.rd 0 2)).S = S.rd 0 2 := cB_fam.S _
    have hwin : (cB (S.rd 0 2)).win = [] := cB_fam.win _
    have hnil : ∀ a, PathHolds a [] := fun a _ _ hm => by cases hm
    have hro : ∀ k z, Heap.get (fdbH x y ck l) k = some z → (S.rd 0 2).ro k = true := by
      intro k z hk
      match k, hk with
      | 0, _ => rfl
      | 1, _ => rfl
      | k + 2, hk => cases hk
    have hre : ReHeap (fdbH x y ck l) S (S.rd 0 2) E (fdbH x y ck l) := ⟨⟨_, rfl, by simp [SV.cells, SV.cellss], trivial⟩, ⟨_, rfl, by simp [SV.cells], trivial⟩, trivial⟩
    have hs : HS (cB (S.rd 0 2)).S E (fdbH x y ck l) w := by
      rw [hS]; exact HS.re hs0 hre fun k z hk hr => by rw [hro k z hk] at hr; cases hr
    have hMH : ∀ b j, ¬ MH (cB (S.rd 0 2)).S E (fdbH x y ck l) b j := by
      rintro b j ⟨k, z, hk, hr, h⟩
      rw [hS, hro k z hk] at hr
      cases hr
    have key := enter_ok (P := Try.prog) (c := cB (S.rd 0 2)) (fnOf_eq Try.func17) hfull hwin all_body (args := [.ptr 0 0]) (H := fdbH x y ck l) (H' := (2, .rows (.entry (allE l))) :: fdbH x y ck l) (nx := 2) (nx' := 3) (v := .slr 2 l.length 2 false) (by decide) hs ?_
    · have he : SV.dens S E [.ptr 0 0] = SV.dens (cB (S.rd 0 2)).S E [.ptr 0 0] := by simp [SV.dens, SV.den]
      rw [he]
      refine key.mono ?_
      rintro e w' ⟨E', hu, hle, rfl, hs', hfr, hown⟩
      have hfr0 : Fr w w' (fun _ _ => False) := hfr.mono fun b j _ h => (hMH b j h).elim
      have hold : ∀ k z, Heap.get (fdbH x y ck l) k = some z → k < 2 ∧ E'.ad k = E.ad k := by
        intro k z hk
        have : k < 2 := by
          have := hro k z hk
          simpa [Stat.rd] using this
        exact ⟨this, (hu k this).1⟩
      have hflat : flatH ((2, .rows (.entry (allE l))) :: fdbH x y ck l) = true := rfl
      have hsp : ∀ k z, Heap.get ((2, .rows (.entry (allE l))) :: fdbH x y ck l) k = some z → (k = 2 ∧ z = .rows (.entry (allE l))) ∨ Heap.get (fdbH x y ck l) k = some z := by
        intro k z hk
        rw [Heap.get_cons] at hk
        split at hk
        · rename_i he; injection hk with hk; exact .inl ⟨he, hk.symm⟩
        · exact .inr hk
      rw [hS] at hs' hown
      have hcells : ∀ k z, Heap.get ((2, .rows (.entry (allE l))) :: fdbH x y ck l) k = some z → z.cells (S.rd 0 2) E' = z.cells S E' := fun k z hk => SV.flat_cells _ _ _ z (heap_all hflat hk)
      refine ⟨E', hu, hle, by simp [SV.den], ⟨fun k z hk hp => ?_, fun k z hk hp hnt hr => ?_, fun k k' z z' hne hk hk' hp hp' hr => ?_, fun k z hk => SV.flat_fo (heap_all hflat hk)⟩, hfr0.mono fun b j _ h => h.elim, fun k z hk hr => ?_⟩
      · rw [← hcells k z hk]; exact hs'.at_ k z hk hp
      · rcases hsp k z hk with ⟨rfl, rfl⟩ | h
        · exact hs'.wr 2 _ hk hp (by rw [hcells 2 _ hk]; exact hnt) rfl
        · rw [(hold k z h).2]
          have hbnd : z.kall (fun c => Nat.blt c 2) = true := by
            match k, h with
            | 0, h => injection h with h; subst h; rfl
            | 1, h => injection h with h; subst h; rfl
            | k + 2, h => cases h
          exact (hs0.wr k z h hp (by rw [← SV.cells_upto S hu z hbnd]; exact hnt) hr).fr hfr0
      · rcases hsp k z hk with ⟨rfl, rfl⟩ | h
        · exact hs'.dis 2 k' _ z' hne hk hk' hp hp' rfl
        · rcases hsp k' z' hk' with ⟨rfl, rfl⟩ | h'
          · exact (hs'.dis 2 k _ z (Ne.symm hne) hk' hk hp' hp rfl).symm
          · rw [(hold k z h).2, (hold k' z' h').2]
            exact hs0.dis k k' z z' hne h h' hp hp' hr
      · rcases hsp k z hk with ⟨rfl, rfl⟩ | h
        · rcases hown 2 _ hk rfl with h | h
          · exact .inl h
          · exact .inr fun j hj => (hMH _ _ (by rw [hS]; exact h j hj)).elim
        · rw [(hold k z h).2]
          exact .inr fun j hj => ⟨k, z, h, hr, rfl, by omega, by omega⟩
    · intro a sat
      have hn : (fnOf 17).ntmps = 28 := by kernel_rfl
      rw [hn] at sat ⊢
      refine wp_seq (wp_region_lit (Sat.piece' hfull _ _ sat (by erw [all_q0]; rfl) (by kernel_rfl) ?_))
      intro E1 a1 w1 hu1 sat1 _ _
      refine wp_seq (wp_region_lit (Sat.piece' hfull _ _ sat1 (by rw [all_q1]; rfl) (by kernel_rfl) ?_))
      intro E2 a2 w2 hu2 sat2 _ _
      refine wp_seq (wp_seq (wp_region_lit (wpList_eq all_r2 (Sat.piece hfull _ _ _ sat2 (by rw [all_q2]; rfl) (by kernel_rfl) ?_))))
      intro E3 a3 w3 hu3 sat3 _ _
      refine wpList_hand all_range.2.2 ?_
      obtain ⟨es, hbm, hents, hst⟩ := sat3.tab (k := 1) (ck := ck) (l := l) rfl
      have hev : a3.eval (.tmp 9) = .map (some (E3.ad 1).block) := ev_ok sat3.slots (hnil a3) (show ev _ [] (.tmp 9) = some (.mp 1) from rfl)
      obtain ⟨kt, et, hmt⟩ : ∃ kt et, Try.prog.underlying 93 = some (.map kt et) := ⟨_, _, Try.underlying93⟩
      have : (execOp a3.eval (opAt 17 2 4)).run Try.prog w3 = .ok (.value (.pointer (some ⟨w3.heap.size, 0, none⟩))) (w3.alloc (.mapIter (some (E3.ad 1).block) ck #[] ck)) := by simp [execOp, all_range.1, hev, run_range_map (P := Try.prog) w3 93 kt et (E3.ad 1).block es ck hmt hbm]
      unfold Oper.wp
      rw [this, Oper.upon_value, all_range.2.1]
      have sat4 := (sat3.grown (World.grownBy_alloc w3 (.mapIter (some (E3.ad 1).block) ck #[] ck) none) (fun g hg => by cases hg)).trim hwin [0, 3, 9] 2
      have sat4 := sat4.set (d := 10) (x := .v (.pointer (some ⟨w3.heap.size, 0, none⟩))) (s' := (10, [], .v (.pointer (some ⟨w3.heap.size, 0, none⟩))) :: [(0, [], .ptr 0 0), (3, [], .v (.slice none 0 0)), (9, [], .mp 1)]) rfl (v := .pointer (some ⟨w3.heap.size, 0, none⟩)) rfl
      have sat5 := (sat4.trim hwin [0, 3, 10] 2).ctx (c' := cA (S.rd 0 2)) (by rw [hS]; exact cA_fam.S _) (by rw [hwin]; exact cA_fam.win _)
      show wpList _ _ _ [] _ _
      rw [wpList]
      refine wp_block (wp_loop_rounds ((l.filter fun z => !((#[] : Array Nat).contains z.2.1)).length + 1) ?_)
      refine all_loop hlen _ (.slice none 0 0) #[] [] E3 _ _ ⟨sat5, heap_alloc_new _ _, sat3.fr.size, World.ownsRow_nil _ _ _ _, fun g hg => by (cases hg), by simp⟩ (Nat.lt_succ_self _) ?_
      intro v' L E6 a6 w6 hu6 sat6 own6 hid6 hperm hok
      have hL : L.length = l.length := by rw [hperm.length_eq, List.length_map]
      have hmac : (L.map (·.mac)).Nodup := by
        have h1 : (l.map toE).map (·.mac) = l.map (·.1) := by rw [List.map_map]; rfl
        exact ((hperm.map (·.mac)).nodup_iff).2 (by rw [h1]; exact hok.key)
      have hsort : sortE L = allE l := sortE_of_perm hperm hmac
      have hentl : (SV.rows (.entry L)).cells (S.rd 0 2) = fun _ => ents L := rfl
      -- the slice becomes a chunk
      obtain ⟨E7, hu7, sat7, hden⟩ : ∃ E7, Env.upto 2 E6 E7 ∧ Sat (cB (S.rd 0 2)) 28 w (MH (cB (S.rd 0 2)).S E (fdbH x y ck l)) E7 ⟨[(3, [], .slr 2 L.length 2 false)], (2, .rows (.entry L)) :: fdbH x y ck l, 3⟩ a6 w6 ∧ True := by
        have sat6 := sat6.ctx (c' := cB (S.rd 0 2)) (by rw [hS]; exact (cA_fam.S _).symm) (by rw [hwin]; exact (cA_fam.win _).symm)
        have hadopt : ∃ (ad : Addr) (cp : Nat × Bool), (∀ E7 : Env, E7.ad 2 = ad → E7.cp 2 = cp → v' = (SV.slr 2 L.length 2 false).den (S.rd 0 2) E7) ∧ (0 < (SV.rows (.entry L)).size → At w6 ad (ents L) ∧ Wr w6 ad.block ∧ w.heap.size ≤ ad.block ∧ Hid (allV x y ck l v' w3.heap.size) E6 ad.block) := by
          rcases own6.2 with ⟨rfl, hn⟩ | ⟨g, cap, cur, rfl, hge, hgg, hnc, _, hcs, htake⟩
          · refine ⟨default, (0, true), fun E7 _ hcp => ?_, fun hp => ?_⟩
            · rw [hn]
              simp [SV.den, hcp]
            · have : (SV.rows (.entry L)).size = L.length * 3 := rfl
              omega
          · refine ⟨⟨g, 0, none⟩, (cap, false), fun E7 had hcp => ?_, fun hp => ⟨⟨rfl, .inl ⟨cur, 30, (0, 0), hgg, ?_, ?_⟩⟩, ⟨cur, _, hgg⟩, hge, hid6 g rfl⟩⟩
            · simp [SV.den, hcp, Env.place, had]
            · rw [own6.1, hcs]
              show 0 + _ ≤ _
              have := Nat.mul_le_mul_right 3 hnc
              omega
            · intro k u hu
              refine ⟨?_, ?_⟩
              · rw [← htake, List.getElem?_take] at hu
                split at hu
                · simpa using hu
                · cases hu
              · exact SV.one_cells (S.rd 0 2) E6 (.rows (.entry L)) rfl u (List.mem_of_getElem? hu)
        obtain ⟨ad, cp, hv', hat⟩ := hadopt
        obtain ⟨E7, had, hcp, hu7, sat7⟩ := sat6.adopt (y := .rows (.entry L)) rfl rfl trivial ad cp (fun hp => ⟨(hat hp).1, fun _ => (hat hp).2.1, (hat hp).2.2⟩)
        refine ⟨E7, hu7, sat7.re ⟨⟨⟨.v v', rfl, ?_⟩, trivial⟩, ⟨⟨_, rfl, rfl, trivial⟩, ⟨_, rfl, rfl, trivial⟩, ⟨_, rfl, rfl, trivial⟩, trivial⟩, rfl, hwin⟩, trivial⟩
        rw [hS]
        exact hv' E7 had hcp
      show Exit.inBlock 0 _ (.exit 0) a6 w6
      simp only [Exit.inBlock, if_true]
      refine exec_ok hfull (fuel := 20) (draw_ok hfull) _ (LoopsOk.none (cB_fam.loop _) _) w _ _ _ _ _ a6 w6 E7 sat7 (by rw [all_q6]; simp only [Out.sel]; rw [if_pos (by simp only [hmac, Bool.and_eq_true, decide_eq_true_eq]; exact ⟨⟨trivial, by omega⟩, trivial⟩)]) ?_
      intro E8 a8 w8 hu8 _ sat8
      refine ⟨.inr rfl, E8, _, ?_, sat8, ?_, by rw [hsort], by omega⟩
      · exact ((hu1.trans (hu2.trans (hu3.trans (hu6.trans (Env.upto.trans (n := 2) hu7 hu8 (by show 2 ≤ 3; omega)) (Nat.le_refl 2)) (Nat.le_refl 2)) (Nat.le_refl 2)) (Nat.le_refl 2)))
      · rw [← hL]; rfl
end Go.Proofs.Ytfncoeoaniclmaa
