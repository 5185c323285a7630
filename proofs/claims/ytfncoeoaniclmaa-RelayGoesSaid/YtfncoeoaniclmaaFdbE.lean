/- (*Fdb).each: its loop over the map, whatever is done to an entry. -/
import Derived.Test.YtfncoeoaniclmaaFdbT
set_option linter.unusedVariables false
set_option maxRecDepth 100000
namespace Go.Proofs.Ytfncoeoaniclmaa
open Go Go.RowKit

section
variable {P : Program} {c : Ctx} {n : Nat} {w0 w : World} {M : Nat → Nat → Prop} {E : Env} {st st' : St} {a : Act}
/-- a piece of code by the engine, with what it leaves of blocks that no chunk lies in -/
theorem Sat.exec (hc : CtxFull Try.prog c) {Q : Exit → Act → World → Prop} {fuel : Nat} (code : Code) (hl : LoopsOk Try.prog c n code) (sat : Sat c n w0 M E st a w) {ex : Ex} (h : (exec c n fuel code st).sel = some (ex, st')) (hro : roOk c.S.ro st st' = true)
    (K : ∀ E' a' w', Env.upto st.next E E' → Sat c n w0 M E' st' a' w' → (∀ g, Hid st E g → g < w.heap.size → w'.heap[g]? = w.heap[g]? ∧ Hid st' E' g) → w.heap.size ≤ w'.heap.size → Q ex.out a' w') : code.wp Try.prog Q a w := by
  refine exec_ok hc (draw_ok hc) code hl w (MH c.S E st.heap) Q st st' ex a w E sat.local h ?_
  intro E' a' w' hu hle sat'
  exact K E' a' w' hu (sat.global sat') (fun g hg hlt => Sat.keep hro hu sat' hg hlt) sat'.fr.size
end

/-- what becomes of an entry: none: it is taken away -/
def updE (ch : Place → Place) (x : Int × Nat × Place) : Option (Int × Nat × Place) := if (ch x.2.2).sec ≤ 0 then none else some (x.1, x.2.1, ch x.2.2)
/-- the table when some have been seen -/
def curE (ch : Place → Place) (seen : Array Nat) (l : PL) : PL := l.filterMap fun x => if seen.contains x.2.1 then updE ch x else some x
def nextE (ch : Place → Place) (ck : Nat) (l : PL) (z : Int × Nat × Place) : PL := if (ch z.2.2).sec ≤ 0 then delK (putK l z.1 ck (ch z.2.2)) z.1 else putK l z.1 ck (ch z.2.2)

theorem curE_keys {ch : Place → Place} {seen : Array Nat} {l : PL} {y : Int × Nat × Place} (h : y ∈ curE ch seen l) : ∃ x ∈ l, y.1 = x.1 ∧ y.2.1 = x.2.1 ∧ (seen.contains x.2.1 = false → y = x) := by
  unfold curE at h
  obtain ⟨x, hx, hy⟩ := List.mem_filterMap.1 h
  refine ⟨x, hx, ?_⟩
  cases hc : seen.contains x.2.1 with
  | false => rw [hc] at hy; simp only [Bool.false_eq_true, if_false, Option.some.injEq] at hy; subst hy; exact ⟨rfl, rfl, fun _ => rfl⟩
  | true =>
    rw [hc] at hy
    simp only [if_true, updE] at hy
    split at hy
    · cases hy
    · injection hy with hy; subst hy; exact ⟨rfl, rfl, fun h => by cases h⟩
theorem curE_start {ch : Place → Place} (l : PL) : curE ch #[] l = l := by
  unfold curE
  simp
theorem curE_end {ch : Place → Place} {seen : Array Nat} {l : PL} (h : ∀ x ∈ l, seen.contains x.2.1 = true) : curE ch seen l = l.filterMap (updE ch) := by
  unfold curE
  induction l with
  | nil => rfl
  | cons x r ih =>
    rw [List.filterMap_cons, List.filterMap_cons, h x List.mem_cons_self, ih fun y hy => h y (List.mem_cons_of_mem _ hy)]
    rfl
theorem hasK_false {α : Type} {l : List (Int × Nat × α)} {n : Int} (h : ∀ x ∈ l, x.1 ≠ n) : hasK l n = false ∧ (∀ c y, putK l n c y = l ++ [(n, c, y)]) ∧ delK l n = l := by
  induction l with
  | nil => exact ⟨rfl, fun _ _ => rfl, rfl⟩
  | cons x r ih =>
    obtain ⟨h1, h2, h3⟩ := ih fun y hy => h y (List.mem_cons_of_mem _ hy)
    have hx := h x List.mem_cons_self
    exact ⟨by simp [hasK, hx, h1], fun c y => by simp [putK, hx, h2], by simp [delK, hx, h3]⟩
theorem curE_congr {ch : Place → Place} {s t : Array Nat} {l : PL} (h : ∀ x ∈ l, s.contains x.2.1 = t.contains x.2.1) : curE ch s l = curE ch t l := by
  unfold curE
  induction l with
  | nil => rfl
  | cons x r ih =>
    rw [List.filterMap_cons, List.filterMap_cons, h x List.mem_cons_self, ih fun y hy => h y (List.mem_cons_of_mem _ hy)]
theorem curE_step {ch : Place → Place} {seen : Array Nat} {ck : Nat} {z : Int × Nat × Place} : ∀ {l : PL}, (l.map (·.1)).Nodup → (l.map (·.2.1)).Nodup → z ∈ l → seen.contains z.2.1 = false →
    hasK (curE ch seen l) z.1 = true ∧ curE ch (seen.push z.2.1) l = nextE ch ck (curE ch seen l) z
  | [], _, _, hz, _ => by cases hz
  | x :: r, hk, hb, hz, hs => by
    simp only [List.map_cons, List.nodup_cons] at hk hb
    have hcons : ∀ t : Array Nat, curE ch t (x :: r) = (match (if t.contains x.2.1 then updE ch x else some x) with | none => curE ch t r | some y => y :: curE ch t r) := fun t => by
      unfold curE
      rw [List.filterMap_cons]
      cases (if t.contains x.2.1 = true then updE ch x else some x) <;> rfl
    have hpush : ∀ b, (seen.push z.2.1).contains b = (seen.contains b || b == z.2.1) := fun b => contains_push _ _ _
    rcases List.mem_cons.1 hz with rfl | hz
    · have hr : curE ch (seen.push z.2.1) r = curE ch seen r := curE_congr fun y hy => by
        rw [hpush]
        have : (y.2.1 == z.2.1) = false := by
          cases hbq : y.2.1 == z.2.1 with
          | false => rfl
          | true => exact absurd (by rw [← beq_iff_eq.1 hbq]; exact List.mem_map_of_mem (f := fun y : Int × Nat × Place => y.2.1) hy) hb.1
        rw [this, Bool.or_false]
      have hno : ∀ y ∈ curE ch seen r, y.1 ≠ z.1 := fun y hy he => by
        obtain ⟨x, hx, h1, _⟩ := curE_keys hy
        exact hk.1 (by rw [← he, h1]; exact List.mem_map_of_mem (f := fun y : Int × Nat × Place => y.1) hx)
      have hpz : (seen.push z.2.1).contains z.2.1 = true := by rw [hpush, beq_self_eq_true, Bool.or_true]
      rw [hcons, hcons, hs, hpz, hr]
      simp only [Bool.false_eq_true, if_false, if_true]
      refine ⟨by simp [hasK], ?_⟩
      unfold updE nextE
      by_cases hsec : (ch z.2.2).sec ≤ 0
      · simp [hsec, putK, delK]
      · simp [hsec, putK]
    · have hne : x.1 ≠ z.1 := fun he => hk.1 (by rw [he]; exact List.mem_map_of_mem (f := fun y : Int × Nat × Place => y.1) hz)
      have hnb : (x.2.1 == z.2.1) = false := by
        cases hbq : x.2.1 == z.2.1 with
        | false => rfl
        | true => exact absurd (by rw [beq_iff_eq.1 hbq]; exact List.mem_map_of_mem (f := fun y : Int × Nat × Place => y.2.1) hz) hb.1
      obtain ⟨i1, i2⟩ := curE_step (ch := ch) (ck := ck) hk.2 hb.2 hz hs
      have hpx : (seen.push z.2.1).contains x.2.1 = seen.contains x.2.1 := by rw [hpush, hnb, Bool.or_false]
      rw [hcons, hcons, hpx, i2]
      cases hc : (if seen.contains x.2.1 then updE ch x else some x) with
      | none => exact ⟨i1, rfl⟩
      | some y =>
        have hy1 : y.1 = x.1 := by
          split at hc
          · unfold updE at hc
            split at hc
            · cases hc
            · injection hc with hc; rw [← hc]
          · injection hc with hc; rw [← hc]
        have hny : y.1 ≠ z.1 := by rw [hy1]; exact hne
        refine ⟨by simp [hasK, hny, i1], ?_⟩
        unfold nextE
        by_cases hsec : (ch z.2.2).sec ≤ 0
        · simp [hsec, putK, delK, hny]
        · simp [hsec, putK, hny]

/-- the body of the loop, behind 'entry' -/
noncomputable def eachR : Code := .seq (.region 3 (regL 47 3).toArray false) (.seq (.region 4 (regL 47 4).toArray true) (.seq (.region 5 (regL 47 5).toArray false) (.cond (.tmp 27) (.region 6 (regL 47 6).toArray false) .skip)))
theorem each_code : lpOf 47 0 = .seq (.region 1 (regL 47 1).toArray false) (.seq (.cond (.tmp 12) .skip (.exit 0)) (.block 1 (.seq (.region 2 (regL 47 2).toArray false) eachR))) := by kernel_rfl
theorem each_body : (fnOf 47).body = some (.seq (.region 0 (regL 47 0).toArray false) (.block 0 (.loop (lpOf 47 0)))) := by kernel_rfl
theorem each_r0 : regL 47 0 = (regL 47 0).take 4 ++ [opAt 47 0 4] := by kernel_rfl
theorem each_r1 : regL 47 1 = [opAt 47 1 0] ++ [opAt 47 1 1] := by kernel_rfl
theorem each_r2 : regL 47 2 = opAt 47 2 0 :: (regL 47 2).drop 1 := by kernel_rfl
theorem each_range : (opAt 47 0 4).op = .range 93 (.tmp 9) ∧ (opAt 47 0 4).dst = some 10 ∧ (opAt 47 0 4).guard = none := ⟨by kernel_rfl, by kernel_rfl, by kernel_rfl⟩
theorem each_next : (opAt 47 1 0).op = .next (.tmp 10) false ∧ (opAt 47 1 0).dst = some 11 ∧ (opAt 47 1 0).guard = none := ⟨by kernel_rfl, by kernel_rfl, by kernel_rfl⟩
theorem each_entry : (opAt 47 2 0).op = .entry (.tmp 10) ∧ (opAt 47 2 0).dst = some 13 ∧ (opAt 47 2 0).guard = none := ⟨by kernel_rfl, by kernel_rfl, by kernel_rfl⟩

def eachS (fv : SV) (it : Nat) : Slots := [(0, [], .ptr 0 0), (1, [], fv), (10, [], .v (.pointer (some ⟨it, 0, none⟩)))]
theorem each_p1 (S : Stat) (c : Ctx) (hc : c.sure = []) (H : Heap) (nx it : Nat) (fv : SV) (b : Bool) (vs : List SV) :
    region c 33 (regL 47 1) [opAt 47 1 1] ⟨(11, [], .tup (.kb b :: vs)) :: eachS fv it, H, nx⟩ = .ret ⟨(12, [], .kb b) :: (11, [], .tup (.kb b :: vs)) :: eachS fv it, H, nx⟩ := by
  obtain ⟨S', win, tys, eqb, read, spec, loop, sure⟩ := c
  dsimp only at hc
  subst hc
  kernel_rfl

/-- what a walk of 'each' with some change is -/
structure EachW (σ : Type) (c : Ctx) (ch : Place → Place) (fv : SV) (hp : σ → Nat → PL → Heap) (nx km : Nat) (stp : σ → Place → σ) : Prop where
  full : CtxFull Try.prog c
  win : c.win = []
  sure : c.sure = []
  ro : ∀ k, c.S.ro k = false
  loop : ∀ q st, c.loop q st = none
  lt : km < nx
  get : ∀ s ck l, (hp s ck l).get km = some (.tab (.place .u64 ck l))
  round : ∀ s ck l (z : Int × Nat × Place) it, ∃ st2 st3, (region c 33 (regL 47 2) ((regL 47 2).drop 1) ⟨(13, [], .tup [.v (.int .u64 z.1), .rcd (.place z.2.2)]) :: eachS fv it, hp s ck l, nx⟩).sel = some st2 ∧ nx ≤ st2.next ∧
    (exec c 33 20 eachR st2).sel = some (.nrm, st3) ∧ trimSt [0, 1, 10] nx st3 = ⟨eachS fv it, hp (stp s z.2.2) (tickK l z.1 ck) (nextE ch ck l z), nx⟩

theorem each_loop {σ : Type} {c : Ctx} {ch : Place → Place} {fv : SV} {hp : σ → Nat → PL → Heap} {nx km : Nat} {stp : σ → Place → σ} (W : EachW σ c ch fv hp nx km stp) {w0 : World} {l : PL} {ck : Nat} {M : Nat → Nat → Prop} {it : Nat} (hge : w0.heap.size ≤ it) (hok : PLok l ck) {Q : Exit → Act → World → Prop} :
    ∀ (k : Nat) (s : σ) (seen : Array Nat) (Ls : List Place) (E : Env) (a : Act) (w : World), Sat c 33 w0 M E ⟨eachS fv it, hp s ck (curE ch seen l), nx⟩ a w → w.heap[it]? = some (.mapIter (some (E.ad km).block) ck seen ck) →
    Ls.Perm ((l.filter fun z => seen.contains z.2.1).map (·.2.2)) → (l.filter fun z => !(seen.contains z.2.1)).length < k →
    (∀ Ls' E' a' w', Env.upto nx E E' → (Ls ++ Ls').Perm (l.map (·.2.2)) → Sat c 33 w0 M E' ⟨eachS fv it, hp (Ls'.foldl stp s) ck (l.filterMap (updE ch)), nx⟩ a' w' → Q (.exit 0) a' w') →
    Code.rounds Try.prog (lpOf 47 0) Q k a w
  | 0, _, _, _, _, _, _, _, _, _, hlt, _ => absurd hlt (Nat.not_lt_zero _)
  | k + 1, s, seen, Ls, E, a, w, sat, hit, hperm, hlt, hK => by
    have hnil : ∀ a, PathHolds a [] := fun a _ _ hm => by cases hm
    obtain ⟨es, hbm, hents, hst⟩ := sat.tab (k := km) (ck := ck) (l := curE ch seen l) (W.get _ _ _)
    have hilt : it < w.heap.size := lt_of_some hit
    rw [rounds_succ, each_code]
    refine wp_seq (wp_region_lit (wpList_eq each_r1 (wpList_hand each_next.2.2 ?_)))
    have hev : a.eval (.tmp 10) = .pointer (some ⟨it, 0, none⟩) := ev_ok sat.slots (hnil a) (show ev _ [] (.tmp 10) = some (.v (.pointer (some ⟨it, 0, none⟩))) from rfl)
    rcases next_any (P := Try.prog) w (opAt 47 1 0).type it (E.ad km).block ck ck seen es ck hit hbm (fun z hz => hst.1 z hz) (Nat.le_refl _) with ⟨h0, hrun⟩ | ⟨e, he, w1, hw1, hrun⟩
    · -- none is left
      have : (execOp a.eval (opAt 47 1 0)).run Try.prog w = .ok (.value (.tuple #[.bool false])) w := by simp [execOp, each_next.1, hev, hrun]
      unfold Oper.wp
      rw [this, Oper.upon_value, each_next.2.1]
      have sat1 := sat.set (d := 11) (x := .tup [.kb false]) (s' := (11, [], .tup [.kb false]) :: eachS fv it) rfl (v := .tuple #[.bool false]) (by simp [SV.den, SV.dens])
      refine Sat.piece' W.full (regL 47 1) _ sat1 (by erw [each_p1 c.S c W.sure]; rfl) (roOk_free W.ro _ _) ?_
      intro E' a' w' hu sat2 hkeep hsz
      refine wp_seq ?_
      have hc : a'.eval (.tmp 12) = .bool false := ev_ok sat2.slots (hnil a') (show ev _ [] (.tmp 12) = some (.kb false) from rfl)
      refine wp_cond_false hc (wp_exit ?_)
      have hall := left_all hents h0
      have hseen : ∀ x ∈ l, seen.contains x.2.1 = true := fun x hx => by
        cases hcx : seen.contains x.2.1 with
        | true => rfl
        | false =>
          have : x ∈ curE ch seen l := List.mem_filterMap.2 ⟨x, hx, by rw [hcx]; rfl⟩
          rw [hall x this] at hcx; cases hcx
      have hf : (l.filter fun z => seen.contains z.2.1) = l := List.filter_eq_self.2 hseen
      rw [hf] at hperm
      rw [curE_end hseen] at sat2
      refine hK [] E' a' w' hu (by simpa using hperm) ?_
      refine ⟨fun t p x hx => sat2.slots t p x ?_, sat2.hs, sat2.own, sat2.fr, sat2.win, sat2.winb, sat2.size, sat2.defers⟩
      exact keepT_get (ts := [0, 1, 10]) hx
    · -- one of those that are left
      obtain ⟨z, hz, k1, k2, k3, k4⟩ := left_one hents he
      obtain ⟨z', hz', j1, j2, j3⟩ := curE_keys hz
      have := j3 (by rw [← j2]; exact k4); subst this
      have : (execOp a.eval (opAt 47 1 0)).run Try.prog w = .ok (.value (.tuple #[.bool true, e.key, e.val])) { w1 with heap := w.heap.setIfInBounds it (.mapIter (some (E.ad km).block) ck (seen.push e.born) ck) } := by simp [execOp, each_next.1, hev, hrun]
      unfold Oper.wp
      rw [this, Oper.upon_value, each_next.2.1]
      have hgi := grown_iter hw1 it (.mapIter (some (E.ad km).block) ck (seen.push e.born) ck)
      have hi2 : ({ w1 with heap := w.heap.setIfInBounds it (.mapIter (some (E.ad km).block) ck (seen.push e.born) ck) } : World).heap[it]? = some (.mapIter (some (E.ad km).block) ck (seen.push e.born) ck) := by simp [hilt]
      generalize hw2 : ({ w1 with heap := w.heap.setIfInBounds it (.mapIter (some (E.ad km).block) ck (seen.push e.born) ck) } : World) = w2 at hgi hi2 ⊢
      have hhi := sat.hid hit
      have satA := sat.grown hgi (fun g hg => by injection hg with hg; subst hg; exact ⟨hge, hhi⟩)
      have sat1 := satA.set (d := 11) (x := .tup [.kb true, .v e.key, .v e.val]) (s' := (11, [], .tup [.kb true, .v e.key, .v e.val]) :: eachS fv it) rfl (v := .tuple #[.bool true, e.key, e.val]) (by simp [SV.den, SV.dens])
      refine Sat.piece' W.full (regL 47 1) _ sat1 (by erw [each_p1 c.S c W.sure]; rfl) (roOk_free W.ro _ _) ?_
      intro E3 a3 w3 hu3 sat3 hkeep3 hsz3
      have hc : a3.eval (.tmp 12) = .bool true := ev_ok sat3.slots (hnil a3) (show ev _ [] (.tmp 12) = some (.kb true) from rfl)
      refine wp_seq (wp_cond_true hc (wp_skip ?_))
      refine wp_block (wp_seq (wp_region_lit (wpList_eq each_r2 (wpList_hand each_entry.2.2 ?_))))
      obtain ⟨hi3, hhi3⟩ := hkeep3 it hhi (lt_of_some hi2)
      rw [hi2] at hi3
      have e31 : E3.ad km = E.ad km := (hu3 km W.lt).1
      have sat3 : Sat c 33 w0 M E3 ⟨eachS fv it, hp s ck (curE ch seen l), nx⟩ a3 w3 := ⟨fun t p x hx => sat3.slots t p x (keepT_get (ts := [0, 1, 10]) hx), sat3.hs, sat3.own, sat3.fr, sat3.win, sat3.winb, sat3.size, sat3.defers⟩
      obtain ⟨es3, hb3, hents3, hst3⟩ := sat3.tab (k := km) (ck := ck) (l := curE ch seen l) (W.get _ _ _)
      obtain ⟨e3, he3, q1, q2, q3⟩ := ent_to hents3 hz
      have hev3 : a3.eval (.tmp 10) = .pointer (some ⟨it, 0, none⟩) := ev_ok sat3.slots (hnil a3) (show ev _ [] (.tmp 10) = some (.v (.pointer (some ⟨it, 0, none⟩))) from rfl)
      have hrun3 := entry_any (P := Try.prog) w3 it (E3.ad km).block ck seen es3 ck e3 (by rw [hi3, e31, k3, q3]) hb3 he3 hst3.2.1
      have : (execOp a3.eval (opAt 47 2 0)).run Try.prog w3 = .ok (.value (.tuple #[.int .u64 z.1, .agg z.2.2.cells.toArray])) w3 := by simp [execOp, each_entry.1, hev3, hrun3, q1, q2]
      unfold Oper.wp
      rw [this, Oper.upon_value, each_entry.2.1]
      have sat4 := sat3.set (d := 13) (x := .tup [.v (.int .u64 z.1), .rcd (.place z.2.2)]) (s' := (13, [], .tup [.v (.int .u64 z.1), .rcd (.place z.2.2)]) :: eachS fv it) rfl (v := .tuple #[.int .u64 z.1, .agg z.2.2.cells.toArray]) (by simp [SV.den, SV.dens, Rec.cells])
      obtain ⟨st2, st3, hr2, hnx2, hx3, htr⟩ := W.round s ck (curE ch seen l) z it
      refine Sat.piece' W.full (regL 47 2) _ sat4 hr2 (roOk_free W.ro _ _) ?_
      intro E5 a5 w5 hu5 sat5 hkeep5 hsz5
      obtain ⟨hi5, hhi5⟩ := hkeep5 it hhi3 (lt_of_some hi3)
      rw [hi3] at hi5
      refine Sat.exec W.full eachR (LoopsOk.none W.loop _) sat5 hx3 (roOk_free W.ro _ _) ?_
      intro E6 a6 w6 hu6 sat6 hkeep6 hsz6
      obtain ⟨hi6, _⟩ := hkeep6 it hhi5 (lt_of_some hi5)
      rw [hi5] at hi6
      show Code.rounds _ _ _ k a6 w6
      have hu : Env.upto nx E E6 := hu3.trans (hu5.trans (fun k hk => hu6 k (Nat.lt_of_lt_of_le hk hnx2)) (Nat.le_refl _)) (Nat.le_refl _)
      have sat7 := sat6.trim W.win [0, 1, 10] nx
      rw [htr] at sat7
      obtain ⟨hhas, hcur⟩ := curE_step (ch := ch) (seen := seen) (ck := ck) hok.key hok.born hz' k4
      rw [← hcur, show tickK (curE ch seen l) z.1 ck = ck from by unfold tickK; rw [hhas]; rfl] at sat7
      refine each_loop W hge hok k (stp s z.2.2) (seen.push z.2.1) (Ls ++ [z.2.2]) E6 a6 w6 sat7 (by rw [hi6, (hu km W.lt).1, k3]) ?_ ?_ ?_
      · refine (hperm.append_right [z.2.2]).trans ?_
        have := (seen_perm hok.born hz' k4).map (·.2.2)
        rw [List.map_append] at this
        exact this.symm
      · have := unseen_lt hz' k4
        omega
      · intro Ls' E' a' w' hu' hp' sat'
        refine hK (z.2.2 :: Ls') E' a' w' (hu.trans hu' (Nat.le_refl _)) (by simpa using hp') sat'

open Go Go.RowKit

/-- 'each' as a whole, by its walk -/
theorem each_run {σ : Type} {c : Ctx} {ch : Place → Place} {fv : SV} {hp : σ → Nat → PL → Heap} {nx km : Nat} {stp : σ → Place → σ} (W : EachW σ c ch fv hp nx km stp) (s s' : σ) (ck : Nat) (l : PL)
    (hstart : ∃ st, (region c 33 (regL 47 0) ((regL 47 0).take 4) ⟨argSlots [.ptr 0 0, fv] 0, hp s ck l, nx⟩).sel = some st ∧ trimSt [0, 1, 9] nx st = ⟨[(0, [], .ptr 0 0), (1, [], fv), (9, [], .mp km)], hp s ck l, nx⟩)
    (hfin : ∀ Ls : List Place, Ls.Perm (l.map (·.2.2)) → Ls.foldl stp s = s') {E : Env} {w : World} (hs : HS c.S E (hp s ck l) w) :
    Calls Try.prog 47 (SV.dens c.S E [.ptr 0 0, fv]).toArray w fun e w' =>
    ∃ E', Env.upto nx E E' ∧ nx ≤ nx ∧ e = .returned ((SV.tup []).den c.S E') ∧ HS c.S E' (hp s' ck (l.filterMap (updE ch))) w' ∧ Fr w w' (MH c.S E (hp s ck l)) ∧
      ∀ k x, (hp s' ck (l.filterMap (updE ch))).get k = some x → c.S.ro k = false → (w.heap.size ≤ (E'.ad k).block ∨ ∀ j, j < x.size → MH c.S E (hp s ck l) (E'.ad k).block ((E'.ad k).off + j)) := by
  have hn : (fnOf 47).ntmps = 33 := by kernel_rfl
  have hnil : ∀ a, PathHolds a [] := fun a _ _ hm => by cases hm
  refine enter_ok (fnOf_eq Try.func47) W.full W.win each_body (by rw [hn]; show 2 ≤ 33; omega) hs ?_
  intro a sat
  rw [hn] at sat ⊢
  obtain ⟨st, h1, h2⟩ := hstart
  refine wp_seq (wp_region_lit (wpList_eq each_r0 (Sat.piece W.full _ _ _ sat h1 (roOk_free W.ro _ _) ?_)))
  intro E3 a3 w3 hu3 sat3 _ _
  refine wpList_hand each_range.2.2 ?_
  have sat3 := sat3.trim W.win [0, 1, 9] nx
  rw [h2] at sat3
  obtain ⟨es, hbm, hents, hst⟩ := sat3.tab (k := km) (ck := ck) (l := l) (W.get _ _ _)
  have hok := PLok.of hents hst
  have hev : a3.eval (.tmp 9) = .map (some (E3.ad km).block) := ev_ok sat3.slots (hnil a3) (show ev _ [] (.tmp 9) = some (.mp km) from rfl)
  obtain ⟨kt, et, hmt⟩ : ∃ kt et, Try.prog.underlying 93 = some (.map kt et) := ⟨_, _, Try.underlying93⟩
  have : (execOp a3.eval (opAt 47 0 4)).run Try.prog w3 = .ok (.value (.pointer (some ⟨w3.heap.size, 0, none⟩))) (w3.alloc (.mapIter (some (E3.ad km).block) ck #[] ck)) := by simp [execOp, each_range.1, hev, run_range_map (P := Try.prog) w3 93 kt et (E3.ad km).block es ck hmt hbm]
  unfold Oper.wp
  rw [this, Oper.upon_value, each_range.2.1]
  have sat4 := sat3.grown (World.grownBy_alloc w3 (.mapIter (some (E3.ad km).block) ck #[] ck) none) (fun g hg => by cases hg)
  have sat4 := sat4.set (d := 10) (x := .v (.pointer (some ⟨w3.heap.size, 0, none⟩))) (s' := (10, [], .v (.pointer (some ⟨w3.heap.size, 0, none⟩))) :: [(0, [], .ptr 0 0), (1, [], fv), (9, [], .mp km)]) rfl (v := .pointer (some ⟨w3.heap.size, 0, none⟩)) rfl
  have sat5 : Sat c 33 w (MH c.S E (hp s ck l)) E3 ⟨eachS fv w3.heap.size, hp s ck (curE ch #[] l), nx⟩ (a3.put (some 10) (.pointer (some ⟨w3.heap.size, 0, none⟩))) (w3.alloc (.mapIter (some (E3.ad km).block) ck #[] ck)) := by
    rw [curE_start]
    exact ⟨fun t p x hx => sat4.slots t p x (keepT_get (ts := [0, 1, 10]) hx), sat4.hs, sat4.own, sat4.fr, sat4.win, sat4.winb, sat4.size, sat4.defers⟩
  show wpList _ _ _ [] _ _
  rw [wpList]
  refine wp_block (wp_loop_rounds ((l.filter fun z => !((#[] : Array Nat).contains z.2.1)).length + 1) ?_)
  refine each_loop W sat3.fr.size hok _ s #[] [] E3 _ _ sat5 (heap_alloc_new _ _) (by simp) (Nat.lt_succ_self _) ?_
  intro Ls E6 a6 w6 hu6 hperm sat6
  have := hfin Ls (by simpa using hperm)
  rw [this] at sat6
  show Exit.inBlock 0 _ (.exit 0) a6 w6
  have hin : ∀ (Q : Exit → Act → World → Prop) a w, Q .normal a w → Exit.inBlock 0 Q (.exit 0) a w := fun Q a w h => by simp only [Exit.inBlock, if_true]; exact h
  refine hin _ _ _ ?_
  exact ⟨.inl rfl, E6, _, hu3.trans hu6 (Nat.le_refl _), sat6, by rw [show (fnOf 47).results.toList = [] from by kernel_rfl]; rfl, rfl, Nat.le_refl _⟩

noncomputable def cE (S : Stat) : Ctx := mkCtx S [] [] [] 20 3
theorem cE_fam : Fam cE := mk_fam (fun _ => []) (fun _ => []) 20 3 (fun S f g h => by cases h) (fun S f g h => by cases h)

/-! ### a second -/
def tickP (p : Place) : Place := ⟨p.port, IntKind.i64.wrap (p.sec - 1)⟩
def tickFv : SV := .fn (.func 48) [] []
theorem tick_p2 (S : Stat) (x y : Int) (ck it : Nat) (l : PL) (m : Int) (p : Place) : region (cE (S.wt 0)) 33 (regL 47 2) ((regL 47 2).drop 1) ⟨(13, [], .tup [.v (.int .u64 m), .rcd (.place p)]) :: eachS tickFv it, fdbH x y ck l, 2⟩ =
  .ret ⟨[(4, [], .v (.int .u64 m)), (5, [], .ptr 2 0), (15, [], .rcd (.place p)), (14, [], .v (.int .u64 m)), (13, [], .tup [.v (.int .u64 m), .rcd (.place p)])] ++ eachS tickFv it, (2, .rcd (.place p)) :: fdbH x y ck l, 3⟩ := by kernel_rfl
theorem tick_p3 (S : Stat) (x y : Int) (ck it : Nat) (l : PL) (m : Int) (p : Place) : trimO [0, 1, 10] 2 (exec (cE (S.wt 0)) 33 20 eachR ⟨[(4, [], .v (.int .u64 m)), (5, [], .ptr 2 0), (15, [], .rcd (.place p)), (14, [], .v (.int .u64 m)), (13, [], .tup [.v (.int .u64 m), .rcd (.place p)])] ++ eachS tickFv it, (2, .rcd (.place p)) :: fdbH x y ck l, 3⟩) =
  .ite (decide ((tickP p).sec ≤ 0)) (.ret (.nrm, ⟨eachS tickFv it, fdbH x y (tickK l m ck) (delK (putK l m ck (tickP p)) m), 2⟩)) (.ret (.nrm, ⟨eachS tickFv it, fdbH x y (tickK l m ck) (putK l m ck (tickP p)), 2⟩)) := by kernel_rfl
theorem tickW (S : Stat) (x y : Int) : EachW Unit (cE (S.wt 0)) tickP tickFv (fun _ ck l => fdbH x y ck l) 2 1 (fun _ _ => ()) where
  full := cE_fam.full _
  win := cE_fam.win _
  sure := rfl
  ro k := by rw [cE_fam.S]; rfl
  loop := cE_fam.loop _
  lt := by omega
  get _ _ _ := rfl
  round _ ck l z it := by
    have h3 := tick_p3 S x y ck it l z.1 z.2.2
    have hsel : (trimO [0, 1, 10] 2 (exec (cE (S.wt 0)) 33 20 eachR ⟨[(4, [], .v (.int .u64 z.1)), (5, [], .ptr 2 0), (15, [], .rcd (.place z.2.2)), (14, [], .v (.int .u64 z.1)), (13, [], .tup [.v (.int .u64 z.1), .rcd (.place z.2.2)])] ++ eachS tickFv it, (2, .rcd (.place z.2.2)) :: fdbH x y ck l, 3⟩)).sel =
        some (.nrm, ⟨eachS tickFv it, fdbH x y (tickK l z.1 ck) (nextE tickP ck l z), 2⟩) := by
      rw [h3]
      by_cases h : (tickP z.2.2).sec ≤ 0 <;> simp [Out.sel, h, nextE]
    obtain ⟨st0, h4, h5⟩ := trimO_sel hsel
    exact ⟨_, st0, by rw [tick_p2]; rfl, by show 2 ≤ 3; omega, h4, h5.symm⟩

/-! ### less time to live -/
def shortP (P s : Int) (p : Place) : Place := if p.port = P then ⟨P, if s < p.sec then s else p.sec⟩ else p
def shortN (P : Int) (N : Int) (p : Place) : Int := if p.port = P then IntKind.i64.wrap (N + 1) else N
def shortFv : SV := .fn (.func 49) [] [.ptr 1 0, .ptr 2 0, .ptr 3 0]
def shortH (x y P N s : Int) (ck : Nat) (l : PL) : Heap := [(0, .agg [.v (.int .i64 x), .v (.int .i64 y), .mp 4]), (1, .v (.int .i64 P)), (2, .v (.int .i64 N)), (3, .v (.int .i64 s)), (4, .tab (.place .u64 ck l))]
theorem short_p2 (S : Stat) (x y P N s : Int) (ck it : Nat) (l : PL) (m : Int) (p : Place) : region (cE (S.wt 0)) 33 (regL 47 2) ((regL 47 2).drop 1) ⟨(13, [], .tup [.v (.int .u64 m), .rcd (.place p)]) :: eachS shortFv it, shortH x y P N s ck l, 5⟩ =
  .ret ⟨[(4, [], .v (.int .u64 m)), (5, [], .ptr 5 0), (15, [], .rcd (.place p)), (14, [], .v (.int .u64 m)), (13, [], .tup [.v (.int .u64 m), .rcd (.place p)])] ++ eachS shortFv it, (5, .rcd (.place p)) :: shortH x y P N s ck l, 6⟩ := by kernel_rfl
theorem short_p3 (S : Stat) (x y P N s : Int) (ck it : Nat) (l : PL) (m : Int) (p : Place) : trimO [0, 1, 10] 5 (exec (cE (S.wt 0)) 33 20 eachR ⟨[(4, [], .v (.int .u64 m)), (5, [], .ptr 5 0), (15, [], .rcd (.place p)), (14, [], .v (.int .u64 m)), (13, [], .tup [.v (.int .u64 m), .rcd (.place p)])] ++ eachS shortFv it, (5, .rcd (.place p)) :: shortH x y P N s ck l, 6⟩) =
  .ite (p.port != P) (.ite (decide (p.sec ≤ 0)) (.ret (.nrm, ⟨eachS shortFv it, shortH x y P N s (tickK l m ck) (delK (putK l m ck p) m), 5⟩)) (.ret (.nrm, ⟨eachS shortFv it, shortH x y P N s (tickK l m ck) (putK l m ck p), 5⟩)))
    (.ite (decide ((if s < p.sec then s else p.sec) ≤ 0)) (.ret (.nrm, ⟨eachS shortFv it, shortH x y P (IntKind.i64.wrap (N + 1)) s (tickK l m ck) (delK (putK l m ck ⟨P, if s < p.sec then s else p.sec⟩) m), 5⟩))
      (.ret (.nrm, ⟨eachS shortFv it, shortH x y P (IntKind.i64.wrap (N + 1)) s (tickK l m ck) (putK l m ck ⟨P, if s < p.sec then s else p.sec⟩), 5⟩))) := by kernel_rfl
theorem shortW (S : Stat) (x y P s : Int) : EachW Int (cE (S.wt 0)) (shortP P s) shortFv (fun N ck l => shortH x y P N s ck l) 5 4 (shortN P) where
  full := cE_fam.full _
  win := cE_fam.win _
  sure := rfl
  ro k := by rw [cE_fam.S]; rfl
  loop := cE_fam.loop _
  lt := by omega
  get _ _ _ := rfl
  round N ck l z it := by
    have h3 := short_p3 S x y P N s ck it l z.1 z.2.2
    have hsel : (trimO [0, 1, 10] 5 (exec (cE (S.wt 0)) 33 20 eachR ⟨[(4, [], .v (.int .u64 z.1)), (5, [], .ptr 5 0), (15, [], .rcd (.place z.2.2)), (14, [], .v (.int .u64 z.1)), (13, [], .tup [.v (.int .u64 z.1), .rcd (.place z.2.2)])] ++ eachS shortFv it, (5, .rcd (.place z.2.2)) :: shortH x y P N s ck l, 6⟩)).sel =
        some (.nrm, ⟨eachS shortFv it, shortH x y P (shortN P N z.2.2) s (tickK l z.1 ck) (nextE (shortP P s) ck l z), 5⟩) := by
      rw [h3]
      by_cases hp : z.2.2.port = P
      · have hb : (z.2.2.port != P) = false := by simp [hp]
        by_cases h : (if s < z.2.2.sec then s else z.2.2.sec) ≤ 0 <;> simp [Out.sel, hb, h, nextE, shortN, shortP, hp]
      · have hb : (z.2.2.port != P) = true := by simp [hp]
        by_cases h : z.2.2.sec ≤ 0 <;> simp [Out.sel, hb, h, nextE, shortN, shortP, hp]
    obtain ⟨st0, h4, h5⟩ := trimO_sel hsel
    exact ⟨_, st0, by rw [short_p2]; rfl, by show 5 ≤ 6; omega, h4, h5.symm⟩
/-- how many are of a port -/
def cntP (P : Int) (l : PL) : Nat := (l.filter fun x => x.2.2.port == P).length
theorem short_fold {P : Int} : ∀ (Ls : List Place) (N : Nat), N + Ls.length ≤ 1000000000 → Ls.foldl (shortN P) (N : Int) = ((N + (Ls.filter fun p => p.port == P).length : Nat) : Int)
  | [], N, _ => by simp
  | p :: r, N, h => by
    simp only [List.length_cons] at h
    rw [List.foldl_cons]
    by_cases hp : p.port = P
    · have h0 : shortN P (N : Int) p = ((N + 1 : Nat) : Int) := by
        unfold shortN
        rw [if_pos hp, wrap_succ (n := 1000000001) (by omega) (by omega)]
      rw [h0]
      have := short_fold (P := P) r (N + 1) (by omega)
      rw [this]
      have hb : (p.port == P) = true := by simp [hp]
      simp [List.filter_cons, hb]; omega
    · have h0 : shortN P (N : Int) p = (N : Int) := by
        unfold shortN
        rw [if_neg hp]
      rw [h0, short_fold r N (by omega)]
      have hb : (p.port == P) = false := by simp [hp]
      simp [List.filter_cons, hb]
theorem short_fin {P : Int} {l : PL} (hl : l.length ≤ 67108864) {Ls : List Place} (h : Ls.Perm (l.map (·.2.2))) : Ls.foldl (shortN P) 0 = (cntP P l : Int) := by
  have hlen : Ls.length = l.length := by rw [h.length_eq, List.length_map]
  have := short_fold (P := P) Ls 0 (by omega)
  rw [show ((0 : Nat) : Int) = 0 from rfl] at this
  rw [this, Nat.zero_add]
  congr 1
  rw [(h.filter _).length_eq, cntP, List.filter_map, List.length_map]
  rfl

/-- what a heap of one's own says, all chunks may be written -/
theorem mh_wt {S S' : Stat} {E : Env} {H : Heap} (h : ∀ k x, H.get k = some x → S.ro k = false) {b j : Nat} (hm : MH S' E H b j) : MH S E H b j := by
  obtain ⟨k, z, hk, _, h'⟩ := hm
  exact ⟨k, z, hk, h k z hk, h'⟩
def tickL (l : PL) : PL := l.filterMap (updE tickP)
def shortL (P s : Int) (l : PL) : PL := l.filterMap (updE (shortP P s))
def gEach : CanonFn := fun ro args H m => match args, H with
  | [.ptr 0 0, .fn (.func 48) [] []], [(0, .agg [.v (.int .i64 x), .v (.int .i64 y), .mp 1]), (1, .tab (.place .u64 c l))] => bif (ro 0 || ro 1) || !(Nat.beq m 2) then .bad else .ret (.tup [], fdbH x y c (tickL l), 2)
  | [.ptr 0 0, .fn (.func 49) [] [.ptr 1 0, .ptr 2 0, .ptr 3 0]], [(0, .agg [.v (.int .i64 x), .v (.int .i64 y), .mp 4]), (1, .v (.int .i64 P)), (2, .v (.int .i64 N)), (3, .v (.int .i64 s)), (4, .tab (.place .u64 c l))] =>
    bif (((ro 0 || ro 1) || (ro 2 || ro 3)) || ro 4) || !(Nat.beq m 5) then .bad else .ite (decide (N = 0) && decide (l.length ≤ 67108864)) (.ret (.tup [], shortH x y P (cntP P l) s c (shortL P s l), 5)) .bad
  | _, _ => .bad
theorem each_ok : CanonOk 47 gEach := by
  intro S args H m v H' m' hr
  unfold gEach at hr
  split at hr <;> (try cases hr)
  · rename_i x y ck l
    cases hb : ((S.ro 0 || S.ro 1) || !(Nat.beq m 2)) with
    | true => rw [hb] at hr; cases hr
    | false =>
      rw [hb] at hr
      simp only [cond_false, Out.sel, Option.some.injEq, Prod.mk.injEq] at hr
      obtain ⟨rfl, rfl, rfl⟩ := hr
      simp only [Bool.or_eq_false_iff, Bool.not_eq_false'] at hb
      obtain ⟨⟨hr0, hr1⟩, hm⟩ := hb
      have := Nat.eq_of_beq_eq_true hm; subst this
      refine ⟨⟨_, Try.func47, by kernel_rfl, by kernel_rfl⟩, fun E w hs0 => ?_⟩
      have hrok : ∀ k z, Heap.get (fdbH x y ck l) k = some z → S.ro k = false := by
        intro k z hk
        match k, hk with
        | 0, _ => exact hr0
        | 1, _ => exact hr1
        | k + 2, hk => cases hk
      have hS : (cE (S.wt 0)).S = S.wt 0 := cE_fam.S _
      have hre : ∀ E l, ReHeap (fdbH x y ck l) S (S.wt 0) E (fdbH x y ck l) := fun E l => ⟨⟨_, rfl, by simp [SV.cells, SV.cellss], trivial⟩, ⟨_, rfl, by simp [SV.cells], trivial⟩, trivial⟩
      have hre' : ∀ E l, ReHeap (fdbH x y ck l) (S.wt 0) S E (fdbH x y ck l) := fun E l => ⟨⟨_, rfl, by simp [SV.cells, SV.cellss], trivial⟩, ⟨_, rfl, by simp [SV.cells], trivial⟩, trivial⟩
      have hs : HS (cE (S.wt 0)).S E (fdbH x y ck l) w := by rw [hS]; exact HS.re hs0 (hre E l) fun k z hk _ => hrok k z hk
      have key := each_run (tickW S x y) () () ck l ⟨⟨[(9, [], .mp 1), (8, [], .ptr 0 2), (7, [], .ptr 0 0), (6, [], .ptr 0 0), (0, [], .ptr 0 0), (1, [], tickFv)], fdbH x y ck l, 2⟩, by kernel_rfl, rfl⟩ (fun _ _ => rfl) hs
      have he : SV.dens S E [.ptr 0 0, .fn (.func 48) [] []] = SV.dens (cE (S.wt 0)).S E [.ptr 0 0, tickFv] := by simp [SV.dens, SV.den, tickFv, SV.cellss]
      rw [he]
      refine key.mono ?_
      rintro e w' ⟨E', hu, hle, rfl, hs', hfr, hown⟩
      rw [hS] at hs'
      exact ⟨E', hu, hle, by simp [SV.den, SV.dens], HS.re hs' (hre' E' _) fun _ _ _ _ => rfl, hfr.mono fun b j _ h => mh_wt hrok h, fun k z hk hr => (hown k z hk (by rw [hS]; rfl)).imp id fun h j hj => mh_wt hrok (h j hj)⟩
  · rename_i x y P N s ck l
    cases hb : ((((S.ro 0 || S.ro 1) || (S.ro 2 || S.ro 3)) || S.ro 4) || !(Nat.beq m 5)) with
    | true => rw [hb] at hr; cases hr
    | false =>
      rw [hb] at hr
      simp only [cond_false] at hr
      obtain ⟨hc, hr⟩ := Out.ite_bad hr
      simp only [Out.sel, Option.some.injEq, Prod.mk.injEq] at hr
      obtain ⟨rfl, rfl, rfl⟩ := hr
      simp only [Bool.and_eq_true, decide_eq_true_eq] at hc
      obtain ⟨rfl, hlen⟩ := hc
      simp only [Bool.or_eq_false_iff, Bool.not_eq_false'] at hb
      obtain ⟨⟨⟨⟨hr0, hr1⟩, hr2, hr3⟩, hr4⟩, hm⟩ := hb
      have := Nat.eq_of_beq_eq_true hm; subst this
      refine ⟨⟨_, Try.func47, by kernel_rfl, by kernel_rfl⟩, fun E w hs0 => ?_⟩
      have hrok : ∀ k z, Heap.get (shortH x y P 0 s ck l) k = some z → S.ro k = false := by
        intro k z hk
        match k, hk with
        | 0, _ => exact hr0
        | 1, _ => exact hr1
        | 2, _ => exact hr2
        | 3, _ => exact hr3
        | 4, _ => exact hr4
        | k + 5, hk => cases hk
      have hS : (cE (S.wt 0)).S = S.wt 0 := cE_fam.S _
      have hre : ∀ E N l, ReHeap (shortH x y P N s ck l) S (S.wt 0) E (shortH x y P N s ck l) := fun E N l => ⟨⟨_, rfl, by simp [SV.cells, SV.cellss], trivial⟩, ⟨_, rfl, by simp [SV.cells], trivial⟩, ⟨_, rfl, by simp [SV.cells], trivial⟩, ⟨_, rfl, by simp [SV.cells], trivial⟩, ⟨_, rfl, by simp [SV.cells], trivial⟩, trivial⟩
      have hre' : ∀ E N l, ReHeap (shortH x y P N s ck l) (S.wt 0) S E (shortH x y P N s ck l) := fun E N l => ⟨⟨_, rfl, by simp [SV.cells, SV.cellss], trivial⟩, ⟨_, rfl, by simp [SV.cells], trivial⟩, ⟨_, rfl, by simp [SV.cells], trivial⟩, ⟨_, rfl, by simp [SV.cells], trivial⟩, ⟨_, rfl, by simp [SV.cells], trivial⟩, trivial⟩
      have hs : HS (cE (S.wt 0)).S E (shortH x y P 0 s ck l) w := by rw [hS]; exact HS.re hs0 (hre E 0 l) fun k z hk _ => hrok k z hk
      have key := each_run (shortW S x y P s) 0 (cntP P l : Int) ck l ⟨⟨[(9, [], .mp 4), (8, [], .ptr 0 2), (7, [], .ptr 0 0), (6, [], .ptr 0 0), (0, [], .ptr 0 0), (1, [], shortFv)], shortH x y P 0 s ck l, 5⟩, by kernel_rfl, rfl⟩ (fun _ h => short_fin hlen h) hs
      have he : SV.dens S E [.ptr 0 0, .fn (.func 49) [] [.ptr 1 0, .ptr 2 0, .ptr 3 0]] = SV.dens (cE (S.wt 0)).S E [.ptr 0 0, shortFv] := by simp [SV.dens, SV.den, shortFv, SV.cellss, SV.cells]
      rw [he]
      refine key.mono ?_
      rintro e w' ⟨E', hu, hle, rfl, hs', hfr, hown⟩
      rw [hS] at hs'
      exact ⟨E', hu, hle, by simp [SV.den, SV.dens], HS.re hs' (hre' E' _ _) fun _ _ _ _ => rfl, hfr.mono fun b j _ h => mh_wt hrok h, fun k z hk hr => (hown k z hk (by rw [hS]; rfl)).imp id fun h j hj => mh_wt hrok (h j hj)⟩
end Go.Proofs.Ytfncoeoaniclmaa
