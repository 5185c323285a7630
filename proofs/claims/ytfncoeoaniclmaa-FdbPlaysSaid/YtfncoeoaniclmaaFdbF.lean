/- (*Fdb).each with what Tick and Short do: contracts. -/
import Derived.Test.YtfncoeoaniclmaaFdbE
set_option linter.unusedVariables false
set_option maxRecDepth 100000
namespace Go.Proofs.Ytfncoeoaniclmaa
open Go Go.RowKit

/-- 'each' as a whole, by its walk -/
theorem each_run {σ : Type} {c : Ctx} {ch : Place → Place} {fv : SV} {hp : σ → Nat → PL → Heap} {nx km : Nat} {stp : σ → Place → σ} (W : EachW σ c ch fv hp nx km stp) (s s' : σ) (ck : Nat) (l : PL)
    (hstart : ∃ st, (region c 33 (regL 47 0) ((regL 47 0).take 4) ⟨argSlots [.ptr 0 0, fv] 0, hp s ck l, nx⟩).sel = some st ∧ trimSt [0, 1, 9] nx st = ⟨[(0, [], .ptr 0 0), (1, [], fv), (9, [], .mp km)], hp s ck l, nx⟩)
    (hfin : ∀ Ls : List Place, Ls.Perm (l.map (·.2.2)) → Ls.foldl stp s = s') {E : Env} {w : World} (hs : HS c.S E (hp s ck l) w) :
    Calls Try.prog 47 (SV.dens c.S E [.ptr 0 0, fv]).toArray w fun e w' =>
    ∃ E', Env.upto nx E E' ∧ nx ≤ nx ∧ e = .returned ((SV.tup []).den c.S E') ∧ HS c.S E' (hp s' ck (l.filterMap (updE ch))) w' ∧ Fr w w' (MH c.S E (hp s ck l)) ∧
      ∀ k x, (hp s' ck (l.filterMap (updE ch))).get k = some x → c.S.ro k = false → (w.heap.size ≤ (E'.ad k).block ∨ ∀ j, j < x.size → MH c.S E (hp s ck l) (E'.ad k).block ((E'.ad k).off + j)) := by
  have hn : (fnOf 47).ntmps = 33 := by kernel_rfl
  have hnil : ∀ a, PathHolds a [] := fun a _ _ hm => by cases hm
  refine enter_ok (fnOf_eq Try.func47) W.full W.win each_body (by rw [hn]; show 2 ≤ 33; omega) hs ?_
  intro a sat
  rw [hn] at sat ⊢
  obtain ⟨st, h1, h2⟩ := hstart
  refine wp_seq (wp_region_lit (wpList_eq each_r0 (Sat.piece W.full _ _ _ sat h1 (roOk_free W.ro _ _) ?_)))
  intro E3 a3 w3 hu3 sat3 _ _
  refine wpList_hand each_range.2.2 ?_
  have sat3 := sat3.trim W.win [0, 1, 9] nx
  rw [h2] at sat3
  obtain ⟨es, hbm, hents, hst⟩ := sat3.tab (k := km) (ck := ck) (l := l) (W.get _ _ _)
  have hok := PLok.of hents hst
  have hev : a3.eval (.tmp 9) = .map (some (E3.ad km).block) := ev_ok sat3.slots (hnil a3) (show ev _ [] (.tmp 9) = some (.mp km) from rfl)
  obtain ⟨kt, et, hmt⟩ : ∃ kt et, Try.prog.underlying 93 = some (.map kt et) := ⟨_, _, Try.underlying93⟩
  have : (execOp a3.eval (opAt 47 0 4)).run Try.prog w3 = .ok (.value (.pointer (some ⟨w3.heap.size, 0, none⟩))) (w3.alloc (.mapIter (some (E3.ad km).block) ck #[] ck)) := by simp [execOp, each_range.1, hev, run_range_map (P := Try.prog) w3 93 kt et (E3.ad km).block es ck hmt hbm]
  unfold Oper.wp
  rw [this, Oper.upon_value, each_range.2.1]
  have sat4 := sat3.grown (World.grownBy_alloc w3 (.mapIter (some (E3.ad km).block) ck #[] ck) none) (fun g hg => by cases hg)
  have sat4 := sat4.set (d := 10) (x := .v (.pointer (some ⟨w3.heap.size, 0, none⟩))) (s' := (10, [], .v (.pointer (some ⟨w3.heap.size, 0, none⟩))) :: [(0, [], .ptr 0 0), (1, [], fv), (9, [], .mp km)]) rfl (v := .pointer (some ⟨w3.heap.size, 0, none⟩)) rfl
  have sat5 : Sat c 33 w (MH c.S E (hp s ck l)) E3 ⟨eachS fv w3.heap.size, hp s ck (curE ch #[] l), nx⟩ (a3.put (some 10) (.pointer (some ⟨w3.heap.size, 0, none⟩))) (w3.alloc (.mapIter (some (E3.ad km).block) ck #[] ck)) := by
    rw [curE_start]
    exact ⟨fun t p x hx => sat4.slots t p x (keepT_get (ts := [0, 1, 10]) hx), sat4.hs, sat4.own, sat4.fr, sat4.win, sat4.winb, sat4.size, sat4.defers⟩
  show wpList _ _ _ [] _ _
  rw [wpList]
  refine wp_block (wp_loop_rounds ((l.filter fun z => !((#[] : Array Nat).contains z.2.1)).length + 1) ?_)
  refine each_loop W sat3.fr.size hok _ s #[] [] E3 _ _ sat5 (heap_alloc_new _ _) (by simp) (Nat.lt_succ_self _) ?_
  intro Ls E6 a6 w6 hu6 hperm sat6
  have := hfin Ls (by simpa using hperm)
  rw [this] at sat6
  show Exit.inBlock 0 _ (.exit 0) a6 w6
  have hin : ∀ (Q : Exit → Act → World → Prop) a w, Q .normal a w → Exit.inBlock 0 Q (.exit 0) a w := fun Q a w h => by simp only [Exit.inBlock, if_true]; exact h
  refine hin _ _ _ ?_
  exact ⟨.inl rfl, E6, _, hu3.trans hu6 (Nat.le_refl _), sat6, by rw [show (fnOf 47).results.toList = [] from by kernel_rfl]; rfl, rfl, Nat.le_refl _⟩

noncomputable def cE (S : Stat) : Ctx := mkCtx S [] [] [] 20 3
theorem cE_fam : Fam cE := mk_fam (fun _ => []) (fun _ => []) 20 3 (fun S f g h => by cases h) (fun S f g h => by cases h)

/-! ### a second -/
def tickP (p : Place) : Place := ⟨p.port, IntKind.i64.wrap (p.sec - 1)⟩
def tickFv : SV := .fn (.func 48) [] []
theorem tick_p2 (S : Stat) (x y : Int) (ck it : Nat) (l : PL) (m : Int) (p : Place) : region (cE (S.wt 0)) 33 (regL 47 2) ((regL 47 2).drop 1) ⟨(13, [], .tup [.v (.int .u64 m), .rcd (.place p)]) :: eachS tickFv it, fdbH x y ck l, 2⟩ =
  .ret ⟨[(4, [], .v (.int .u64 m)), (5, [], .ptr 2 0), (15, [], .rcd (.place p)), (14, [], .v (.int .u64 m)), (13, [], .tup [.v (.int .u64 m), .rcd (.place p)])] ++ eachS tickFv it, (2, .rcd (.place p)) :: fdbH x y ck l, 3⟩ := by kernel_rfl
theorem tick_p3 (S : Stat) (x y : Int) (ck it : Nat) (l : PL) (m : Int) (p : Place) : trimO [0, 1, 10] 2 (exec (cE (S.wt 0)) 33 20 eachR ⟨[(4, [], .v (.int .u64 m)), (5, [], .ptr 2 0), (15, [], .rcd (.place p)), (14, [], .v (.int .u64 m)), (13, [], .tup [.v (.int .u64 m), .rcd (.place p)])] ++ eachS tickFv it, (2, .rcd (.place p)) :: fdbH x y ck l, 3⟩) =
  .ite (decide ((tickP p).sec ≤ 0)) (.ret (.nrm, ⟨eachS tickFv it, fdbH x y (tickK l m ck) (delK (putK l m ck (tickP p)) m), 2⟩)) (.ret (.nrm, ⟨eachS tickFv it, fdbH x y (tickK l m ck) (putK l m ck (tickP p)), 2⟩)) := by kernel_rfl
theorem tickW (S : Stat) (x y : Int) : EachW Unit (cE (S.wt 0)) tickP tickFv (fun _ ck l => fdbH x y ck l) 2 1 (fun _ _ => ()) where
  full := cE_fam.full _
  win := cE_fam.win _
  ro k := by rw [cE_fam.S]; rfl
  loop := cE_fam.loop _
  lt := by omega
  get _ _ _ := rfl
  round _ ck l z it := by
    have h3 := tick_p3 S x y ck it l z.1 z.2.2
    have hsel : (trimO [0, 1, 10] 2 (exec (cE (S.wt 0)) 33 20 eachR ⟨[(4, [], .v (.int .u64 z.1)), (5, [], .ptr 2 0), (15, [], .rcd (.place z.2.2)), (14, [], .v (.int .u64 z.1)), (13, [], .tup [.v (.int .u64 z.1), .rcd (.place z.2.2)])] ++ eachS tickFv it, (2, .rcd (.place z.2.2)) :: fdbH x y ck l, 3⟩)).sel =
        some (.nrm, ⟨eachS tickFv it, fdbH x y (tickK l z.1 ck) (nextE tickP ck l z), 2⟩) := by
      rw [h3]
      by_cases h : (tickP z.2.2).sec ≤ 0 <;> simp [Out.sel, h, nextE]
    obtain ⟨st0, h4, h5⟩ := trimO_sel hsel
    exact ⟨_, st0, by rw [tick_p2]; rfl, by show 2 ≤ 3; omega, h4, h5.symm⟩

/-! ### less time to live -/
def shortP (P s : Int) (p : Place) : Place := if p.port = P then ⟨P, if s < p.sec then s else p.sec⟩ else p
def shortN (P : Int) (N : Int) (p : Place) : Int := if p.port = P then IntKind.i64.wrap (N + 1) else N
def shortFv : SV := .fn (.func 49) [] [.ptr 1 0, .ptr 2 0, .ptr 3 0]
def shortH (x y P N s : Int) (ck : Nat) (l : PL) : Heap := [(0, .agg [.v (.int .i64 x), .v (.int .i64 y), .mp 4]), (1, .v (.int .i64 P)), (2, .v (.int .i64 N)), (3, .v (.int .i64 s)), (4, .tab (.place .u64 ck l))]
theorem short_p2 (S : Stat) (x y P N s : Int) (ck it : Nat) (l : PL) (m : Int) (p : Place) : region (cE (S.wt 0)) 33 (regL 47 2) ((regL 47 2).drop 1) ⟨(13, [], .tup [.v (.int .u64 m), .rcd (.place p)]) :: eachS shortFv it, shortH x y P N s ck l, 5⟩ =
  .ret ⟨[(4, [], .v (.int .u64 m)), (5, [], .ptr 5 0), (15, [], .rcd (.place p)), (14, [], .v (.int .u64 m)), (13, [], .tup [.v (.int .u64 m), .rcd (.place p)])] ++ eachS shortFv it, (5, .rcd (.place p)) :: shortH x y P N s ck l, 6⟩ := by kernel_rfl
theorem short_p3 (S : Stat) (x y P N s : Int) (ck it : Nat) (l : PL) (m : Int) (p : Place) : trimO [0, 1, 10] 5 (exec (cE (S.wt 0)) 33 20 eachR ⟨[(4, [], .v (.int .u64 m)), (5, [], .ptr 5 0), (15, [], .rcd (.place p)), (14, [], .v (.int .u64 m)), (13, [], .tup [.v (.int .u64 m), .rcd (.place p)])] ++ eachS shortFv it, (5, .rcd (.place p)) :: shortH x y P N s ck l, 6⟩) =
  .ite (p.port != P) (.ite (decide (p.sec ≤ 0)) (.ret (.nrm, ⟨eachS shortFv it, shortH x y P N s (tickK l m ck) (delK (putK l m ck p) m), 5⟩)) (.ret (.nrm, ⟨eachS shortFv it, shortH x y P N s (tickK l m ck) (putK l m ck p), 5⟩)))
    (.ite (decide ((if s < p.sec then s else p.sec) ≤ 0)) (.ret (.nrm, ⟨eachS shortFv it, shortH x y P (IntKind.i64.wrap (N + 1)) s (tickK l m ck) (delK (putK l m ck ⟨P, if s < p.sec then s else p.sec⟩) m), 5⟩))
      (.ret (.nrm, ⟨eachS shortFv it, shortH x y P (IntKind.i64.wrap (N + 1)) s (tickK l m ck) (putK l m ck ⟨P, if s < p.sec then s else p.sec⟩), 5⟩))) := by kernel_rfl
theorem shortW (S : Stat) (x y P s : Int) : EachW Int (cE (S.wt 0)) (shortP P s) shortFv (fun N ck l => shortH x y P N s ck l) 5 4 (shortN P) where
  full := cE_fam.full _
  win := cE_fam.win _
  ro k := by rw [cE_fam.S]; rfl
  loop := cE_fam.loop _
  lt := by omega
  get _ _ _ := rfl
  round N ck l z it := by
    have h3 := short_p3 S x y P N s ck it l z.1 z.2.2
    have hsel : (trimO [0, 1, 10] 5 (exec (cE (S.wt 0)) 33 20 eachR ⟨[(4, [], .v (.int .u64 z.1)), (5, [], .ptr 5 0), (15, [], .rcd (.place z.2.2)), (14, [], .v (.int .u64 z.1)), (13, [], .tup [.v (.int .u64 z.1), .rcd (.place z.2.2)])] ++ eachS shortFv it, (5, .rcd (.place z.2.2)) :: shortH x y P N s ck l, 6⟩)).sel =
        some (.nrm, ⟨eachS shortFv it, shortH x y P (shortN P N z.2.2) s (tickK l z.1 ck) (nextE (shortP P s) ck l z), 5⟩) := by
      rw [h3]
      by_cases hp : z.2.2.port = P
      · have hb : (z.2.2.port != P) = false := by simp [hp]
        by_cases h : (if s < z.2.2.sec then s else z.2.2.sec) ≤ 0 <;> simp [Out.sel, hb, h, nextE, shortN, shortP, hp]
      · have hb : (z.2.2.port != P) = true := by simp [hp]
        by_cases h : z.2.2.sec ≤ 0 <;> simp [Out.sel, hb, h, nextE, shortN, shortP, hp]
    obtain ⟨st0, h4, h5⟩ := trimO_sel hsel
    exact ⟨_, st0, by rw [short_p2]; rfl, by show 5 ≤ 6; omega, h4, h5.symm⟩
/-- how many are of a port -/
def cntP (P : Int) (l : PL) : Nat := (l.filter fun x => x.2.2.port == P).length
theorem short_fold {P : Int} : ∀ (Ls : List Place) (N : Nat), N + Ls.length ≤ 1000000000 → Ls.foldl (shortN P) (N : Int) = ((N + (Ls.filter fun p => p.port == P).length : Nat) : Int)
  | [], N, _ => by simp
  | p :: r, N, h => by
    simp only [List.length_cons] at h
    rw [List.foldl_cons]
    by_cases hp : p.port = P
    · have h0 : shortN P (N : Int) p = ((N + 1 : Nat) : Int) := by
        unfold shortN
        rw [if_pos hp, wrap_succ (n := 1000000001) (by omega) (by omega)]
      rw [h0]
      have := short_fold (P := P) r (N + 1) (by omega)
      rw [this]
      have hb : (p.port == P) = true := by simp [hp]
      simp [List.filter_cons, hb]; omega
    · have h0 : shortN P (N : Int) p = (N : Int) := by
        unfold shortN
        rw [if_neg hp]
      rw [h0, short_fold r N (by omega)]
      have hb : (p.port == P) = false := by simp [hp]
      simp [List.filter_cons, hb]
theorem short_fin {P : Int} {l : PL} (hl : l.length ≤ 67108864) {Ls : List Place} (h : Ls.Perm (l.map (·.2.2))) : Ls.foldl (shortN P) 0 = (cntP P l : Int) := by
  have hlen : Ls.length = l.length := by rw [h.length_eq, List.length_map]
  have := short_fold (P := P) Ls 0 (by omega)
  rw [show ((0 : Nat) : Int) = 0 from rfl] at this
  rw [this, Nat.zero_add]
  congr 1
  rw [(h.filter _).length_eq, cntP, List.filter_map, List.length_map]
  rfl

/-- what a heap of one's own says, all chunks may be written -/
theorem mh_wt {S S' : Stat} {E : Env} {H : Heap} (h : ∀ k x, H.get k = some x → S.ro k = false) {b j : Nat} (hm : MH S' E H b j) : MH S E H b j := by
  obtain ⟨k, z, hk, _, h'⟩ := hm
  exact ⟨k, z, hk, h k z hk, h'⟩
def tickL (l : PL) : PL := l.filterMap (updE tickP)
def shortL (P s : Int) (l : PL) : PL := l.filterMap (updE (shortP P s))
def gEach : CanonFn := fun ro args H m => match args, H with
  | [.ptr 0 0, .fn (.func 48) [] []], [(0, .agg [.v (.int .i64 x), .v (.int .i64 y), .mp 1]), (1, .tab (.place .u64 c l))] => bif (ro 0 || ro 1) || !(Nat.beq m 2) then .bad else .ret (.tup [], fdbH x y c (tickL l), 2)
  | [.ptr 0 0, .fn (.func 49) [] [.ptr 1 0, .ptr 2 0, .ptr 3 0]], [(0, .agg [.v (.int .i64 x), .v (.int .i64 y), .mp 4]), (1, .v (.int .i64 P)), (2, .v (.int .i64 N)), (3, .v (.int .i64 s)), (4, .tab (.place .u64 c l))] =>
    bif (((ro 0 || ro 1) || (ro 2 || ro 3)) || ro 4) || !(Nat.beq m 5) then .bad else .ite (decide (N = 0) && decide (l.length ≤ 67108864)) (.ret (.tup [], shortH x y P (cntP P l) s c (shortL P s l), 5)) .bad
  | _, _ => .bad
theorem each_ok : CanonOk 47 gEach := by
  intro S args H m v H' m' hr
  unfold gEach at hr
  split at hr <;> (try cases hr)
  · rename_i x y ck l
    cases hb : ((S.ro 0 || S.ro 1) || !(Nat.beq m 2)) with
    | true => rw [hb] at hr; cases hr
    | false =>
      rw [hb] at hr
      simp only [cond_false, Out.sel, Option.some.injEq, Prod.mk.injEq] at hr
      obtain ⟨rfl, rfl, rfl⟩ := hr
      simp only [Bool.or_eq_false_iff, Bool.not_eq_false'] at hb
      obtain ⟨⟨hr0, hr1⟩, hm⟩ := hb
      have := Nat.eq_of_beq_eq_true hm; subst this
      refine ⟨⟨_, Try.func47, by kernel_rfl, by kernel_rfl⟩, fun E w hs0 => ?_⟩
      have hrok : ∀ k z, Heap.get (fdbH x y ck l) k = some z → S.ro k = false := by
        intro k z hk
        match k, hk with
        | 0, _ => exact hr0
        | 1, _ => exact hr1
        | k + 2, hk => cases hk
      have hS : (cE (S.wt 0)).S = S.wt 0 := cE_fam.S _
      have hre : ∀ E l, ReHeap (fdbH x y ck l) S (S.wt 0) E (fdbH x y ck l) := fun E l => ⟨⟨_, rfl, by simp [SV.cells, SV.cellss], trivial⟩, ⟨_, rfl, by simp [SV.cells], trivial⟩, trivial⟩
      have hre' : ∀ E l, ReHeap (fdbH x y ck l) (S.wt 0) S E (fdbH x y ck l) := fun E l => ⟨⟨_, rfl, by simp [SV.cells, SV.cellss], trivial⟩, ⟨_, rfl, by simp [SV.cells], trivial⟩, trivial⟩
      have hs : HS (cE (S.wt 0)).S E (fdbH x y ck l) w := by rw [hS]; exact HS.re hs0 (hre E l) fun k z hk _ => hrok k z hk
      have key := each_run (tickW S x y) () () ck l ⟨⟨[(9, [], .mp 1), (8, [], .ptr 0 2), (7, [], .ptr 0 0), (6, [], .ptr 0 0), (0, [], .ptr 0 0), (1, [], tickFv)], fdbH x y ck l, 2⟩, by kernel_rfl, rfl⟩ (fun _ _ => rfl) hs
      have he : SV.dens S E [.ptr 0 0, .fn (.func 48) [] []] = SV.dens (cE (S.wt 0)).S E [.ptr 0 0, tickFv] := by simp [SV.dens, SV.den, tickFv, SV.cellss]
      rw [he]
      refine key.mono ?_
      rintro e w' ⟨E', hu, hle, rfl, hs', hfr, hown⟩
      rw [hS] at hs'
      exact ⟨E', hu, hle, by simp [SV.den, SV.dens], HS.re hs' (hre' E' _) fun _ _ _ _ => rfl, hfr.mono fun b j _ h => mh_wt hrok h, fun k z hk hr => (hown k z hk (by rw [hS]; rfl)).imp id fun h j hj => mh_wt hrok (h j hj)⟩
  · rename_i x y P N s ck l
    cases hb : ((((S.ro 0 || S.ro 1) || (S.ro 2 || S.ro 3)) || S.ro 4) || !(Nat.beq m 5)) with
    | true => rw [hb] at hr; cases hr
    | false =>
      rw [hb] at hr
      simp only [cond_false] at hr
      obtain ⟨hc, hr⟩ := Out.ite_bad hr
      simp only [Out.sel, Option.some.injEq, Prod.mk.injEq] at hr
      obtain ⟨rfl, rfl, rfl⟩ := hr
      simp only [Bool.and_eq_true, decide_eq_true_eq] at hc
      obtain ⟨rfl, hlen⟩ := hc
      simp only [Bool.or_eq_false_iff, Bool.not_eq_false'] at hb
      obtain ⟨⟨⟨⟨hr0, hr1⟩, hr2, hr3⟩, hr4⟩, hm⟩ := hb
      have := Nat.eq_of_beq_eq_true hm; subst this
      refine ⟨⟨_, Try.func47, by kernel_rfl, by kernel_rfl⟩, fun E w hs0 => ?_⟩
      have hrok : ∀ k z, Heap.get (shortH x y P 0 s ck l) k = some z → S.ro k = false := by
        intro k z hk
        match k, hk with
        | 0, _ => exact hr0
        | 1, _ => exact hr1
        | 2, _ => exact hr2
        | 3, _ => exact hr3
        | 4, _ => exact hr4
        | k + 5, hk => cases hk
      have hS : (cE (S.wt 0)).S = S.wt 0 := cE_fam.S _
      have hre : ∀ E N l, ReHeap (shortH x y P N s ck l) S (S.wt 0) E (shortH x y P N s ck l) := fun E N l => ⟨⟨_, rfl, by simp [SV.cells, SV.cellss], trivial⟩, ⟨_, rfl, by simp [SV.cells], trivial⟩, ⟨_, rfl, by simp [SV.cells], trivial⟩, ⟨_, rfl, by simp [SV.cells], trivial⟩, ⟨_, rfl, by simp [SV.cells], trivial⟩, trivial⟩
      have hre' : ∀ E N l, ReHeap (shortH x y P N s ck l) (S.wt 0) S E (shortH x y P N s ck l) := fun E N l => ⟨⟨_, rfl, by simp [SV.cells, SV.cellss], trivial⟩, ⟨_, rfl, by simp [SV.cells], trivial⟩, ⟨_, rfl, by simp [SV.cells], trivial⟩, ⟨_, rfl, by simp [SV.cells], trivial⟩, ⟨_, rfl, by simp [SV.cells], trivial⟩, trivial⟩
      have hs : HS (cE (S.wt 0)).S E (shortH x y P 0 s ck l) w := by rw [hS]; exact HS.re hs0 (hre E 0 l) fun k z hk _ => hrok k z hk
      have key := each_run (shortW S x y P s) 0 (cntP P l : Int) ck l ⟨⟨[(9, [], .mp 4), (8, [], .ptr 0 2), (7, [], .ptr 0 0), (6, [], .ptr 0 0), (0, [], .ptr 0 0), (1, [], shortFv)], shortH x y P 0 s ck l, 5⟩, by kernel_rfl, rfl⟩ (fun _ h => short_fin hlen h) hs
      have he : SV.dens S E [.ptr 0 0, .fn (.func 49) [] [.ptr 1 0, .ptr 2 0, .ptr 3 0]] = SV.dens (cE (S.wt 0)).S E [.ptr 0 0, shortFv] := by simp [SV.dens, SV.den, shortFv, SV.cellss, SV.cells]
      rw [he]
      refine key.mono ?_
      rintro e w' ⟨E', hu, hle, rfl, hs', hfr, hown⟩
      rw [hS] at hs'
      exact ⟨E', hu, hle, by simp [SV.den, SV.dens], HS.re hs' (hre' E' _ _) fun _ _ _ _ => rfl, hfr.mono fun b j _ h => mh_wt hrok h, fun k z hk hr => (hown k z hk (by rw [hS]; rfl)).imp id fun h j hj => mh_wt hrok (h j hj)⟩
end Go.Proofs.Ytfncoeoaniclmaa
