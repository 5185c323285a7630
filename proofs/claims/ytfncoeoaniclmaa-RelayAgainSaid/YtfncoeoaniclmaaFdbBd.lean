/- fordlaw07.FdbBound: its walk, and why it holds. -/
import Derived.Test.YtfncoeoaniclmaaFdbW
import Derived.Test.YtfncoeoaniclmaaFdbQ
set_option linter.unusedVariables false
set_option maxRecDepth 100000
namespace Go.Proofs.Ytfncoeoaniclmaa
open Go Go.RowKit

/-- a loop whose rounds have loops of their own, told by some slots -/
theorem loop_trimL {mk : Stat → Ctx} (hm : Fam mk) {ls ls' : List (Nat × LoopFn)} {n nx fuel : Nat} {b : Code} {ts ts0 : List Nat} {π α τ : Type} (Sc : Stat) (Sx : π → Nat → Stat) (hro : ∀ p i, (Sx p i).ro = Sc.ro) (hin : ∀ p i, LoopsOk Try.prog (withLoops (mk (Sx p i)) ls') n b) (L : π → List α) (vw : π → Nat → τ → St) (inv : π → Nat → τ → Prop)
    (stp : π → Nat → α → τ → Step τ) (fin : π → τ → Ex × St) {f : St → Option (Out (Ex × St))} (hnx : ∀ p i x, (vw p i x).next = nx)
    (hg : ∀ st o r, f st = some o → o.sel = some r → ∃ p x, inv p 0 x ∧ r = runL (stp p) (fin p) (L p) 0 x ∧ nx ≤ r.2.next ∧ ∀ E, ReD Sc st (Sx p 0) (vw p 0 x) E)
    (hstep : ∀ p i a x, (L p)[i]? = some a → inv p i x → ∃ ex1 st1, (trimO ts nx (exec (withLoops (mk (Sx p i)) ls') n fuel b (vw p i x))).sel = some (ex1, st1) ∧
      match stp p i a x with
      | .go y => ex1 = .nrm ∧ inv p (i + 1) y ∧ ∀ E, ReD (Sx p i) st1 (Sx p (i + 1)) (vw p (i + 1) y) E
      | .out e s => ex1 = e ∧ e ≠ .nrm ∧ ∀ E, ReD (Sx p i) st1 Sc s E)
    (hend : ∀ p x, inv p (L p).length x → ∃ ex1 st1, (trimO ts nx (exec (withLoops (mk (Sx p (L p).length)) ls') n fuel b (vw p (L p).length x))).sel = some (ex1, st1) ∧ ex1 = (fin p x).1 ∧ ex1 ≠ .nrm ∧ ∀ E, ReD (Sx p (L p).length) st1 Sc (fin p x).2 E) :
    LoopOk Try.prog (withLoops (mk Sc) ls) n b (onTrim nx ts0 f) := by
  refine loop_list Sc Sx L (fun p i => withLoops (mk (Sx p i)) ls') vw inv stp fin (hm.S Sc) (hm.win Sc) (fun p i => ⟨withLoops_full (hm.full _) ls', hm.S _, hm.win _, hro p i⟩) hin hnx (fun st o r ho hr => ?_) hstep hend
  obtain ⟨h1, h2⟩ := onTrim_some ho
  obtain ⟨p, x, a1, a2, a3, a4⟩ := hg _ o r h2 hr
  exact ⟨p, x, a1, a2, h1, by rw [← a2]; exact a3, fun E => ReD.of_trim rfl (a4 E)⟩

/-! ### all entries are as they may be -/
structure BdP where
  x : Int
  y : Int
  n : Nat
  c : Nat
  l : PL
  L : List FAct
  X : Int
  Y : Int
def bdSl (p : BdP) (i : SV) (r : Slots) : Slots := (0, [], .v (.int .u8 p.x)) :: (1, [], .v (.int .u8 p.y)) :: (2, [], .slr 0 p.n 0 false) :: (7, [], .kb true) :: (8, [], .ptr 2 0) :: (9, [], i) :: r
def bdHp (p : BdP) (r : Heap) : Heap := (2, .agg [.v (.int .i64 p.X), .v (.int .i64 p.Y), .mp 1]) :: (1, .tab (.place .u64 p.c p.l)) :: (0, .rows (.fact p.L)) :: r
structure BiP where
  p : BdP
  i : Int
  na : Nat
  A : List Entry
def biTs : List Nat := [0, 1, 2, 7, 8, 9, 14, 15]
def biSt (q : BiP) (j : SV) : St := ⟨bdSl q.p (.v (.int .i64 q.i)) [(14, [], .slr 4 q.na 4 false), (15, [], j)], bdHp q.p [(4, .rows (.entry q.A))], 5⟩
def biJ (j : Nat) : SV := match j with | 0 => .ki .i64 0 | j + 1 => .v (.int .i64 ((j + 1 : Nat) : Int))
def bdBad (y : Int) (A : List Entry) (j : Nat) : Bool := (decide ((A.getD j Entry.dflt).sec < 1) || decide ((A.getD j Entry.dflt).sec > IntKind.i64.wrap (1 + IntKind.i64.wrap y))) || (A.getD j Entry.dflt).mac.fdiv (2 ^ min (Int.toNat 48) IntKind.u64.bits) != 0
def bdUp (A : List Entry) (j k : Nat) : Bool := decide ((A.getD j Entry.dflt).mac ≤ (A.getD k Entry.dflt).mac)
def inA (na : Nat) (A : List Entry) (j : Int) : Bool := decide (0 ≤ j) && decide (j < na)
noncomputable def biR (S : Stat) (q : BiP) (j : SV) : Out (Ex × St) := trimO biTs 5 (exec (cV S) (fnOf 4).ntmps 20 (lpOf 4 1) (biSt q j))
theorem bi_first (S : Stat) (k : Int) (q : BiP) : Out.way [true, true, false] (biR (S.rd k 1) q (.ki .i64 0)) = some ([decide ((0 : Int) < q.na), inA q.na q.A 0 && (decide (0 < q.A.length) && (inA q.na q.A 0 && (decide (0 < q.A.length) && (inA q.na q.A 0 && decide (0 < q.A.length))))), bdBad q.p.y q.A 0 || false],
  (.nrm, biSt q (.ki .i64 1))) := by kernel_rfl
theorem bi_next (S : Stat) (k : Int) (q : BiP) (j : Nat) : Out.way [true, true, false] (biR (S.rd k 1) q (.v (.int .i64 ((j + 1 : Nat) : Int)))) = some ([decide (((j + 1 : Nat) : Int) < q.na), inA q.na q.A ((j + 1 : Nat) : Int) && (decide (j + 1 < q.A.length) && (inA q.na q.A ((j + 1 : Nat) : Int) && (decide (j + 1 < q.A.length) && (inA q.na q.A ((j + 1 : Nat) : Int) && (decide (j + 1 < q.A.length) && (inA q.na q.A ((j + 1 : Nat) : Int) && (decide (j + 1 < q.A.length) && (inA q.na q.A (IntKind.i64.wrap (((j + 1 : Nat) : Int) - 1)) && decide ((IntKind.i64.wrap (((j + 1 : Nat) : Int) - 1)).toNat < q.A.length))))))))),
    bdBad q.p.y q.A (j + 1) || (decide (((j + 1 : Nat) : Int) > 0) && bdUp q.A (j + 1) (IntKind.i64.wrap (((j + 1 : Nat) : Int) - 1)).toNat)],
  (.nrm, biSt q (.v (.int .i64 (IntKind.i64.wrap (((j + 1 : Nat) : Int) + 1)))))) := by kernel_rfl
theorem bi_over0 (S : Stat) (k : Int) (q : BiP) : Out.way [false] (biR (S.rd k 1) q (.ki .i64 0)) = some ([decide ((0 : Int) < q.na)], (.exit 2, biSt q (.ki .i64 0))) := by kernel_rfl
theorem bi_over (S : Stat) (k : Int) (q : BiP) (j : Nat) : Out.way [false] (biR (S.rd k 1) q (.v (.int .i64 ((j + 1 : Nat) : Int)))) = some ([decide (((j + 1 : Nat) : Int) < q.na)], (.exit 2, biSt q (.v (.int .i64 ((j + 1 : Nat) : Int))))) := by kernel_rfl
def biFin (q : BiP) : St := ⟨bdSl q.p (.v (.int .i64 q.i)) [], bdHp q.p [], 5⟩
/-- all are as they may be -/
def bdGood (y : Int) (A : List Entry) : Bool := (List.range A.length).all fun j => !(bdBad y A j) && (Nat.beq j 0 || !(bdUp A j (j - 1)))
noncomputable def gBi : LoopFn := onTrim 5 biTs fun st => match st.slots, st.heap with
  | [(0, [], .v (.int .u8 x)), (1, [], .v (.int .u8 y)), (2, [], .slr 0 n 0 false), (7, [], .kb true), (8, [], .ptr 2 0), (9, [], .v (.int .i64 i)), (14, [], .slr 4 na 4 false), (15, [], .ki .i64 0)], h => (match h.get 2, h.get 1, h.get 0, h.get 4 with
    | some (.agg [.v (.int .i64 X), .v (.int .i64 Y), .mp 1]), some (.tab (.place .u64 c l)), some (.rows (.fact L)), some (.rows (.entry A)) =>
      some (.ite (decide (A.length = na ∧ na ≤ 67108864) && bdGood y A) (.ret (.exit 2, biFin ⟨⟨x, y, n, c, l, L, X, Y⟩, i, na, A⟩)) .bad)
    | _, _, _, _ => none)
  | _, _ => none
theorem runL_goU {α : Type} (fin : Ex × St) : ∀ (l : List α) (i : Nat), runL (fun i (p : α) (x : Unit) => Step.go ()) (fun _ => fin) l i () = fin
  | [], i => rfl
  | p :: r, i => by rw [runL]; exact runL_goU fin r (i + 1)
theorem gBi_ok (S : Stat) (k : Int) (ls : List (Nat × LoopFn)) : LoopOk Try.prog (withLoops (cV (S.rd k 1)) ls) (fnOf 4).ntmps (lpOf 4 1) gBi := by
  refine loop_trim cV_fam (nx := 5) (fuel := 20) (ts := biTs) (π := BiP) (α := Entry) (τ := Unit) (S.rd k 1) (fun _ i => S.rd k 1) (fun _ _ => rfl) (fun q => q.A) (fun q j _ => biSt q (biJ j))
    (fun q j _ => q.A.length = q.na ∧ q.na ≤ 67108864 ∧ bdGood q.p.y q.A = true) (fun q j _ _ => .go ()) (fun q _ => (.exit 2, biFin q)) (fun _ _ _ => rfl) ?_ ?_ ?_
  · intro st o r ho hr
    split at ho
    · rename_i x y n i na hsl
      split at ho
      · rename_i X Y c l L A h2 h1 h0 h4
        injection ho with ho
        subst ho
        have hh := Out.ite_bad hr
        obtain ⟨hh1, hh2⟩ := Bool.and_eq_true_iff.1 hh.1
        obtain ⟨rfl, hlt⟩ := of_decide_eq_true hh1
        obtain rfl := Option.some.inj hh.2
        refine ⟨⟨⟨x, y, n, c, l, L, X, Y⟩, i, A.length, A⟩, (), ⟨rfl, hlt, hh2⟩, (runL_goU _ _ 0).symm, Nat.le_refl _, fun E => ⟨?_, ?_⟩⟩
        · rw [hsl]
          exact ⟨⟨_, rfl, rfl⟩, ⟨_, rfl, rfl⟩, ⟨_, rfl, rfl⟩, ⟨_, rfl, rfl⟩, ⟨_, rfl, rfl⟩, ⟨_, rfl, rfl⟩, ⟨_, rfl, rfl⟩, ⟨_, rfl, rfl⟩, trivial⟩
        · exact ⟨⟨_, h2, by simp [SV.cells, SV.cellss], trivial⟩, ⟨_, h1, rfl, trivial⟩, ⟨_, h0, rfl, trivial⟩, ⟨_, h4, rfl, trivial⟩, trivial⟩
      · cases ho
    · cases ho
  · intro q j e s he hinv
    obtain ⟨h1, h2, h3⟩ := hinv
    have hj := (List.getElem?_eq_some_iff.1 he).1
    have hg := List.all_eq_true.1 h3 j (List.mem_range.2 hj)
    simp only [Bool.and_eq_true, Bool.not_eq_true', Bool.or_eq_true] at hg
    have re : ∀ E, ReD (S.rd k 1) (biSt q (biJ (j + 1))) (S.rd k 1) (biSt q (biJ (j + 1))) E := fun E => ⟨⟨⟨_, rfl, rfl⟩, ⟨_, rfl, rfl⟩, ⟨_, rfl, rfl⟩, ⟨_, rfl, rfl⟩, ⟨_, rfl, rfl⟩, ⟨_, rfl, rfl⟩, ⟨_, rfl, rfl⟩, ⟨_, rfl, rfl⟩, trivial⟩, ⟨⟨_, rfl, rfl, trivial⟩, ⟨_, rfl, rfl, trivial⟩, ⟨_, rfl, rfl, trivial⟩, ⟨_, rfl, rfl, trivial⟩, trivial⟩⟩
    cases j with
    | zero =>
      refine ⟨.nrm, biSt q (.ki .i64 1), ?_, rfl, ⟨h1, h2, h3⟩, fun E => ⟨⟨⟨_, rfl, rfl⟩, ⟨_, rfl, rfl⟩, ⟨_, rfl, rfl⟩, ⟨_, rfl, rfl⟩, ⟨_, rfl, rfl⟩, ⟨_, rfl, rfl⟩, ⟨_, rfl, rfl⟩, ⟨_, rfl, rfl⟩, trivial⟩, ⟨⟨_, rfl, rfl, trivial⟩, ⟨_, rfl, rfl, trivial⟩, ⟨_, rfl, rfl, trivial⟩, ⟨_, rfl, rfl, trivial⟩, trivial⟩⟩⟩
      have hna : (0 : Int) < q.na := by omega
      refine Out.way_sel (bi_first S k q) ?_
      have hna' : 0 < q.na := by omega
      rw [hg.1]
      simp [inA, hna', hj]
    | succ j =>
      refine ⟨.nrm, biSt q (.v (.int .i64 (IntKind.i64.wrap (((j + 1 : Nat) : Int) + 1)))), ?_, rfl, ⟨h1, h2, h3⟩, fun E => ?_⟩
      · have hna : ((j + 1 : Nat) : Int) < q.na := by omega
        have hw : IntKind.i64.wrap (((j + 1 : Nat) : Int) - 1) = (j : Int) := by rw [IntKind.wrap_i64]; omega
        have hup : bdUp q.A (j + 1) j = false := by
          rcases hg.2 with h | h
          · simp at h
          · simpa using h
        have hi1 : inA q.na q.A ((j + 1 : Nat) : Int) = true := by unfold inA; rw [decide_eq_true hna]; simp; omega
        have hi2 : inA q.na q.A (j : Int) = true := by
          have : (j : Int) < q.na := by omega
          unfold inA; rw [decide_eq_true this]; simp
        have hj2 : j < q.A.length := by omega
        refine Out.way_sel (bi_next S k q j) ?_
        rw [hw, Int.toNat_natCast, hg.1, hup, hi1, hi2, decide_eq_true hj, decide_eq_true hna, decide_eq_true hj2]
        simp
      · rw [wrap_succ (n := 67108865) (by omega) (by omega)]
        exact re E
  · intro q s hinv
    obtain ⟨h1, h2, h3⟩ := hinv
    have fin : ∀ E v, ReD (S.rd k 1) (biSt q v) (S.rd k 1) (biFin q) E := fun E v => ⟨⟨⟨_, rfl, rfl⟩, ⟨_, rfl, rfl⟩, ⟨_, rfl, rfl⟩, ⟨_, rfl, rfl⟩, ⟨_, rfl, rfl⟩, ⟨_, rfl, rfl⟩, trivial⟩, ⟨⟨_, rfl, rfl, trivial⟩, ⟨_, rfl, rfl, trivial⟩, ⟨_, rfl, rfl, trivial⟩, trivial⟩⟩
    cases hn : q.A.length with
    | zero =>
      have hna : ¬ (0 : Int) < q.na := by omega
      exact ⟨.exit 2, biSt q (.ki .i64 0), Out.way_sel (bi_over0 S k q) (by rw [decide_eq_false hna]), rfl, by simp, fun E => fin E _⟩
    | succ j =>
      have hna : ¬ ((j + 1 : Nat) : Int) < q.na := by omega
      exact ⟨.exit 2, biSt q (.v (.int .i64 ((j + 1 : Nat) : Int))), Out.way_sel (bi_over S k q j) (by rw [decide_eq_false hna]), rfl, by simp, fun E => fin E _⟩

/-! ### act by act -/
def bdTs : List Nat := [0, 1, 2, 7, 8, 9]
def bdSt (p : BdP) (i : SV) : St := ⟨bdSl p i [], bdHp p [], 3⟩
def BdP.with (p : BdP) (s : Nat × PL) : BdP := ⟨p.x, p.y, p.n, s.1, s.2, p.L, p.X, p.Y⟩
def bdStep (X Y : Int) (s : Nat × PL) (a : FAct) : Nat × PL := if a.kind = 2 then (s.1, tickL s.2) else (learnC X Y s.1 s.2 a.mac a.port, learnL X Y s.1 s.2 a.mac a.port)
noncomputable def bdR (S : Stat) (p : BdP) (i : Nat) : Out (Ex × St) := trimO bdTs 3 (exec (withLoops (cV (S.rd i 1)) [(21, gBi)]) (fnOf 4).ntmps 20 (lpOf 4 0) (bdSt p (.v (.int .i64 i))))
def bdMany (x : Int) (l : PL) : Bool := decide ((l.length : Int) > IntKind.i64.wrap (1 + IntKind.i64.wrap (x.tmod 8)))
def bdT (y : Int) (l : PL) : Bool := decide ((allE l).length = l.length ∧ l.length ≤ 67108864) && bdGood y (allE l)
theorem bd_tick (S : Stat) (p : BdP) (i : Nat) : Out.way [true, true, true, true, true, false, true] (bdR S p i) = some ([decide ((i : Int) < p.n), decide (0 ≤ (i : Int)) && decide ((i : Int) < p.n), decide (i < p.L.length), (p.L.getD i FAct.dflt).kind == 2, decide ((tickL p.l).length ≤ 67108864), bdMany p.x (tickL p.l), bdT p.y (tickL p.l)],
  (.nrm, bdSt (p.with (p.c, tickL p.l)) (.v (.int .i64 (IntKind.i64.wrap (i + 1)))))) := by kernel_rfl
def bdLost (l : PL) (m P : Int) : Bool := !(hasK l (addrF m)) || (portF l m != P)
theorem bd_learn (S : Stat) (p : BdP) (i : Nat) (a : FAct) (ha : p.L.getD i FAct.dflt = a) : Out.way [true, true, true, false, true, false, true, false, true] (bdR S p i) = some ([decide ((i : Int) < p.n), decide (0 ≤ (i : Int)) && decide ((i : Int) < p.n), decide (i < p.L.length), a.kind == 2, decide (1 ≤ p.l.length ∧ p.l.length ≤ 67108864) || (badF a.mac a.port || !(fullF p.X p.l a.mac)),
    !(badF a.mac a.port) && bdLost (learnL p.X p.Y p.c p.l a.mac a.port) a.mac a.port, decide ((learnL p.X p.Y p.c p.l a.mac a.port).length ≤ 67108864), bdMany p.x (learnL p.X p.Y p.c p.l a.mac a.port), bdT p.y (learnL p.X p.Y p.c p.l a.mac a.port)],
  (.nrm, bdSt (p.with (learnC p.X p.Y p.c p.l a.mac a.port, learnL p.X p.Y p.c p.l a.mac a.port)) (.v (.int .i64 (IntKind.i64.wrap (i + 1)))))) := by subst ha; kernel_rfl
theorem bd_over (S : Stat) (p : BdP) (i : Nat) : Out.way [false] (bdR S p i) = some ([decide ((i : Int) < p.n)], (.exit 0, bdSt p (.v (.int .i64 i)))) := by kernel_rfl

/-! ### why all are as they may be -/
theorem bdGood_of {X y : Int} {l : PL} (h : TabOk X (IntKind.i64.wrap (1 + IntKind.i64.wrap y)) l) : bdGood y (allE l) = true := by
  unfold bdGood
  rw [List.all_eq_true]
  intro j hj
  have hj := List.mem_range.1 hj
  obtain ⟨e, he⟩ : ∃ e, (allE l)[j]? = some e := ⟨_, List.getElem?_eq_getElem hj⟩
  have e1 : (allE l).getD j Entry.dflt = e := by simp [List.getD, he]
  obtain ⟨z, hz, rfl⟩ := allE_mem.1 (List.mem_of_getElem? he)
  have h1 := h.sec z hz
  have h2 := h.mac z hz
  have hb : bdBad y (allE l) j = false := by
    unfold bdBad
    rw [e1]
    have h3 : (toE z).mac.fdiv (2 ^ min (Int.toNat 48) IntKind.u64.bits) = 0 := by
      show z.1.fdiv (2 ^ min (Int.toNat 48) 64) = 0
      rw [show (2 : Int) ^ min (Int.toNat 48) 64 = 281474976710656 from by decide, Int.fdiv_eq_ediv_of_nonneg _ (by omega)]
      omega
    have h4 : (toE z).sec = z.2.2.sec := rfl
    rw [h3, h4]
    have h5 : ¬ z.2.2.sec < 1 := by omega
    have h6 : ¬ z.2.2.sec > IntKind.i64.wrap (1 + IntKind.i64.wrap y) := by omega
    simp [h5, h6]
  have hu : (Nat.beq j 0 || !(bdUp (allE l) j (j - 1))) = true := by
    cases j with
    | zero => rfl
    | succ j =>
      obtain ⟨f, hf⟩ : ∃ f, (allE l)[j]? = some f := ⟨_, List.getElem?_eq_getElem (by omega)⟩
      have e2 : (allE l).getD j Entry.dflt = f := by simp [List.getD, hf]
      have hlt := List.pairwise_iff_getElem.1 (allE_lt h.key) j (j + 1) (by omega) hj (by omega)
      rw [(List.getElem?_eq_some_iff.1 hf).2, (List.getElem?_eq_some_iff.1 he).2] at hlt
      have : bdUp (allE l) (j + 1) j = false := by
        unfold bdUp
        rw [e1, e2]
        simp only [decide_eq_false_iff_not]
        omega
      show (Nat.beq (j + 1) 0 || !(bdUp (allE l) (j + 1) j)) = true
      rw [this]; simp
  rw [hb, hu]; rfl
def bdFin : St := ⟨[(7, [], .kb true)], [], 3⟩
def bdIn (x y X Y : Int) : Bool := decide (X = IntKind.i64.wrap (1 + IntKind.i64.wrap (x.tmod 8)) ∧ Y = IntKind.i64.wrap (1 + IntKind.i64.wrap y) ∧ 1 ≤ X ∧ X ≤ 4096 ∧ 1 ≤ Y ∧ Y ≤ 1000000)
noncomputable def gBd : LoopFn := onTrim 3 bdTs fun st => match st.slots, st.heap with
  | [(0, [], .v (.int .u8 x)), (1, [], .v (.int .u8 y)), (2, [], .slr 0 n 0 false), (7, [], .kb true), (8, [], .ptr 2 0), (9, [], .ki .i64 0)], [(2, .agg [.v (.int .i64 X), .v (.int .i64 Y), .mp 1]), (1, .tab (.place .u64 c [])), (0, .rows (.fact L))] =>
      some (.ite (decide (L.length = n ∧ n ≤ 60) && bdIn x y X Y) (.ret (.exit 0, bdFin)) .bad)
  | _, _ => none
theorem runL_bd {fin : Nat × PL → Ex × St} {r : Ex × St} (hf : ∀ s, fin s = r) (X Y : Int) : ∀ (L : List FAct) (i : Nat) (s : Nat × PL), runL (fun i a (s : Nat × PL) => Step.go (bdStep X Y s a)) fin L i s = r
  | [], _, s => hf s
  | m :: t, i, s => by rw [runL]; exact runL_bd hf X Y t (i + 1) _
theorem bd_step {X Y : Int} {s : Nat × PL} {a : FAct} (h : TabOk X Y s.2) (hX : 1 ≤ X) (hY : 1 ≤ Y ∧ Y ≤ 1000000) : TabOk X Y (bdStep X Y s a).2 := by
  unfold bdStep
  split
  · exact h.tick (by omega)
  · exact h.learn hX hY.1 _ _ _
theorem gBd_ok (S : Stat) (ls : List (Nat × LoopFn)) : LoopOk Try.prog (withLoops (cV (S.rd 0 1)) ls) (fnOf 4).ntmps (lpOf 4 0) gBd := by
  refine loop_trimL cV_fam (ls' := [(21, gBi)]) (nx := 3) (fuel := 20) (ts := bdTs) (π := BdP) (α := FAct) (τ := Nat × PL) (S.rd 0 1) (fun _ i => S.rd i 1) (fun _ _ => rfl) ?_ (fun p => p.L) (fun p i s => bdSt (p.with s) (.v (.int .i64 i)))
    (fun p i s => p.L.length = p.n ∧ p.n ≤ 60 ∧ bdIn p.x p.y p.X p.Y = true ∧ TabOk p.X p.Y s.2) (fun p i a s => .go (bdStep p.X p.Y s a)) (fun p s => (.exit 0, bdFin)) (fun _ _ _ => rfl) ?_ ?_ ?_
  · intro p i
    refine LoopsOk.of fun j hj => ?_
    have hlen : (loopsOf (lpOf 4 0)).length = 1 := by kernel_rfl
    have : j = 0 := by omega
    subst this
    rw [show loopAt (lpOf 4 0) 0 = lpOf 4 1 from by kernel_rfl]
    exact gBi_ok S i _
  · intro st o r ho hr
    split at ho
    · rename_i x y n X Y c L hsl hhp
      injection ho with ho
      subst ho
      have hh := Out.ite_bad hr
      obtain ⟨hh1, hh2⟩ := Bool.and_eq_true_iff.1 hh.1
      obtain ⟨rfl, h2⟩ := of_decide_eq_true hh1
      obtain rfl := Option.some.inj hh.2
      have hin := of_decide_eq_true hh2
      refine ⟨⟨x, y, L.length, c, [], L, X, Y⟩, (c, []), ⟨rfl, h2, hh2, .nil (by show 0 ≤ X; omega)⟩, (runL_bd (fun _ => rfl) _ _ _ _ _).symm, Nat.le_refl _, fun E => ⟨?_, ?_⟩⟩
      · rw [hsl]
        exact ⟨⟨_, rfl, rfl⟩, ⟨_, rfl, rfl⟩, ⟨_, rfl, rfl⟩, ⟨_, rfl, rfl⟩, ⟨_, rfl, rfl⟩, ⟨_, rfl, rfl⟩, trivial⟩
      · rw [hhp]
        exact ⟨⟨_, rfl, by simp [SV.cells, SV.cellss, BdP.with], trivial⟩, ⟨_, rfl, by simp [SV.cells, BdP.with], trivial⟩, ⟨_, rfl, rfl, trivial⟩, trivial⟩
    · cases ho
  · intro p i a s ha hinv
    obtain ⟨h1, h2, h3, h4⟩ := hinv
    obtain ⟨hX, hY, hX1, hX2, hY1, hY2⟩ := of_decide_eq_true h3
    have hi := (List.getElem?_eq_some_iff.1 ha).1
    have e1 : (p.with s).L.getD i FAct.dflt = a := by show p.L.getD i FAct.dflt = a; simp [List.getD, ha]
    have hii : (i : Int) < (p.with s).n := by show (i : Int) < p.n; omega
    have hi' : i < (p.with s).L.length := hi
    have hnext : TabOk p.X p.Y (bdStep p.X p.Y s a).2 := bd_step h4 hX1 ⟨hY1, hY2⟩
    have tests : ∀ l, TabOk p.X p.Y l → l.length ≤ 67108864 ∧ bdMany p.x l = false ∧ bdT p.y l = true := by
      intro l hl
      have hlen := hl.len
      have hle : l.length ≤ 67108864 := by omega
      refine ⟨hle, ?_, ?_⟩
      · unfold bdMany
        rw [← hX]
        simp only [decide_eq_false_iff_not]
        omega
      · unfold bdT
        rw [hY] at hl
        rw [bdGood_of hl]
        simp [allE_len, hle]
    refine ⟨.nrm, bdSt (p.with (bdStep p.X p.Y s a)) (.v (.int .i64 (IntKind.i64.wrap (i + 1)))), ?_, rfl, ⟨h1, h2, h3, hnext⟩, fun E => ?_⟩
    · by_cases hk : a.kind = 2
      · have hs : bdStep p.X p.Y s a = (s.1, tickL s.2) := by unfold bdStep; rw [if_pos hk]
        rw [hs] at hnext ⊢
        obtain ⟨t1, t2, t3⟩ := tests _ hnext
        refine Out.way_sel (bd_tick S (p.with s) i) ?_
        rw [e1]
        show [_, _, _, _, decide ((tickL s.2).length ≤ 67108864), bdMany p.x (tickL s.2), bdT p.y (tickL s.2)] = _
        rw [t2, t3, decide_eq_true t1, decide_eq_true hii, decide_eq_true hi', hk]
        simp
      · have hs : bdStep p.X p.Y s a = (learnC p.X p.Y s.1 s.2 a.mac a.port, learnL p.X p.Y s.1 s.2 a.mac a.port) := by unfold bdStep; rw [if_neg hk]
        rw [hs] at hnext ⊢
        obtain ⟨t1, t2, t3⟩ := tests _ hnext
        have hgo := learn_go h4 ⟨hX1, by omega⟩ a.mac a.port
        have hlost : (!(badF a.mac a.port) && bdLost (learnL p.X p.Y s.1 s.2 a.mac a.port) a.mac a.port) = false := by
          cases hb : badF a.mac a.port with
          | true => rfl
          | false =>
            obtain ⟨f1, f2⟩ := learn_find (x := p.X) (y := p.Y) (l := s.2) (c := s.1) hb
            unfold bdLost
            rw [f1, f2]; simp
        have hkb : (a.kind == 2) = false := by simp [hk]
        refine Out.way_sel (bd_learn S (p.with s) i a e1) ?_
        show [_, _, _, _, decide (1 ≤ s.2.length ∧ s.2.length ≤ 67108864) || (badF a.mac a.port || !(fullF p.X s.2 a.mac)), !(badF a.mac a.port) && bdLost (learnL p.X p.Y s.1 s.2 a.mac a.port) a.mac a.port, decide ((learnL p.X p.Y s.1 s.2 a.mac a.port).length ≤ 67108864), bdMany p.x (learnL p.X p.Y s.1 s.2 a.mac a.port), bdT p.y (learnL p.X p.Y s.1 s.2 a.mac a.port)] = _
        rw [t2, t3, hgo, hlost, hkb, decide_eq_true t1, decide_eq_true hii, decide_eq_true hi']
        simp
    · rw [wrap_succ (n := 61) (by omega) (by omega)]
      exact ⟨⟨⟨_, rfl, rfl⟩, ⟨_, rfl, rfl⟩, ⟨_, rfl, rfl⟩, ⟨_, rfl, rfl⟩, ⟨_, rfl, rfl⟩, ⟨_, rfl, rfl⟩, trivial⟩, ⟨⟨_, rfl, by simp [SV.cells, SV.cellss], trivial⟩, ⟨_, rfl, rfl, trivial⟩, ⟨_, rfl, rfl, trivial⟩, trivial⟩⟩
  · intro p s hinv
    obtain ⟨h1, h2, h3, h4⟩ := hinv
    have hn : ¬ ((p.L.length : Nat) : Int) < (p.with s).n := by show ¬ ((p.L.length : Nat) : Int) < p.n; omega
    exact ⟨.exit 0, bdSt (p.with s) (.v (.int .i64 p.L.length)), Out.way_sel (bd_over S (p.with s) p.L.length) (by rw [decide_eq_false hn]), rfl, by simp, fun E => ⟨⟨⟨_, rfl, rfl⟩, trivial⟩, trivial⟩⟩
noncomputable def boundLs : List (Nat × LoopFn) := [(8, gBd), (21, gBi)]
theorem boundLs_ok (S : Stat) : ∀ i k g, boundLs[i]? = some (k, g) → LoopOk Try.prog (withLoops (cV (S.rd 0 1)) boundLs) (fnOf 4).ntmps (lpOf 4 i) g := by
  intro i k g h
  match i, h with
  | 0, h => injection h with h; injection h with h1 h2; subst h1 h2; exact gBd_ok S _
  | 1, h => injection h with h; injection h with h1 h2; subst h1 h2; exact gBi_ok S 0 _
  | i + 2, h => cases h
noncomputable def boundO (S : Stat) (x y : Int) (L : List FAct) : Out SV := valF 1 (inline (withLoops (cV (S.rd 0 1)) boundLs) 20 (fnOf 4) [.v (.int .u8 x), .v (.int .u8 y), .slr 0 L.length 0 false] [(0, .rows (.fact L))] 1)
def bdX (x : Int) : Int := IntKind.i64.wrap (1 + IntKind.i64.wrap (x.tmod 8))
def bdY (y : Int) : Int := IntKind.i64.wrap (1 + IntKind.i64.wrap y)
def bdOut (x y : Int) : Bool := (decide (bdX x < 1) || decide (bdX x > 4096) || decide (bdY y < 1)) || decide (bdY y > 1000000)
theorem bound_many (S : Stat) (x y : Int) (L : List FAct) : Out.way [true] (boundO S x y L) = some ([decide ((L.length : Int) > 60)], .kb true) := by kernel_rfl
theorem bound_few (S : Stat) (x y : Int) (L : List FAct) : Out.way [false, false, true] (boundO S x y L) = some ([decide ((L.length : Int) > 60), bdOut x y, decide (L.length = L.length ∧ L.length ≤ 60) && bdIn x y (bdX x) (bdY y)], .kb true) := by kernel_rfl
theorem bound_true (S : Stat) (x y : Int) (L : List FAct) (hx : 0 ≤ x ∧ x < 256) (hy : 0 ≤ y ∧ y < 256) : ∃ v, (boundO S x y L).sel = some v ∧ ∀ S E, v.den S E = .bool true := by
  by_cases hn : (L.length : Int) > 60
  · exact ⟨_, Out.way_sel (bound_many S x y L) (by rw [decide_eq_true hn]), fun _ _ => rfl⟩
  · have hX : 1 ≤ bdX x ∧ bdX x ≤ 8 := by
      unfold bdX
      rw [Int.tmod_eq_emod_of_nonneg hx.1, IntKind.wrap_i64, IntKind.wrap_i64]
      omega
    have hY : 1 ≤ bdY y ∧ bdY y ≤ 256 := by
      unfold bdY
      rw [IntKind.wrap_i64, IntKind.wrap_i64]
      omega
    have hout : bdOut x y = false := by
      unfold bdOut
      simp only [Bool.or_eq_false_iff, decide_eq_false_iff_not]
      omega
    have hin : bdIn x y (bdX x) (bdY y) = true := decide_eq_true ⟨rfl, rfl, hX.1, by omega, hY.1, by omega⟩
    have h60 : L.length ≤ 60 := by omega
    exact ⟨_, Out.way_sel (bound_few S x y L) (by rw [decide_eq_false hn, hout, hin]; simp [h60]), fun _ _ => rfl⟩
end Go.Proofs.Ytfncoeoaniclmaa
