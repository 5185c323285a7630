/- fordlaw19.RelayGoes: its walk. -/
import Derived.Test.YtfncoeoaniclmaaRlV
import Derived.Test.YtfncoeoaniclmaaRlE
import Derived.Test.YtfncoeoaniclmaaRlT
import Derived.Test.YtfncoeoaniclmaaRlF
set_option linter.unusedVariables false
set_option maxRecDepth 100000
namespace Go.Proofs.Ytfncoeoaniclmaa
open Go Go.RowKit

noncomputable def psGo (S : Stat) : List (Nat × ReadFn) := auto psAt S 39 :: (34, specRead (spc gInts) S 2) :: (36, specRead (spc gSameX) S 3) :: psNv S
theorem psGo_ok (S : Stat) : ReadsOk S [] (psGo S) := .auto psAt_ok <| .cons (specRead_ok (fun S' => spc_ok ints_ok S') 2) <| .cons (specRead_ok (fun S' => spc_ok sameX_ok S') 3) <| psNv_ok S
noncomputable def ssGo (g : CanonFn) (S : Stat) : List (Nat × SpecFn) := (40, fgt g S) :: (37, spc gRlFlush S) :: (38, spc gRfFlush S) :: ssA S
theorem ssGo_ok {g : CanonFn} (hg : CanonOk 40 g) (S : Stat) : ∀ f h, (f, h) ∈ ssGo g S → SpecOk S [] f h := specs_cons (fgt_ok hg S) <| specs_cons (spc_ok rlflush_ok S) <| specs_cons (spc_ok rfflush_ok S) (ssA_ok S)
noncomputable def cGoB (S : Stat) : Ctx := mkCtx S [] (psGo S) (ssGo gROutB S) 20 4
noncomputable def cGoG (S : Stat) : Ctx := mkCtx S [] (psGo S) (ssGo gROutG S) 20 4
theorem cGoB_fam : Fam cGoB := fam_of psGo_ok (ssGo_ok routB_ok)
theorem cGoG_fam : Fam cGoG := fam_of psGo_ok (ssGo_ok routG_ok)
structure GoP where
  q : InP
  n : Nat
  L : List Frame
  N : Int
  c : Nat
  l : PL
  A : List Entry
/-- a bridge's box, whose lists lie there; are its flushed ones gone? -/
def goBx (q : InP) (fl : Bool) (a b c : Nat) : SV := q.b.sv (.slr a q.ps.length a false) (.slr b q.os.length b false) (match fl with | true => .v (.slice none 0 0) | false => .slr c q.fs.length c false)
def goX (q : InP) (fl : Bool) : Heap := match fl with
  | true => [(16, goBx q true 11 13 15), (11, .rows (.port q.ps)), (13, .rows (.sent q.os)), (25, goBx q true 20 22 24), (20, .rows (.port q.ps)), (22, .rows (.sent q.os))]
  | false => [(16, goBx q false 11 13 15), (11, .rows (.port q.ps)), (13, .rows (.sent q.os)), (15, .rows (.int .i64 q.fs)), (25, goBx q false 20 22 24), (20, .rows (.port q.ps)), (22, .rows (.sent q.os)), (24, .rows (.int .i64 q.fs))]
def GoP.hp (p : GoP) (fl : Bool) (b : Nat) (r : Heap) : Heap := goX p.q fl ++ ((6, .agg [.v (.int .i64 p.N), .v (.int .i64 300), .mp 5]) :: (5, .tab (.place .u64 p.c p.l)) :: (7, .agg [.v (.int .i64 p.N), .v (.int .i64 300), .slr b p.A.length b false]) :: (b, .rows (.entry p.A)) :: (4, p.q.arg) :: p.q.heap ((3, .rows (.frame p.L)) :: r))
def goSl (p : GoP) (i : SV) (r : Slots) : Slots := (2, [], .slr 3 p.n 3 false) :: (3, [], .ptr 4 0) :: (7, [], .kb true) :: (9, [], .ptr 6 0) :: (10, [], .ptr 7 0) :: (11, [], .ptr 16 0) :: (12, [], .ptr 25 0) :: (13, [], i) :: r
def goTs : List Nat := [2, 3, 7, 9, 10, 11, 12, 13]
def goSt (p : GoP) (fl : Bool) (i : SV) : St := ⟨goSl p i [], p.hp fl 26 [], 27⟩
def goS (c : Ctx) : Ctx := sureC c [(78, false)]
/-! ### all that is known is as the document has it -/
theorem Bri.ext' {a b : Bri} (h : a.id = b.id ∧ a.rst = b.rst ∧ a.times = b.times ∧ a.hold = b.hold ∧ a.root = b.root ∧ a.rootPort = b.rootPort ∧ a.rootT = b.rootT) : a = b := by
  cases a; cases b; simp_all
instance : DecidableEq Bri := fun a b =>
  if h : a.id = b.id ∧ a.rst = b.rst ∧ a.times = b.times ∧ a.hold = b.hold ∧ a.root = b.root ∧ a.rootPort = b.rootPort ∧ a.rootT = b.rootT then isTrue (Bri.ext' h) else isFalse fun he => h (by subst he; exact ⟨rfl, rfl, rfl, rfl, rfl, rfl, rfl⟩)
def isN (a b : Nat) : Bool := Nat.beq a b
/-- what is told of the heap -/
def goOf (h : Heap) (b : Nat) (n : Nat) : Option (GoP × Bool × Bool) := match h.get 0, h.get 1, h.get 2, h.get 3, h.get 4 with
  | some (.rows (.port ps)), some (.rows (.sent os)), some (.rows (.int .i64 fs)), some (.rows (.frame L)), some bx => (match unBri bx with
    | some (b0, .slr 0 n0 0 false, .slr 1 n1 1 false, .slr 2 n2 2 false) => (match h.get 5, h.get 6, h.get 7, h.get b with
      | some (.tab (.place .u64 c l)), some (.agg [.v (.int .i64 N), .v (.int .i64 Y), .mp 5]), some (.agg [.v (.int .i64 N'), .v (.int .i64 Y'), .slr b' k b'' false]), some (.rows (.entry A)) => (match h.get 16, h.get 11, h.get 13, h.get 25, h.get 20, h.get 22 with
        | some ax, some (.rows (.port ps1)), some (.rows (.sent os1)), some ay, some (.rows (.port ps2)), some (.rows (.sent os2)) =>
          let ok := decide (n0 = ps.length ∧ n1 = os.length ∧ n2 = fs.length ∧ Y = 300 ∧ N' = N ∧ Y' = 300 ∧ k = A.length ∧ b' = b ∧ b'' = b ∧ ps1 = ps ∧ ps2 = ps ∧ os1 = os ∧ os2 = os)
          (match unBri ax, unBri ay with
          | some (b1, .slr 11 m1 11 false, .slr 13 m2 13 false, .v (.slice none 0 0)), some (b2, .slr 20 m3 20 false, .slr 22 m4 22 false, .v (.slice none 0 0)) => some (⟨⟨b0, ps, os, fs⟩, n, L, N, c, l, A⟩, true, ok && decide (b1 = b0 ∧ b2 = b0 ∧ m1 = ps.length ∧ m2 = os.length ∧ m3 = ps.length ∧ m4 = os.length))
          | some (b1, .slr 11 m1 11 false, .slr 13 m2 13 false, .slr 15 m5 15 false), some (b2, .slr 20 m3 20 false, .slr 22 m4 22 false, .slr 24 m6 24 false) => (match h.get 15, h.get 24 with
            | some (.rows (.int .i64 fs1)), some (.rows (.int .i64 fs2)) => some (⟨⟨b0, ps, os, fs⟩, n, L, N, c, l, A⟩, false, ok && decide (b1 = b0 ∧ b2 = b0 ∧ m1 = ps.length ∧ m2 = os.length ∧ m3 = ps.length ∧ m4 = os.length ∧ fs1 = fs ∧ fs2 = fs ∧ m5 = fs.length ∧ m6 = fs.length))
            | _, _ => none)
          | _, _ => none)
        | _, _, _, _, _, _ => none)
      | _, _, _, _ => none)
    | _ => none)
  | _, _, _, _, _ => none
theorem goOf_ok {h : Heap} {b n : Nat} {p : GoP} {fl : Bool} (hq : goOf h b n = some (p, fl, true)) (S : Stat) (E : Env) : p.n = n ∧ ReHeap h S S E (p.hp fl b []) := by
  unfold goOf at hq
  split at hq
  · rename_i ps os fs L bx h0 h1 h2 h3 h4
    split at hq
    · rename_i b0 n0 n1 n2 hb0
      obtain ⟨rfl, _, _⟩ := unBri_ok hb0
      split at hq
      · rename_i c l N Y N' Y' b' k b'' A h5 h6 h7 hb
        split at hq
        · rename_i ax ps1 os1 ay ps2 os2 h16 h11 h13 h25 h20 h22
          dsimp only at hq
          split at hq
          · rename_i b1 m1 m2 b2 m3 m4 ha hay
            obtain ⟨rfl, _, _⟩ := unBri_ok ha
            obtain ⟨rfl, _, _⟩ := unBri_ok hay
            simp only [Option.some.injEq, Prod.mk.injEq, Bool.and_eq_true, decide_eq_true_eq] at hq
            obtain ⟨rfl, rfl, ⟨rfl, rfl, rfl, rfl, rfl, rfl, rfl, rfl, rfl, rfl, rfl, rfl, rfl⟩, rfl, rfl, rfl, rfl, rfl, rfl⟩ := hq
            exact ⟨rfl, ⟨_, h16, rfl, trivial⟩, ⟨_, h11, rfl, trivial⟩, ⟨_, h13, rfl, trivial⟩, ⟨_, h25, rfl, trivial⟩, ⟨_, h20, rfl, trivial⟩, ⟨_, h22, rfl, trivial⟩, ⟨_, h6, rfl, trivial⟩, ⟨_, h5, rfl, trivial⟩, ⟨_, h7, rfl, trivial⟩, ⟨_, hb, rfl, trivial⟩, ⟨_, h4, rfl, trivial⟩, ⟨_, h0, rfl, trivial⟩, ⟨_, h1, rfl, trivial⟩, ⟨_, h2, rfl, trivial⟩, ⟨_, h3, rfl, trivial⟩, trivial⟩
          · rename_i b1 m1 m2 m5 b2 m3 m4 m6 ha hay
            obtain ⟨rfl, _, _⟩ := unBri_ok ha
            obtain ⟨rfl, _, _⟩ := unBri_ok hay
            split at hq
            · rename_i fs1 fs2 h15 h24
              simp only [Option.some.injEq, Prod.mk.injEq, Bool.and_eq_true, decide_eq_true_eq] at hq
              obtain ⟨rfl, rfl, ⟨rfl, rfl, rfl, rfl, rfl, rfl, rfl, rfl, rfl, rfl, rfl, rfl, rfl⟩, rfl, rfl, rfl, rfl, rfl, rfl, rfl, rfl, rfl, rfl⟩ := hq
              exact ⟨rfl, ⟨_, h16, rfl, trivial⟩, ⟨_, h11, rfl, trivial⟩, ⟨_, h13, rfl, trivial⟩, ⟨_, h15, rfl, trivial⟩, ⟨_, h25, rfl, trivial⟩, ⟨_, h20, rfl, trivial⟩, ⟨_, h22, rfl, trivial⟩, ⟨_, h24, rfl, trivial⟩, ⟨_, h6, rfl, trivial⟩, ⟨_, h5, rfl, trivial⟩, ⟨_, h7, rfl, trivial⟩, ⟨_, hb, rfl, trivial⟩, ⟨_, h4, rfl, trivial⟩, ⟨_, h0, rfl, trivial⟩, ⟨_, h1, rfl, trivial⟩, ⟨_, h2, rfl, trivial⟩, ⟨_, h3, rfl, trivial⟩, trivial⟩
            · cases hq
          · cases hq
        · cases hq
      · cases hq
    · cases hq
  · cases hq
theorem hp_re (S : Stat) (p : GoP) (fl : Bool) (b : Nat) (E : Env) (hb : b = 26 ∨ b = 29 ∨ b = 32) : ReHeap (p.hp fl b []) S S E (p.hp fl b []) := by
  rcases hb with rfl | rfl | rfl <;> cases fl <;> exact ⟨⟨_, rfl, rfl, trivial⟩, ⟨_, rfl, rfl, trivial⟩, ⟨_, rfl, rfl, trivial⟩, ⟨_, rfl, rfl, trivial⟩, ⟨_, rfl, rfl, trivial⟩, ⟨_, rfl, rfl, trivial⟩, by
    first
    | exact ⟨⟨_, rfl, rfl, trivial⟩, ⟨_, rfl, rfl, trivial⟩, ⟨_, rfl, rfl, trivial⟩, ⟨_, rfl, rfl, trivial⟩, ⟨_, rfl, rfl, trivial⟩, ⟨_, rfl, rfl, trivial⟩, ⟨_, rfl, rfl, trivial⟩, ⟨_, rfl, rfl, trivial⟩, ⟨_, rfl, rfl, trivial⟩, trivial⟩
    | exact ⟨⟨_, rfl, rfl, trivial⟩, ⟨_, rfl, rfl, trivial⟩, ⟨_, rfl, rfl, trivial⟩, ⟨_, rfl, rfl, trivial⟩, ⟨_, rfl, rfl, trivial⟩, ⟨_, rfl, rfl, trivial⟩, ⟨_, rfl, rfl, trivial⟩, ⟨_, rfl, rfl, trivial⟩, ⟨_, rfl, rfl, trivial⟩, ⟨_, rfl, rfl, trivial⟩, ⟨_, rfl, rfl, trivial⟩, trivial⟩⟩
structure GiP where
  p : GoP
  fl : Bool
  i : Int
  na : Nat
  A1 : List Entry
def giTs : List Nat := [2, 3, 7, 9, 10, 11, 12, 13, 15, 16]
def giT (q : GiP) (j : Nat) : List Bool := [decide ((j : Int) < q.na), smIn { n := q.na, k := q.p.A.length, A := q.A1, B := q.p.A } j, neE (q.A1.getD j Entry.dflt) (q.p.A.getD j Entry.dflt)]
def giZ (q : GiP) : Bool := decide (q.A1 = q.p.A ∧ q.A1.length = q.na ∧ q.na ≤ 67108864)
theorem hp_app {h : Heap} {S : Stat} {E : Env} {p : GoP} {fl : Bool} {b : Nat} {r : Heap} (h1 : ReHeap h S S E (p.hp fl b [])) (h2 : ReHeap h S S E r) : ReHeap h S S E (p.hp fl b r) := by
  have key : ∀ a c : Heap, ReHeap h S S E a → ReHeap h S S E c → ReHeap h S S E (a ++ c) := by
    intro a c ha hc
    induction a with
    | nil => exact hc
    | cons e t ih => exact ⟨ha.1, ih ha.2⟩
  have e : p.hp fl b r = p.hp fl b [] ++ r := by
    unfold GoP.hp InP.heap
    simp
  rw [e]
  exact key _ _ h1 h2
def giStB (q : GiP) (j : SV) : St := ⟨goSl q.p (.v (.int .i64 q.i)) [(15, [], .slr 30 q.na 30 false), (16, [], j)], q.p.hp q.fl 26 [(30, .rows (.entry q.A1))], 31⟩
noncomputable def giRB (S : Stat) (q : GiP) (j : Nat) : Out (Ex × St) := trimO giTs 31 (exec (goS (cGoB S)) (fnOf 14).ntmps 20 (lpOf 14 1) (giStB q (.v (.int .i64 j))))
theorem gi_goB (S : Stat) (q : GiP) (j : Nat) : Out.way [true, true, false] (giRB (S.rd 0 4) q j) = some (giT q j, (.nrm, giStB q (.v (.int .i64 (IntKind.i64.wrap (j + 1)))))) := by
  obtain ⟨p, fl, i, na, A1⟩ := q
  cases fl <;> kernel_rfl
theorem gi_overB (S : Stat) (q : GiP) (j : Nat) : Out.way [false] (giRB (S.rd 0 4) q j) = some ([decide ((j : Int) < q.na)], (.exit 2, giStB q (.v (.int .i64 j)))) := by
  obtain ⟨p, fl, i, na, A1⟩ := q
  cases fl <;> kernel_rfl
def giFinB (q : GiP) : St := ⟨goSl q.p (.v (.int .i64 q.i)) [], q.p.hp q.fl 26 [], 31⟩
def giOfB (st : St) : Option (GiP × Bool) := match st.slots with
  | [(2, [], .slr 3 n 3 false), (3, [], .ptr 4 0), (7, [], .kb true), (9, [], .ptr 6 0), (10, [], .ptr 7 0), (11, [], .ptr 16 0), (12, [], .ptr 25 0), (13, [], .v (.int .i64 i)), (15, [], .slr 30 na 30 false), (16, [], .ki .i64 0)] => (match goOf st.heap 26 n, st.heap.get 30 with
    | some (p, fl, ok), some (.rows (.entry A1)) => some (⟨p, fl, i, na, A1⟩, ok)
    | _, _ => none)
  | _ => none
theorem giOfB_ok {st : St} {q : GiP} (h : giOfB st = some (q, true)) (S : Stat) (E : Env) : ReD S st S (giStB q (.v (.int .i64 (0 : Nat)))) E := by
  unfold giOfB at h
  split at h
  · rename_i n i na hsl
    split at h
    · rename_i p fl ok A1 hg hk
      simp only [Option.some.injEq, Prod.mk.injEq] at h
      obtain ⟨rfl, rfl⟩ := h
      obtain ⟨rfl, hr⟩ := goOf_ok hg S E
      refine ⟨?_, ?_⟩
      · rw [hsl]
        exact ⟨⟨_, rfl, rfl⟩, ⟨_, rfl, rfl⟩, ⟨_, rfl, rfl⟩, ⟨_, rfl, rfl⟩, ⟨_, rfl, rfl⟩, ⟨_, rfl, rfl⟩, ⟨_, rfl, rfl⟩, ⟨_, rfl, rfl⟩, ⟨_, rfl, rfl⟩, ⟨_, rfl, rfl⟩, trivial⟩
      · exact hp_app hr ⟨⟨_, hk, rfl, trivial⟩, trivial⟩
    · cases h
  · cases h
noncomputable def gGiB : LoopFn := onTrim 31 giTs fun st => match giOfB st with
  | some (q, ok) => some (.ite (ok && giZ q) (.ret (.exit 2, giFinB q)) .bad)
  | none => none
def giStG (q : GiP) (j : SV) : St := ⟨goSl q.p (.v (.int .i64 q.i)) [(15, [], .slr 31 q.na 31 false), (16, [], j)], q.p.hp q.fl 29 [(31, .rows (.entry q.A1))], 32⟩
noncomputable def giRG (S : Stat) (q : GiP) (j : Nat) : Out (Ex × St) := trimO giTs 32 (exec (goS (cGoG S)) (fnOf 14).ntmps 20 (lpOf 14 1) (giStG q (.v (.int .i64 j))))
theorem gi_goG (S : Stat) (q : GiP) (j : Nat) : Out.way [true, true, false] (giRG (S.rd 0 4) q j) = some (giT q j, (.nrm, giStG q (.v (.int .i64 (IntKind.i64.wrap (j + 1)))))) := by
  obtain ⟨p, fl, i, na, A1⟩ := q
  cases fl <;> kernel_rfl
theorem gi_overG (S : Stat) (q : GiP) (j : Nat) : Out.way [false] (giRG (S.rd 0 4) q j) = some ([decide ((j : Int) < q.na)], (.exit 2, giStG q (.v (.int .i64 j)))) := by
  obtain ⟨p, fl, i, na, A1⟩ := q
  cases fl <;> kernel_rfl
def giFinG (q : GiP) : St := ⟨goSl q.p (.v (.int .i64 q.i)) [], q.p.hp q.fl 29 [], 32⟩
def giOfG (st : St) : Option (GiP × Bool) := match st.slots with
  | [(2, [], .slr 3 n 3 false), (3, [], .ptr 4 0), (7, [], .kb true), (9, [], .ptr 6 0), (10, [], .ptr 7 0), (11, [], .ptr 16 0), (12, [], .ptr 25 0), (13, [], .v (.int .i64 i)), (15, [], .slr 31 na 31 false), (16, [], .ki .i64 0)] => (match goOf st.heap 29 n, st.heap.get 31 with
    | some (p, fl, ok), some (.rows (.entry A1)) => some (⟨p, fl, i, na, A1⟩, ok)
    | _, _ => none)
  | _ => none
theorem giOfG_ok {st : St} {q : GiP} (h : giOfG st = some (q, true)) (S : Stat) (E : Env) : ReD S st S (giStG q (.v (.int .i64 (0 : Nat)))) E := by
  unfold giOfG at h
  split at h
  · rename_i n i na hsl
    split at h
    · rename_i p fl ok A1 hg hk
      simp only [Option.some.injEq, Prod.mk.injEq] at h
      obtain ⟨rfl, rfl⟩ := h
      obtain ⟨rfl, hr⟩ := goOf_ok hg S E
      refine ⟨?_, ?_⟩
      · rw [hsl]
        exact ⟨⟨_, rfl, rfl⟩, ⟨_, rfl, rfl⟩, ⟨_, rfl, rfl⟩, ⟨_, rfl, rfl⟩, ⟨_, rfl, rfl⟩, ⟨_, rfl, rfl⟩, ⟨_, rfl, rfl⟩, ⟨_, rfl, rfl⟩, ⟨_, rfl, rfl⟩, ⟨_, rfl, rfl⟩, trivial⟩
      · exact hp_app hr ⟨⟨_, hk, rfl, trivial⟩, trivial⟩
    · cases h
  · cases h
noncomputable def gGiG : LoopFn := onTrim 32 giTs fun st => match giOfG st with
  | some (q, ok) => some (.ite (ok && giZ q) (.ret (.exit 2, giFinG q)) .bad)
  | none => none
def giStF (q : GiP) (j : SV) : St := ⟨goSl q.p (.v (.int .i64 q.i)) [(15, [], .slr 35 q.na 35 false), (16, [], j)], q.p.hp q.fl 32 [(35, .rows (.entry q.A1))], 36⟩
noncomputable def giRF (S : Stat) (q : GiP) (j : Nat) : Out (Ex × St) := trimO giTs 36 (exec (goS (cGoB S)) (fnOf 14).ntmps 20 (lpOf 14 1) (giStF q (.v (.int .i64 j))))
theorem gi_goF (S : Stat) (q : GiP) (j : Nat) : Out.way [true, true, false] (giRF (S.rd 0 4) q j) = some (giT q j, (.nrm, giStF q (.v (.int .i64 (IntKind.i64.wrap (j + 1)))))) := by
  obtain ⟨p, fl, i, na, A1⟩ := q
  cases fl <;> kernel_rfl
theorem gi_overF (S : Stat) (q : GiP) (j : Nat) : Out.way [false] (giRF (S.rd 0 4) q j) = some ([decide ((j : Int) < q.na)], (.exit 2, giStF q (.v (.int .i64 j)))) := by
  obtain ⟨p, fl, i, na, A1⟩ := q
  cases fl <;> kernel_rfl
def giFinF (q : GiP) : St := ⟨goSl q.p (.v (.int .i64 q.i)) [], q.p.hp q.fl 32 [], 36⟩
def giOfF (st : St) : Option (GiP × Bool) := match st.slots with
  | [(2, [], .slr 3 n 3 false), (3, [], .ptr 4 0), (7, [], .kb true), (9, [], .ptr 6 0), (10, [], .ptr 7 0), (11, [], .ptr 16 0), (12, [], .ptr 25 0), (13, [], .v (.int .i64 i)), (15, [], .slr 35 na 35 false), (16, [], .ki .i64 0)] => (match goOf st.heap 32 n, st.heap.get 35 with
    | some (p, fl, ok), some (.rows (.entry A1)) => some (⟨p, fl, i, na, A1⟩, ok)
    | _, _ => none)
  | _ => none
theorem giOfF_ok {st : St} {q : GiP} (h : giOfF st = some (q, true)) (S : Stat) (E : Env) : ReD S st S (giStF q (.v (.int .i64 (0 : Nat)))) E := by
  unfold giOfF at h
  split at h
  · rename_i n i na hsl
    split at h
    · rename_i p fl ok A1 hg hk
      simp only [Option.some.injEq, Prod.mk.injEq] at h
      obtain ⟨rfl, rfl⟩ := h
      obtain ⟨rfl, hr⟩ := goOf_ok hg S E
      refine ⟨?_, ?_⟩
      · rw [hsl]
        exact ⟨⟨_, rfl, rfl⟩, ⟨_, rfl, rfl⟩, ⟨_, rfl, rfl⟩, ⟨_, rfl, rfl⟩, ⟨_, rfl, rfl⟩, ⟨_, rfl, rfl⟩, ⟨_, rfl, rfl⟩, ⟨_, rfl, rfl⟩, ⟨_, rfl, rfl⟩, ⟨_, rfl, rfl⟩, trivial⟩
      · exact hp_app hr ⟨⟨_, hk, rfl, trivial⟩, trivial⟩
    · cases h
  · cases h
noncomputable def gGiF : LoopFn := onTrim 36 giTs fun st => match giOfF st with
  | some (q, ok) => some (.ite (ok && giZ q) (.ret (.exit 2, giFinF q)) .bad)
  | none => none
theorem gi_selfB (S : Stat) (q : GiP) (E : Env) : ReHeap (q.p.hp q.fl 26 [(30, .rows (.entry q.A1))]) S S E (q.p.hp q.fl 26 [(30, .rows (.entry q.A1))]) := by
  obtain ⟨p, fl, i, na, A1⟩ := q
  cases fl
  · exact ⟨⟨_, rfl, rfl, trivial⟩, ⟨_, rfl, rfl, trivial⟩, ⟨_, rfl, rfl, trivial⟩, ⟨_, rfl, rfl, trivial⟩, ⟨_, rfl, rfl, trivial⟩, ⟨_, rfl, rfl, trivial⟩, ⟨_, rfl, rfl, trivial⟩, ⟨_, rfl, rfl, trivial⟩, ⟨_, rfl, rfl, trivial⟩, ⟨_, rfl, rfl, trivial⟩, ⟨_, rfl, rfl, trivial⟩, ⟨_, rfl, rfl, trivial⟩, ⟨_, rfl, rfl, trivial⟩, ⟨_, rfl, rfl, trivial⟩, ⟨_, rfl, rfl, trivial⟩, ⟨_, rfl, rfl, trivial⟩, ⟨_, rfl, rfl, trivial⟩, ⟨_, rfl, rfl, trivial⟩, trivial⟩
  · exact ⟨⟨_, rfl, rfl, trivial⟩, ⟨_, rfl, rfl, trivial⟩, ⟨_, rfl, rfl, trivial⟩, ⟨_, rfl, rfl, trivial⟩, ⟨_, rfl, rfl, trivial⟩, ⟨_, rfl, rfl, trivial⟩, ⟨_, rfl, rfl, trivial⟩, ⟨_, rfl, rfl, trivial⟩, ⟨_, rfl, rfl, trivial⟩, ⟨_, rfl, rfl, trivial⟩, ⟨_, rfl, rfl, trivial⟩, ⟨_, rfl, rfl, trivial⟩, ⟨_, rfl, rfl, trivial⟩, ⟨_, rfl, rfl, trivial⟩, ⟨_, rfl, rfl, trivial⟩, ⟨_, rfl, rfl, trivial⟩, trivial⟩
theorem gi_dropB (S : Stat) (q : GiP) (E : Env) : ReHeap (q.p.hp q.fl 26 [(30, .rows (.entry q.A1))]) S S E (q.p.hp q.fl 26 []) := by
  obtain ⟨p, fl, i, na, A1⟩ := q
  cases fl
  · exact ⟨⟨_, rfl, rfl, trivial⟩, ⟨_, rfl, rfl, trivial⟩, ⟨_, rfl, rfl, trivial⟩, ⟨_, rfl, rfl, trivial⟩, ⟨_, rfl, rfl, trivial⟩, ⟨_, rfl, rfl, trivial⟩, ⟨_, rfl, rfl, trivial⟩, ⟨_, rfl, rfl, trivial⟩, ⟨_, rfl, rfl, trivial⟩, ⟨_, rfl, rfl, trivial⟩, ⟨_, rfl, rfl, trivial⟩, ⟨_, rfl, rfl, trivial⟩, ⟨_, rfl, rfl, trivial⟩, ⟨_, rfl, rfl, trivial⟩, ⟨_, rfl, rfl, trivial⟩, ⟨_, rfl, rfl, trivial⟩, ⟨_, rfl, rfl, trivial⟩, trivial⟩
  · exact ⟨⟨_, rfl, rfl, trivial⟩, ⟨_, rfl, rfl, trivial⟩, ⟨_, rfl, rfl, trivial⟩, ⟨_, rfl, rfl, trivial⟩, ⟨_, rfl, rfl, trivial⟩, ⟨_, rfl, rfl, trivial⟩, ⟨_, rfl, rfl, trivial⟩, ⟨_, rfl, rfl, trivial⟩, ⟨_, rfl, rfl, trivial⟩, ⟨_, rfl, rfl, trivial⟩, ⟨_, rfl, rfl, trivial⟩, ⟨_, rfl, rfl, trivial⟩, ⟨_, rfl, rfl, trivial⟩, ⟨_, rfl, rfl, trivial⟩, ⟨_, rfl, rfl, trivial⟩, trivial⟩
theorem gi_selfG (S : Stat) (q : GiP) (E : Env) : ReHeap (q.p.hp q.fl 29 [(31, .rows (.entry q.A1))]) S S E (q.p.hp q.fl 29 [(31, .rows (.entry q.A1))]) := by
  obtain ⟨p, fl, i, na, A1⟩ := q
  cases fl
  · exact ⟨⟨_, rfl, rfl, trivial⟩, ⟨_, rfl, rfl, trivial⟩, ⟨_, rfl, rfl, trivial⟩, ⟨_, rfl, rfl, trivial⟩, ⟨_, rfl, rfl, trivial⟩, ⟨_, rfl, rfl, trivial⟩, ⟨_, rfl, rfl, trivial⟩, ⟨_, rfl, rfl, trivial⟩, ⟨_, rfl, rfl, trivial⟩, ⟨_, rfl, rfl, trivial⟩, ⟨_, rfl, rfl, trivial⟩, ⟨_, rfl, rfl, trivial⟩, ⟨_, rfl, rfl, trivial⟩, ⟨_, rfl, rfl, trivial⟩, ⟨_, rfl, rfl, trivial⟩, ⟨_, rfl, rfl, trivial⟩, ⟨_, rfl, rfl, trivial⟩, ⟨_, rfl, rfl, trivial⟩, trivial⟩
  · exact ⟨⟨_, rfl, rfl, trivial⟩, ⟨_, rfl, rfl, trivial⟩, ⟨_, rfl, rfl, trivial⟩, ⟨_, rfl, rfl, trivial⟩, ⟨_, rfl, rfl, trivial⟩, ⟨_, rfl, rfl, trivial⟩, ⟨_, rfl, rfl, trivial⟩, ⟨_, rfl, rfl, trivial⟩, ⟨_, rfl, rfl, trivial⟩, ⟨_, rfl, rfl, trivial⟩, ⟨_, rfl, rfl, trivial⟩, ⟨_, rfl, rfl, trivial⟩, ⟨_, rfl, rfl, trivial⟩, ⟨_, rfl, rfl, trivial⟩, ⟨_, rfl, rfl, trivial⟩, ⟨_, rfl, rfl, trivial⟩, trivial⟩
theorem gi_dropG (S : Stat) (q : GiP) (E : Env) : ReHeap (q.p.hp q.fl 29 [(31, .rows (.entry q.A1))]) S S E (q.p.hp q.fl 29 []) := by
  obtain ⟨p, fl, i, na, A1⟩ := q
  cases fl
  · exact ⟨⟨_, rfl, rfl, trivial⟩, ⟨_, rfl, rfl, trivial⟩, ⟨_, rfl, rfl, trivial⟩, ⟨_, rfl, rfl, trivial⟩, ⟨_, rfl, rfl, trivial⟩, ⟨_, rfl, rfl, trivial⟩, ⟨_, rfl, rfl, trivial⟩, ⟨_, rfl, rfl, trivial⟩, ⟨_, rfl, rfl, trivial⟩, ⟨_, rfl, rfl, trivial⟩, ⟨_, rfl, rfl, trivial⟩, ⟨_, rfl, rfl, trivial⟩, ⟨_, rfl, rfl, trivial⟩, ⟨_, rfl, rfl, trivial⟩, ⟨_, rfl, rfl, trivial⟩, ⟨_, rfl, rfl, trivial⟩, ⟨_, rfl, rfl, trivial⟩, trivial⟩
  · exact ⟨⟨_, rfl, rfl, trivial⟩, ⟨_, rfl, rfl, trivial⟩, ⟨_, rfl, rfl, trivial⟩, ⟨_, rfl, rfl, trivial⟩, ⟨_, rfl, rfl, trivial⟩, ⟨_, rfl, rfl, trivial⟩, ⟨_, rfl, rfl, trivial⟩, ⟨_, rfl, rfl, trivial⟩, ⟨_, rfl, rfl, trivial⟩, ⟨_, rfl, rfl, trivial⟩, ⟨_, rfl, rfl, trivial⟩, ⟨_, rfl, rfl, trivial⟩, ⟨_, rfl, rfl, trivial⟩, ⟨_, rfl, rfl, trivial⟩, ⟨_, rfl, rfl, trivial⟩, trivial⟩
theorem gi_selfF (S : Stat) (q : GiP) (E : Env) : ReHeap (q.p.hp q.fl 32 [(35, .rows (.entry q.A1))]) S S E (q.p.hp q.fl 32 [(35, .rows (.entry q.A1))]) := by
  obtain ⟨p, fl, i, na, A1⟩ := q
  cases fl
  · exact ⟨⟨_, rfl, rfl, trivial⟩, ⟨_, rfl, rfl, trivial⟩, ⟨_, rfl, rfl, trivial⟩, ⟨_, rfl, rfl, trivial⟩, ⟨_, rfl, rfl, trivial⟩, ⟨_, rfl, rfl, trivial⟩, ⟨_, rfl, rfl, trivial⟩, ⟨_, rfl, rfl, trivial⟩, ⟨_, rfl, rfl, trivial⟩, ⟨_, rfl, rfl, trivial⟩, ⟨_, rfl, rfl, trivial⟩, ⟨_, rfl, rfl, trivial⟩, ⟨_, rfl, rfl, trivial⟩, ⟨_, rfl, rfl, trivial⟩, ⟨_, rfl, rfl, trivial⟩, ⟨_, rfl, rfl, trivial⟩, ⟨_, rfl, rfl, trivial⟩, ⟨_, rfl, rfl, trivial⟩, trivial⟩
  · exact ⟨⟨_, rfl, rfl, trivial⟩, ⟨_, rfl, rfl, trivial⟩, ⟨_, rfl, rfl, trivial⟩, ⟨_, rfl, rfl, trivial⟩, ⟨_, rfl, rfl, trivial⟩, ⟨_, rfl, rfl, trivial⟩, ⟨_, rfl, rfl, trivial⟩, ⟨_, rfl, rfl, trivial⟩, ⟨_, rfl, rfl, trivial⟩, ⟨_, rfl, rfl, trivial⟩, ⟨_, rfl, rfl, trivial⟩, ⟨_, rfl, rfl, trivial⟩, ⟨_, rfl, rfl, trivial⟩, ⟨_, rfl, rfl, trivial⟩, ⟨_, rfl, rfl, trivial⟩, ⟨_, rfl, rfl, trivial⟩, trivial⟩
theorem gi_dropF (S : Stat) (q : GiP) (E : Env) : ReHeap (q.p.hp q.fl 32 [(35, .rows (.entry q.A1))]) S S E (q.p.hp q.fl 32 []) := by
  obtain ⟨p, fl, i, na, A1⟩ := q
  cases fl
  · exact ⟨⟨_, rfl, rfl, trivial⟩, ⟨_, rfl, rfl, trivial⟩, ⟨_, rfl, rfl, trivial⟩, ⟨_, rfl, rfl, trivial⟩, ⟨_, rfl, rfl, trivial⟩, ⟨_, rfl, rfl, trivial⟩, ⟨_, rfl, rfl, trivial⟩, ⟨_, rfl, rfl, trivial⟩, ⟨_, rfl, rfl, trivial⟩, ⟨_, rfl, rfl, trivial⟩, ⟨_, rfl, rfl, trivial⟩, ⟨_, rfl, rfl, trivial⟩, ⟨_, rfl, rfl, trivial⟩, ⟨_, rfl, rfl, trivial⟩, ⟨_, rfl, rfl, trivial⟩, ⟨_, rfl, rfl, trivial⟩, ⟨_, rfl, rfl, trivial⟩, trivial⟩
  · exact ⟨⟨_, rfl, rfl, trivial⟩, ⟨_, rfl, rfl, trivial⟩, ⟨_, rfl, rfl, trivial⟩, ⟨_, rfl, rfl, trivial⟩, ⟨_, rfl, rfl, trivial⟩, ⟨_, rfl, rfl, trivial⟩, ⟨_, rfl, rfl, trivial⟩, ⟨_, rfl, rfl, trivial⟩, ⟨_, rfl, rfl, trivial⟩, ⟨_, rfl, rfl, trivial⟩, ⟨_, rfl, rfl, trivial⟩, ⟨_, rfl, rfl, trivial⟩, ⟨_, rfl, rfl, trivial⟩, ⟨_, rfl, rfl, trivial⟩, ⟨_, rfl, rfl, trivial⟩, trivial⟩
theorem giT_ok {q : GiP} {j : Nat} (h1 : q.A1 = q.p.A) (h2 : q.A1.length = q.na) (hj : j < q.A1.length) : giT q j = [true, true, false] := by
  have hjn : (j : Int) < q.na := by omega
  have hk : (j : Int) < q.p.A.length := by rw [← h1]; omega
  have hj2 : j < q.p.A.length := by rw [← h1]; exact hj
  have hne : neE (q.A1.getD j Entry.dflt) (q.p.A.getD j Entry.dflt) = false := by
    rw [h1]; unfold neE; simp
  unfold giT smIn
  rw [hne]
  simp [hjn, hk, hj, hj2]
theorem gGiB_ok (S : Stat) (ls : List (Nat × LoopFn)) : LoopOk Try.prog (withLoops (goS (cGoB (S.rd 0 4))) ls) (fnOf 14).ntmps (lpOf 14 1) gGiB := by
  refine loop_trim (mk := fun S => goS (cGoB S)) (sure_fam cGoB_fam _) (nx := 31) (fuel := 20) (ts := giTs) (π := GiP) (α := Entry) (τ := Unit) (S.rd 0 4) (fun _ i => S.rd 0 4) (fun _ _ => rfl) (fun q => q.A1) (fun q j _ => giStB q (.v (.int .i64 j)))
    (fun q j _ => q.A1 = q.p.A ∧ q.A1.length = q.na ∧ q.na ≤ 67108864) (fun q j _ _ => .go ()) (fun q _ => (.exit 2, giFinB q)) (fun _ _ _ => rfl) ?_ ?_ ?_
  · intro st o r ho hr
    split at ho
    · rename_i q ok hq
      injection ho with ho
      subst ho
      have hh := Out.ite_bad hr
      obtain ⟨hh1, hh2⟩ := Bool.and_eq_true_iff.1 hh.1
      obtain rfl := Option.some.inj hh.2
      subst hh1
      exact ⟨q, (), of_decide_eq_true hh2, (runL_goU _ _ 0).symm, Nat.le_refl _, fun E => giOfB_ok hq _ E⟩
    · cases ho
  · intro q j e s he hinv
    obtain ⟨h1, h2, h3⟩ := hinv
    have hj := (List.getElem?_eq_some_iff.1 he).1
    refine ⟨.nrm, giStB q (.v (.int .i64 (IntKind.i64.wrap (j + 1)))), Out.way_sel (gi_goB S q j) (giT_ok h1 h2 hj), rfl, ⟨h1, h2, h3⟩, fun E => ?_⟩
    rw [wrap_succ (n := 67108865) (by omega) (by omega)]
    exact ⟨⟨⟨_, rfl, rfl⟩, ⟨_, rfl, rfl⟩, ⟨_, rfl, rfl⟩, ⟨_, rfl, rfl⟩, ⟨_, rfl, rfl⟩, ⟨_, rfl, rfl⟩, ⟨_, rfl, rfl⟩, ⟨_, rfl, rfl⟩, ⟨_, rfl, rfl⟩, ⟨_, rfl, rfl⟩, trivial⟩, gi_selfB _ q E⟩
  · intro q s hinv
    obtain ⟨h1, h2, h3⟩ := hinv
    have hn : ¬ ((q.A1.length : Nat) : Int) < q.na := by omega
    refine ⟨.exit 2, giStB q (.v (.int .i64 q.A1.length)), Out.way_sel (gi_overB S q q.A1.length) (by rw [decide_eq_false hn]), rfl, by simp, fun E => ⟨⟨⟨_, rfl, rfl⟩, ⟨_, rfl, rfl⟩, ⟨_, rfl, rfl⟩, ⟨_, rfl, rfl⟩, ⟨_, rfl, rfl⟩, ⟨_, rfl, rfl⟩, ⟨_, rfl, rfl⟩, ⟨_, rfl, rfl⟩, trivial⟩, ?_⟩⟩
    exact gi_dropB _ q E
theorem gGiG_ok (S : Stat) (ls : List (Nat × LoopFn)) : LoopOk Try.prog (withLoops (goS (cGoG (S.rd 0 4))) ls) (fnOf 14).ntmps (lpOf 14 1) gGiG := by
  refine loop_trim (mk := fun S => goS (cGoG S)) (sure_fam cGoG_fam _) (nx := 32) (fuel := 20) (ts := giTs) (π := GiP) (α := Entry) (τ := Unit) (S.rd 0 4) (fun _ i => S.rd 0 4) (fun _ _ => rfl) (fun q => q.A1) (fun q j _ => giStG q (.v (.int .i64 j)))
    (fun q j _ => q.A1 = q.p.A ∧ q.A1.length = q.na ∧ q.na ≤ 67108864) (fun q j _ _ => .go ()) (fun q _ => (.exit 2, giFinG q)) (fun _ _ _ => rfl) ?_ ?_ ?_
  · intro st o r ho hr
    split at ho
    · rename_i q ok hq
      injection ho with ho
      subst ho
      have hh := Out.ite_bad hr
      obtain ⟨hh1, hh2⟩ := Bool.and_eq_true_iff.1 hh.1
      obtain rfl := Option.some.inj hh.2
      subst hh1
      exact ⟨q, (), of_decide_eq_true hh2, (runL_goU _ _ 0).symm, Nat.le_refl _, fun E => giOfG_ok hq _ E⟩
    · cases ho
  · intro q j e s he hinv
    obtain ⟨h1, h2, h3⟩ := hinv
    have hj := (List.getElem?_eq_some_iff.1 he).1
    refine ⟨.nrm, giStG q (.v (.int .i64 (IntKind.i64.wrap (j + 1)))), Out.way_sel (gi_goG S q j) (giT_ok h1 h2 hj), rfl, ⟨h1, h2, h3⟩, fun E => ?_⟩
    rw [wrap_succ (n := 67108865) (by omega) (by omega)]
    exact ⟨⟨⟨_, rfl, rfl⟩, ⟨_, rfl, rfl⟩, ⟨_, rfl, rfl⟩, ⟨_, rfl, rfl⟩, ⟨_, rfl, rfl⟩, ⟨_, rfl, rfl⟩, ⟨_, rfl, rfl⟩, ⟨_, rfl, rfl⟩, ⟨_, rfl, rfl⟩, ⟨_, rfl, rfl⟩, trivial⟩, gi_selfG _ q E⟩
  · intro q s hinv
    obtain ⟨h1, h2, h3⟩ := hinv
    have hn : ¬ ((q.A1.length : Nat) : Int) < q.na := by omega
    refine ⟨.exit 2, giStG q (.v (.int .i64 q.A1.length)), Out.way_sel (gi_overG S q q.A1.length) (by rw [decide_eq_false hn]), rfl, by simp, fun E => ⟨⟨⟨_, rfl, rfl⟩, ⟨_, rfl, rfl⟩, ⟨_, rfl, rfl⟩, ⟨_, rfl, rfl⟩, ⟨_, rfl, rfl⟩, ⟨_, rfl, rfl⟩, ⟨_, rfl, rfl⟩, ⟨_, rfl, rfl⟩, trivial⟩, ?_⟩⟩
    exact gi_dropG _ q E
theorem gGiF_ok (S : Stat) (ls : List (Nat × LoopFn)) : LoopOk Try.prog (withLoops (goS (cGoB (S.rd 0 4))) ls) (fnOf 14).ntmps (lpOf 14 1) gGiF := by
  refine loop_trim (mk := fun S => goS (cGoB S)) (sure_fam cGoB_fam _) (nx := 36) (fuel := 20) (ts := giTs) (π := GiP) (α := Entry) (τ := Unit) (S.rd 0 4) (fun _ i => S.rd 0 4) (fun _ _ => rfl) (fun q => q.A1) (fun q j _ => giStF q (.v (.int .i64 j)))
    (fun q j _ => q.A1 = q.p.A ∧ q.A1.length = q.na ∧ q.na ≤ 67108864) (fun q j _ _ => .go ()) (fun q _ => (.exit 2, giFinF q)) (fun _ _ _ => rfl) ?_ ?_ ?_
  · intro st o r ho hr
    split at ho
    · rename_i q ok hq
      injection ho with ho
      subst ho
      have hh := Out.ite_bad hr
      obtain ⟨hh1, hh2⟩ := Bool.and_eq_true_iff.1 hh.1
      obtain rfl := Option.some.inj hh.2
      subst hh1
      exact ⟨q, (), of_decide_eq_true hh2, (runL_goU _ _ 0).symm, Nat.le_refl _, fun E => giOfF_ok hq _ E⟩
    · cases ho
  · intro q j e s he hinv
    obtain ⟨h1, h2, h3⟩ := hinv
    have hj := (List.getElem?_eq_some_iff.1 he).1
    refine ⟨.nrm, giStF q (.v (.int .i64 (IntKind.i64.wrap (j + 1)))), Out.way_sel (gi_goF S q j) (giT_ok h1 h2 hj), rfl, ⟨h1, h2, h3⟩, fun E => ?_⟩
    rw [wrap_succ (n := 67108865) (by omega) (by omega)]
    exact ⟨⟨⟨_, rfl, rfl⟩, ⟨_, rfl, rfl⟩, ⟨_, rfl, rfl⟩, ⟨_, rfl, rfl⟩, ⟨_, rfl, rfl⟩, ⟨_, rfl, rfl⟩, ⟨_, rfl, rfl⟩, ⟨_, rfl, rfl⟩, ⟨_, rfl, rfl⟩, ⟨_, rfl, rfl⟩, trivial⟩, gi_selfF _ q E⟩
  · intro q s hinv
    obtain ⟨h1, h2, h3⟩ := hinv
    have hn : ¬ ((q.A1.length : Nat) : Int) < q.na := by omega
    refine ⟨.exit 2, giStF q (.v (.int .i64 q.A1.length)), Out.way_sel (gi_overF S q q.A1.length) (by rw [decide_eq_false hn]), rfl, by simp, fun E => ⟨⟨⟨_, rfl, rfl⟩, ⟨_, rfl, rfl⟩, ⟨_, rfl, rfl⟩, ⟨_, rfl, rfl⟩, ⟨_, rfl, rfl⟩, ⟨_, rfl, rfl⟩, ⟨_, rfl, rfl⟩, ⟨_, rfl, rfl⟩, trivial⟩, ?_⟩⟩
    exact gi_dropF _ q E
end Go.Proofs.Ytfncoeoaniclmaa
