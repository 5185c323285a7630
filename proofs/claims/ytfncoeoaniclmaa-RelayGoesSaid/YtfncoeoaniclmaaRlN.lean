/- fordlaw19.open: a bridge of so many ports. -/
import Derived.Test.YtfncoeoaniclmaaBrg
import Derived.Test.YtfncoeoaniclmaaBld
import Derived.Test.YtfncoeoaniclmaaFdb0
import Derived.Test.YtfncoeoaniclmaaRlO
import Derived.Test.YtfncoeoaniclmaaFdbW
set_option linter.unusedVariables false
set_option maxRecDepth 100000
namespace Go.Proofs.Ytfncoeoaniclmaa
section
open Go Go.RowKit

noncomputable def cOp (S : Stat) : Ctx := mkCtx S [] [] [] 20 2
theorem cOp_fam : Fam cOp := mk_fam (fun _ => []) (fun _ => []) 20 2 (fun S f g h => by cases h) (fun S f g h => by cases h)
def opT : SV := .rcd (.times ⟨0, 20, 2, 15⟩)
def opA (q : SV) : SV := .agg [.ki .u64 0, .kb true, opT, .ki .i64 6, .rcd (.vec ⟨0, 0, 0, 0, 0⟩), .ki .i64 (-1), .rcd (.times ⟨0, 0, 0, 0⟩), q, .v (.slice none 0 0), .v (.slice none 0 0)]
def opZ : SV := .agg [.ki .u64 0, .kb false, .rcd (.times ⟨0, 0, 0, 0⟩), .ki .i64 0, .rcd (.vec ⟨0, 0, 0, 0, 0⟩), .ki .i64 0, .rcd (.times ⟨0, 0, 0, 0⟩), .v (.slice none 0 0), .v (.slice none 0 0), .v (.slice none 0 0)]
def opF : Flags := { Flags.dflt with learning := true, forwarding := true }
def opP (i : Nat) : Port := { Port.dflt with id := IntKind.u16.wrap (IntKind.i64.wrap ((i : Int) + 1)), enabled := true, flags := opF }
def opTs : List Nat := [0, 2, 3, 4]
def opSt (n : Int) (R : List Port) (b nx : Nat) (i : SV) : BSt := ⟨⟨[(0, [], .v (.int .i64 n)), (2, [], .ptr 0 0), (3, [], .ptr 1 0), (4, [], i)], [(1, opA (tok b R.length)), (0, opZ)], nx⟩, b, .port R⟩
noncomputable def opR (S : Stat) (n : Int) (R : List Port) (i : Nat) : Out (Ex × BSt) := trimB opTs 2 (execB (cOp (S.wt i)) (fnOf 32).ntmps 20 77 (lpOf 32 0) (opSt n R 2 3 (.v (.int .i64 i))))
theorem op_on (S : Stat) (n : Int) (R : List Port) (i : Nat) : Out.way [true, true] (opR S n R i) = some ([decide ((i : Int) < n), decide (R.length = R.length ∧ R.length ≤ 134217727)], (.nrm, opSt n (R ++ [opP i]) 4 2 (.v (.int .i64 (IntKind.i64.wrap (i + 1)))))) := by kernel_rfl
theorem op_over (S : Stat) (n : Int) (R : List Port) (i : Nat) : Out.way [false] (opR S n R i) = some ([decide ((i : Int) < n)], (.exit 0, opSt n R 2 2 (.v (.int .i64 i)))) := by kernel_rfl
def opPs (n : Nat) : List Port := (List.range n).map opP
theorem goL_op : ∀ (n k i : Nat) (R : List Port), goL (fun i (_ : Nat) (R : List Port) => R ++ [opP i]) (List.range' k n) i R = R ++ (List.range' i n).map opP
  | 0, _, _, R => by simp [goL]
  | n + 1, k, i, R => by
    rw [List.range'_succ, goL, goL_op n (k + 1) (i + 1)]
    rw [List.range'_succ]
    simp
def opFin (n : Nat) (R : List Port) : BSt := ⟨⟨[(2, [], .ptr 0 0), (3, [], .ptr 1 0)], [(1, opA (tok 2 R.length)), (0, opZ)], 3⟩, 2, .port R⟩
noncomputable def gOpL : LoopFn := onTrimB 2 opTs fun st => match st.slots, st.heap with
  | [(0, [], .v (.int .i64 n)), (2, [], .ptr 0 0), (3, [], .ptr 1 0), (4, [], .ki .i64 0)], [(1, .agg [.ki .u64 0, .kb true, .rcd (.times ⟨0, 20, 2, 15⟩), .ki .i64 6, .rcd (.vec ⟨0, 0, 0, 0, 0⟩), .ki .i64 (.negSucc 0), .rcd (.times ⟨0, 0, 0, 0⟩), .v (.slice none 0 0), .v (.slice none 0 0), .v (.slice none 0 0)]),
      (0, .agg [.ki .u64 0, .kb false, .rcd (.times ⟨0, 0, 0, 0⟩), .ki .i64 0, .rcd (.vec ⟨0, 0, 0, 0, 0⟩), .ki .i64 0, .rcd (.times ⟨0, 0, 0, 0⟩), .v (.slice none 0 0), .v (.slice none 0 0), .v (.slice none 0 0)])] =>
      some (.ite (decide (0 ≤ n ∧ n ≤ 64)) (.ret (.exit 0, (opFin n.toNat (opPs n.toNat)).adopt)) .bad)
  | _, _ => none
theorem op_ptr {S S' : Stat} {E1 E2 : Env} {m k : Nat} (hu : Env.upto m E1 E2) (hk : k < m) : (SV.ptr k 0).den S E1 = (SV.ptr k 0).den S' E2 := by simp [SV.den, Env.place, (hu k hk).1]
theorem op_upto {S S' : Stat} {E1 E2 : Env} {R : List Port} {b : Nat} (ha : E2.ad 2 = E1.ad b) (hc : E2.cp 2 = E1.cp b) : (opA (tok b R.length)).cells S E1 = (opA (tok 2 R.length)).cells S' E2 := by
  simp [opA, opT, tok, SV.cells, SV.cellss, ha, hc, Env.place]
theorem gOpL_ok (S : Stat) (ls : List (Nat × LoopFn)) : LoopOk Try.prog (withLoops (cOp (S.wt 0)) ls) (fnOf 32).ntmps (lpOf 32 0) gOpL := by
  refine loop_build cOp_fam (nx := 2) (fuel := 20) (e := 77) (ts := opTs) (π := Nat) (α := Nat) (τ := List Port) (S.wt 0) (fun _ i => S.wt i) (fun _ _ => rfl) (fun n => List.range' 0 n) (fun n i R => opSt n R 2 3 (.v (.int .i64 i)))
    (fun n i R => n ≤ 64 ∧ R.length = i) (fun n i _ R => R ++ [opP i]) (.exit 0) opFin (fun _ _ _ => ⟨rfl, rfl⟩) (fun _ _ => ⟨rfl, rfl⟩) (fun _ _ => rfl) ?_ ?_ ?_
  · intro st o r ho hr
    split at ho
    · rename_i n hsl hhp
      injection ho with ho
      subst ho
      have hh := Out.ite_bad hr
      obtain ⟨hn0, hn1⟩ := of_decide_eq_true hh.1
      obtain rfl := Option.some.inj hh.2
      obtain ⟨k, rfl⟩ : ∃ k : Nat, n = (k : Int) := ⟨n.toNat, by omega⟩
      rw [Int.toNat_natCast]
      refine ⟨k, [], ⟨by omega, rfl⟩, rfl, by rw [goL_op]; simp [opPs, List.range_eq_range'], fun E hE => ⟨?_, ?_⟩⟩
      · rw [hsl]; exact ⟨⟨_, rfl, rfl⟩, ⟨_, rfl, rfl⟩, ⟨_, rfl, rfl⟩, ⟨_, rfl, rfl⟩, trivial⟩
      · rw [hhp]; exact ⟨⟨_, rfl, by simp [SV.cells, SV.cellss, opA, opT, tok, hE], trivial, rfl⟩, ⟨_, rfl, rfl, trivial, rfl⟩, trivial⟩
    · cases ho
  · intro n i e R he hinv
    obtain ⟨h1, h2⟩ := hinv
    have hi : i < n := by have := (List.getElem?_eq_some_iff.1 he).1; simpa using this
    have hii : (i : Int) < n := by omega
    have h4 : R.length ≤ 134217727 := by omega
    refine ⟨_, Out.way_sel (op_on S n R i) (by rw [decide_eq_true hii]; simp [h4]), ⟨h1, by simp [h2]⟩, rfl, fun E1 E2 hu ha hc => ?_⟩
    rw [wrap_succ (n := 65) (by omega) (by omega)]
    exact ⟨⟨⟨_, rfl, rfl⟩, ⟨_, rfl, op_ptr hu (by omega)⟩, ⟨_, rfl, op_ptr hu (by omega)⟩, ⟨_, rfl, rfl⟩, trivial⟩, ⟨⟨_, rfl, op_upto ha hc, trivial, (hu 1 (by omega)).1⟩, ⟨_, rfl, rfl, trivial, (hu 0 (by omega)).1⟩, trivial⟩⟩
  · intro n R hinv
    obtain ⟨h1, h2⟩ := hinv
    rw [List.length_range']
    have hn : ¬ ((n : Nat) : Int) < (n : Int) := by omega
    exact ⟨_, Out.way_sel (op_over S n R n) (by rw [decide_eq_false hn]), by simp, rfl, fun E1 E2 hu ha hc => ⟨⟨⟨_, rfl, op_ptr hu (by omega)⟩, ⟨_, rfl, op_ptr hu (by omega)⟩, trivial⟩, ⟨⟨_, rfl, op_upto ha hc, trivial, (hu 1 (by omega)).1⟩, ⟨_, rfl, rfl, trivial, (hu 0 (by omega)).1⟩, trivial⟩⟩⟩
noncomputable def opLs : List (Nat × LoopFn) := [(3, gOpL)]
def opH (n : Nat) : Heap := [(2, .rows (.port (opPs n))), (1, opA (tok 2 (opPs n).length)), (0, opA (tok 2 (opPs n).length))]
theorem op_walk (S : Stat) (n : Int) : trimF 3 (inline (withLoops (cOp (S.wt 0)) opLs) 20 (fnOf 32) [.v (.int .i64 n)] [] 0) =
    .ite (decide (0 ≤ n ∧ n ≤ 64)) (.ret (opA (tok 2 (opPs n.toNat).length), opH n.toNat, 3)) .bad := by kernel_rfl
/-- a number, as it is spelt or not -/
def argI : SV → Option Int
  | .v (.int .i64 n) => some n
  | .ki .i64 n => some n
  | _ => none
theorem argI_ok {x : SV} {n : Int} (h : argI x = some n) : (∀ S E, x.den S E = .int .i64 n) ∧ x.flat = true := by
  unfold argI at h
  split at h
  · injection h with h; subst h; exact ⟨fun _ _ => rfl, rfl⟩
  · injection h with h; subst h; exact ⟨fun _ _ => rfl, rfl⟩
  · cases h
def opB : Bri := ⟨0, true, ⟨0, 20, 2, 15⟩, 6, ⟨0, 0, 0, 0, 0⟩, -1, ⟨0, 0, 0, 0⟩⟩
def opV (n : Nat) : SV := opB.sv (.slr 2 n 2 false) (.v (.slice none 0 0)) (.v (.slice none 0 0))
def gOpen : CanonFn := fun ro args H m => match args, H with
  | [x], [] => (match argI x with
    | some n => bif !(Nat.beq m 0) then .bad else .ite (decide (0 ≤ n ∧ n ≤ 64)) (.ret (opV n.toNat, opH n.toNat, 3)) .bad
    | none => .bad)
  | _, _ => .bad
theorem opPs_len (n : Nat) : (opPs n).length = n := by simp [opPs]
theorem op_den (n : Nat) (S : Stat) (E : Env) : (opA (tok 2 (opPs n).length)).den S E = (opV n).den S E := by
  rw [opPs_len, opA, opV, Bri.sv, SV.den_agg _ _ _ rfl, SV.den_agg _ _ _ rfl]
  simp [opA, opV, opB, Bri.sv, opT, tok, SV.cells, SV.cellss]
def gOpen0 : CanonFn := fun ro args H m => match args, H with
  | [.v (.int .i64 n)], [] => bif !(Nat.beq m 0) then .bad else .ite (decide (0 ≤ n ∧ n ≤ 64)) (.ret (opV n.toNat, opH n.toNat, 3)) .bad
  | _, _ => .bad
theorem open0_ok : CanonOk 32 gOpen0 := by
  refine canon_ex cOp_fam Try.func32 (by kernel_rfl) opLs (by kernel_rfl) (by kernel_rfl) (fun S i k g hg => by
    match i, hg with
    | 0, hg => injection hg with hg; injection hg with h1 h2; subst h1 h2; exact gOpL_ok S _
    | i + 1, hg => cases hg) ?_
  intro S args H m r hr
  unfold gOpen0 at hr
  split at hr <;> (try cases hr)
  rename_i n
  cases hm : !(Nat.beq m 0) with
  | true => rw [hm] at hr; cases hr
  | false =>
    rw [hm] at hr
    have hm0 := Nat.eq_of_beq_eq_true (by simpa using hm : Nat.beq m 0 = true)
    subst hm0
    obtain ⟨hc, hr⟩ := Out.ite_bad hr
    simp only [Out.sel, Option.some.injEq] at hr
    subst hr
    have hs := congrArg Out.sel (op_walk S n)
    rw [hc] at hs
    have hs2 : (trimF 3 (inline (withLoops (cOp (S.wt 0)) opLs) 20 (fnOf 32) [.v (.int .i64 n)] [] 0)).sel = some (opA (tok 2 (opPs n.toNat).length), opH n.toNat, 3) := hs
    have f1 : (opV n.toNat).flat = true := rfl
    have f2 : flatH (opH n.toNat) = true := rfl
    have f3 : (opA (tok 2 (opPs n.toNat).length)).flat = true := rfl
    exact ⟨fun k z hk => (by cases hk), rfl, rfl, f1, f2, Nat.zero_le 3, 20, (opA (tok 2 (opPs n.toNat).length), opH n.toNat, 3), hs2, rfl, f3, fun S E => op_den n.toNat S E⟩
theorem open_ok : CanonOk 32 gOpen := by
  intro S args H m v H' m' hr
  unfold gOpen at hr
  split at hr <;> (try cases hr)
  rename_i x
  cases ha : argI x with
  | none => rw [ha] at hr; cases hr
  | some n =>
    rw [ha] at hr
    obtain ⟨h1, h2⟩ := open0_ok S [.v (.int .i64 n)] [] m v H' m' hr
    refine ⟨h1, fun E w hs => ?_⟩
    have e : SV.dens S E [x] = SV.dens S E [.v (.int .i64 n)] := by simp [SV.dens, (argI_ok ha).1 S E, SV.den]
    rw [e]
    exact h2 E w hs
end

section
open Go Go.RowKit

/-- arguments as they are not spelt -/
def unK : SV → SV
  | .ki k n => .v (.int k n)
  | .kb b => .v (.bool b)
  | x => x
theorem unK_den (x : SV) (S : Stat) (E : Env) : (unK x).den S E = x.den S E := by
  unfold unK
  split <;> rfl
def gN (g : CanonFn) : CanonFn := fun ro args H m => g ro (args.map unK) H m
theorem gN_ok {f : FuncId} {g : CanonFn} (h : CanonOk f g) : CanonOk f (gN g) := by
  intro S args H m v H' m' hr
  obtain ⟨h1, h2⟩ := h S (args.map unK) H m v H' m' hr
  refine ⟨h1, fun E w hs => ?_⟩
  have e : SV.dens S E args = SV.dens S E (args.map unK) := by
    induction args with
    | nil => rfl
    | cons x r ih =>
      simp only [List.map_cons, SV.dens, unK_den]
      congr 1
      simp [SV.dens_map, unK_den, Function.comp_def]
  rw [e]
  exact h2 E w hs
noncomputable def ssA (S : Stat) : List (Nat × SpecFn) := (31, spc (gN gOut) S) :: (32, spc gOpen S) :: ssW S
theorem ssA_ok (S : Stat) : ∀ f g, (f, g) ∈ ssA S → SpecOk S [] f g := specs_cons (spc_ok (gN_ok out_ok) S) <| specs_cons (spc_ok open_ok S) (ssW_ok S)
noncomputable def cAw (S : Stat) : Ctx := mkCtx S [] (psOt S) (ssA S) 20 4
theorem cAw_fam : Fam cAw := fam_of psOt_ok ssA_ok
theorem relayAwake (S : Stat) : PureOk S 29 pTrue := pTrue_sel (cAw_fam.full (S.wt 0)) (cAw_fam.win _) (cAw_fam.loop _) (fuel := 20) Try.func29 (by kernel_rfl) (by kernel_rfl)
end
end Go.Proofs.Ytfncoeoaniclmaa
