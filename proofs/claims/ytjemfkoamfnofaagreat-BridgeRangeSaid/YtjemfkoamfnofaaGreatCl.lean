/- BridgeRests: its loops, and its walk. -/
import Derived.Test.YtjemfkoamfnofaaGreatCi
set_option linter.unusedVariables false
set_option maxRecDepth 100000
namespace Go.Proofs.YtjemfkoamfnofaaGreat
open Go Go.RowKit

noncomputable def ssTl (S : Stat) : List (Nat × SpecFn) := (16, spc gLive S) :: (17, spc gRun S) :: (19, spc gTick S) :: (18, spc gEnable S) :: (20, spc gHear S) :: []
theorem ssTl_ok (S : Stat) : ∀ f g, (f, g) ∈ ssTl S → SpecOk S [] f g := specs_cons (spc_ok live_ok S) <| specs_cons (spc_ok run_ok S) <| specs_cons (spc_ok tick_ok S) <| specs_cons (spc_ok enable_ok S) <| specs_cons (spc_ok hear_ok S) specs_nil
def toldM (m : Msg) : Bool := decide (m.times.age ≥ 0) && decide (m.times.age ≤ 256) && decide (m.times.max ≥ 0) && decide (m.times.max ≤ 256) && decide (m.times.hello ≥ 0) && decide (m.times.hello ≤ 256) && decide (m.times.delay ≥ 0) && decide (m.times.delay ≤ 256)
def noTold (a : Todo) : Bool := !(toldM a.msg)
structure TlP where
  L : List Conf
  A : List Todo
  q : Bool
  r : Bool
  rst : Bool
def tlHp (p : TlP) : Heap := [(0, .rows (.conf p.L)), (1, .rows (.todo p.A))]
def ixT (A : List Todo) (i : Nat) : List Bool := [decide ((i : Int) < A.length), decide (0 ≤ (i : Int)) && decide ((i : Int) < A.length), decide ((i : Int).toNat < (Rows.todo A).len)]
theorem ixT_true {A : List Todo} {i : Nat} (h : i < A.length) : ixT A i = [true, true, true] := by
  have e1 : (i : Int) < A.length := by omega
  have e3 : (i : Int).toNat < (Rows.todo A).len := by show (i : Int).toNat < A.length; omega
  simp only [ixT, e1, e3, decide_true, show decide (0 ≤ (i : Int)) = true from by simp, Bool.and_self]
theorem getT {A : List Todo} {i : Nat} {a : Todo} (h : A[i]? = some a) : A.getD (i : Int).toNat Todo.dflt = a := by
  show A.getD i Todo.dflt = a
  simp [List.getD, h]

/-! ### are all messages such as can be told? -/
def tlSl (p : TlP) (i : SV) : Slots := [(0, [], .v (.bool p.rst)), (1, [], .slr 0 p.L.length 0 p.q), (2, [], .slr 1 p.A.length 1 p.r), (7, [], .kb true), (8, [], i)]
def tlFin (p : TlP) : St := ⟨[(0, [], .v (.bool p.rst)), (1, [], .slr 0 p.L.length 0 p.q), (2, [], .slr 1 p.A.length 1 p.r), (7, [], .kb true)], tlHp p, 2⟩
def tlOut : St := ⟨[(6, [], .kb true)], [], 2⟩
def gToldL : LoopFn := onTrim 2 [0, 1, 2, 7, 8] fun st => match st with
  | ⟨[(0, [], .v (.bool rst)), (1, [], .slr 0 n 0 q), (2, [], .slr 1 k 1 r), (7, [], .kb true), (8, [], .ki .i64 0)], [(0, .rows (.conf L)), (1, .rows (.todo A))], _⟩ => some (.ite (decide (n = L.length ∧ k = A.length ∧ k ≤ 1000)) (.ite (A.any noTold) (.ret (.ret, tlOut)) (.ret (.exit 0, tlFin ⟨L, A, q, r, rst⟩))) .bad)
  | _ => none
theorem tlHp_re {S S' : Stat} (p : TlP) (E : Env) : ReHeap (tlHp p) S S' E (tlHp p) := ⟨⟨_, rfl, rfl, trivial⟩, ⟨_, rfl, rfl, trivial⟩, trivial⟩
structure FgP where
  b : Bri
  ps : List Port
  lo : Nat
  lf : Nat
  q : Bool
  rest : Bool
  n : Int
  still : Bool
def ixP (ps : List Port) (i : Nat) : List Bool := [decide ((i : Int) < ps.length), decide (0 ≤ (i : Int)) && decide ((i : Int) < ps.length), decide ((i : Int).toNat < (Rows.port ps).len)]
theorem ixP_true {ps : List Port} {i : Nat} (h : i < ps.length) : ixP ps i = [true, true, true] := by
  have e1 : (i : Int) < ps.length := by omega
  have e3 : (i : Int).toNat < (Rows.port ps).len := by show (i : Int).toNat < ps.length; omega
  simp only [ixP, e1, e3, decide_true, show decide (0 ≤ (i : Int)) = true from by simp, Bool.and_self]
theorem getP {ps : List Port} {i : Nat} {a : Port} (h : ps[i]? = some a) : ps.getD (i : Int).toNat Port.dflt = a := by
  show ps.getD i Port.dflt = a
  simp [List.getD, h]
def rsG (p : TlP) : Bool := decide ((p.L.length : Int) > 5) || decide ((p.L.length : Int) < 1) || decide ((p.A.length : Int) > 40)
def rsL (p : TlP) : Bool := decide (p.L.length = p.L.length ∧ p.A.length = p.A.length ∧ p.A.length ≤ 1000)
def rsV (p : TlP) : Bool := decide (p.L.length = p.L.length ∧ p.A.length = p.A.length) && lvOk p.rst p.L p.A
def rsS (p : TlP) : BS := (liveF p.rst p.L p.A).1
end Go.Proofs.YtjemfkoamfnofaaGreat
