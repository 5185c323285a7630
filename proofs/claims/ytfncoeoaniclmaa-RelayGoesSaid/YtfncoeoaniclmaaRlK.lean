/- fordlaw19.RelayGoes: frame by frame. -/
import Derived.Test.YtfncoeoaniclmaaRlG
set_option linter.unusedVariables false
set_option maxRecDepth 100000
namespace Go.Proofs.Ytfncoeoaniclmaa
section
open Go Go.RowKit

noncomputable def gGiBF : LoopFn := orL gGiB gGiF
noncomputable def cxB (S : Stat) : Ctx := withLoops (goS (cGoB (S.rd 0 4))) [(26, gGiBF)]
noncomputable def cxG (S : Stat) : Ctx := withLoops (goS (cGoG (S.rd 0 4))) [(26, gGiG)]
def goKs (fl : Bool) (b : Nat) : List Nat := match fl with
  | true => [16, 11, 13, 25, 20, 22, 6, 5, 7, b, 4, 0, 1, 2, 3]
  | false => [16, 11, 13, 15, 25, 20, 22, 24, 6, 5, 7, b, 4, 0, 1, 2, 3]
noncomputable def goR (c : Ctx) (p : GoP) (fl : Bool) (i : Nat) (ks : List Nat) : Out (Ex × St) := trimC goTs ks (exec c (fnOf 14).ntmps 20 (lpOf 14 0) (goSt p fl (.v (.int .i64 i))))
def goS1 (p : GoP) (fl : Bool) (b : Nat) (i : SV) : St := ⟨goSl p i [], p.hp fl b [], 0⟩
def goOt (p : GoP) (f : Frame) : OtP := ⟨p.q.b, false, p.q.ps.length, p.q.ps, p.N, 300, p.c, p.l, f.in_, f.src, f.dst⟩
def goRo (p : GoP) (f : Frame) : RoP := ⟨p.q.b, false, p.q.ps.length, p.q.ps, p.N, 300, p.A.length, p.A, f.in_, f.src, f.dst⟩
def szR (R : Rows) : Bool := Nat.beq (SV.rows R).size (SV.rows R).size
def szX (q : InP) (fl : Bool) : Bool := szR (.port q.ps) && (szR (.sent q.os) && (match fl with | true => true | false => szR (.int .i64 q.fs) && true))
def szY (q : InP) (fl : Bool) (A : List Entry) : Bool := szR (.port q.ps) && (szR (.sent q.os) && (match fl with | true => szR (.entry A) && true | false => szR (.int .i64 q.fs) && (szR (.entry A) && true)))
def intsT (A B : List Int) : Bool := decide (A.length = A.length ∧ B.length = B.length ∧ A = B ∧ A.length ≤ 67108864)
def goD (p : GoP) (fl : Bool) (f : Frame) (ok : Bool) (to : List Int) : Bool := ((!(resF f.dst == resR f.dst)) == false) && (((goOt p f).ok && szX p.q fl) && ((ok && szY p.q fl p.A) && intsT (goOt p f).to to))
def goSm (q : InP) (fl : Bool) : SameP := match fl with
  | true => ⟨q.b, q.b, q.ps, q.ps, q.os, q.os, [], [], false, false, false, false, false, false⟩
  | false => ⟨q.b, q.b, q.ps, q.ps, q.os, q.os, q.fs, q.fs, false, false, false, false, false, false⟩
def goSt0 (q : InP) (fl : Bool) : Bool := match fl with
  | true => decide (q.ps.length = q.ps.length ∧ q.os.length = q.os.length ∧ q.ps.length = q.ps.length ∧ q.os.length = q.os.length ∧ q.ps.length < 9223372036854775808 ∧ q.os.length < 9223372036854775808)
  | false => decide (q.ps.length = q.ps.length ∧ q.os.length = q.os.length ∧ q.fs.length = q.fs.length ∧ q.ps.length = q.ps.length ∧ q.os.length = q.os.length ∧ q.fs.length = q.fs.length ∧ q.ps.length < 9223372036854775808 ∧ q.os.length < 9223372036854775808 ∧ q.fs.length < 9223372036854775808)
def goK (p : GoP) (fl : Bool) (b : Nat) : Bool := decide (p.q.ps.length = p.q.ps.length ∧ p.q.os.length = p.q.os.length ∧ p.q.fs.length = p.q.fs.length ∧ (300 : Int) = 300 ∧ p.N = p.N ∧ (300 : Int) = 300 ∧ p.A.length = p.A.length ∧ b = b ∧ b = b ∧ p.q.ps = p.q.ps ∧ p.q.ps = p.q.ps ∧ p.q.os = p.q.os ∧ p.q.os = p.q.os) && (match fl with
  | true => decide (p.q.b = p.q.b ∧ p.q.b = p.q.b ∧ p.q.ps.length = p.q.ps.length ∧ p.q.os.length = p.q.os.length ∧ p.q.ps.length = p.q.ps.length ∧ p.q.os.length = p.q.os.length)
  | false => decide (p.q.b = p.q.b ∧ p.q.b = p.q.b ∧ p.q.ps.length = p.q.ps.length ∧ p.q.os.length = p.q.os.length ∧ p.q.ps.length = p.q.ps.length ∧ p.q.os.length = p.q.os.length ∧ p.q.fs = p.q.fs ∧ p.q.fs = p.q.fs ∧ p.q.fs.length = p.q.fs.length ∧ p.q.fs.length = p.q.fs.length))
def goZ (l : PL) (A : List Entry) : Bool := decide (allE l = A ∧ (allE l).length = l.length ∧ l.length ≤ 67108864)
def goHd (p : GoP) (i : Nat) (f : Frame) : List Bool := [decide ((i : Int) < p.n), inN p.n i, decide (i < p.L.length), f.src == 0]
/-- what stands behind the frame: all is as the document has it -/
def goTl (p : GoP) (fl : Bool) (b : Nat) : List Bool := [decide (p.l.length ≤ 67108864), goSt0 p.q fl, ((p.l.length : Int) != (p.A.length : Int)) || !(sameF (goSm p.q fl)), goK p fl b && goZ p.l p.A]
def goPB (p : GoP) (f : Frame) : GoP := ⟨p.q, p.n, p.L, p.N, (goOt p f).C, (goOt p f).L, p.A⟩
def goPG (p : GoP) (f : Frame) : GoP := ⟨p.q, p.n, p.L, p.N, (goOt p f).C, (goOt p f).L, (goRo p f).A'⟩
theorem go_Bt (S : Stat) (p : GoP) (i : Nat) : Out.way [true, true, true, false, true, true, true, false, true] (goR (cxB S) p true i (goKs true 26)) = some (goHd p i (p.L.getD i Frame.dflt) ++ (goD p true (p.L.getD i Frame.dflt) (goRo p (p.L.getD i Frame.dflt)).okB (roF (goRo p (p.L.getD i Frame.dflt)) p.A) :: goTl (goPB p (p.L.getD i Frame.dflt)) true 26), (.nrm, goS1 (goPB p (p.L.getD i Frame.dflt)) true 26 (.v (.int .i64 (IntKind.i64.wrap (i + 1)))))) := by kernel_rfl
theorem go_Bf (S : Stat) (p : GoP) (i : Nat) : Out.way [true, true, true, false, true, true, true, false, true] (goR (cxB S) p false i (goKs false 26)) = some (goHd p i (p.L.getD i Frame.dflt) ++ (goD p false (p.L.getD i Frame.dflt) (goRo p (p.L.getD i Frame.dflt)).okB (roF (goRo p (p.L.getD i Frame.dflt)) p.A) :: goTl (goPB p (p.L.getD i Frame.dflt)) false 26), (.nrm, goS1 (goPB p (p.L.getD i Frame.dflt)) false 26 (.v (.int .i64 (IntKind.i64.wrap (i + 1)))))) := by kernel_rfl
theorem go_B (S : Stat) (p : GoP) (fl : Bool) (i : Nat) (f : Frame) (hf : p.L.getD i Frame.dflt = f) : Out.way [true, true, true, false, true, true, true, false, true] (goR (cxB S) p fl i (goKs fl 26)) = some (goHd p i f ++ (goD p fl f (goRo p f).okB (roF (goRo p f) p.A) :: goTl (goPB p f) fl 26), (.nrm, goS1 (goPB p f) fl 26 (.v (.int .i64 (IntKind.i64.wrap (i + 1)))))) := by
  subst hf
  cases fl with
  | true => exact go_Bt S p i
  | false => exact go_Bf S p i
theorem go_Gt (S : Stat) (p : GoP) (i : Nat) : Out.way [true, true, true, false, true, true, true, false, true] (goR (cxG S) p true i (goKs true 29)) = some (goHd p i (p.L.getD i Frame.dflt) ++ (goD p true (p.L.getD i Frame.dflt) (goRo p (p.L.getD i Frame.dflt)).okG (roF (goRo p (p.L.getD i Frame.dflt)) (goRo p (p.L.getD i Frame.dflt)).A') :: goTl (goPG p (p.L.getD i Frame.dflt)) true 29), (.nrm, goS1 (goPG p (p.L.getD i Frame.dflt)) true 29 (.v (.int .i64 (IntKind.i64.wrap (i + 1)))))) := by kernel_rfl
theorem go_Gf (S : Stat) (p : GoP) (i : Nat) : Out.way [true, true, true, false, true, true, true, false, true] (goR (cxG S) p false i (goKs false 29)) = some (goHd p i (p.L.getD i Frame.dflt) ++ (goD p false (p.L.getD i Frame.dflt) (goRo p (p.L.getD i Frame.dflt)).okG (roF (goRo p (p.L.getD i Frame.dflt)) (goRo p (p.L.getD i Frame.dflt)).A') :: goTl (goPG p (p.L.getD i Frame.dflt)) false 29), (.nrm, goS1 (goPG p (p.L.getD i Frame.dflt)) false 29 (.v (.int .i64 (IntKind.i64.wrap (i + 1)))))) := by kernel_rfl
theorem go_G (S : Stat) (p : GoP) (fl : Bool) (i : Nat) (f : Frame) (hf : p.L.getD i Frame.dflt = f) : Out.way [true, true, true, false, true, true, true, false, true] (goR (cxG S) p fl i (goKs fl 29)) = some (goHd p i f ++ (goD p fl f (goRo p f).okG (roF (goRo p f) (goRo p f).A') :: goTl (goPG p f) fl 29), (.nrm, goS1 (goPG p f) fl 29 (.v (.int .i64 (IntKind.i64.wrap (i + 1)))))) := by
  subst hf
  cases fl with
  | true => exact go_Gt S p i
  | false => exact go_Gf S p i
/-- what is flushed ahead -/
def goFl (p : GoP) : GoP := ⟨p.q, p.n, p.L, p.N, p.c, flAll p.q.b p.q.fs p.l, frAll p.q.b p.q.fs p.A⟩
def goPF (p : GoP) (f : Frame) : GoP := goPB (goFl p) f
def goCp (q : InP) : Bool := decide (q.fs.length = q.fs.length ∧ q.fs.length ≤ 134217728)
def goBx3 (q : InP) : Bool := decide (q.ps.length = q.ps.length ∧ q.os.length = q.os.length ∧ q.fs.length = q.fs.length)
def goF1 (p : GoP) : Bool := goBx3 p.q && flT0 ⟨⟨p.q.b, p.q.ps, p.q.os, p.q.fs⟩, p.N, 300, p.c, p.l⟩
def goF2 (p : GoP) : Bool := decide (p.q.ps.length = p.q.ps.length ∧ p.q.os.length = p.q.os.length ∧ p.q.fs.length = p.q.fs.length ∧ p.A.length = p.A.length) && frT0 ⟨⟨p.q.b, p.q.ps, p.q.os, p.q.fs⟩, p.N, 300, p.A⟩
theorem go_Ft (S : Stat) (p : GoP) (i : Nat) : Out.way [true, true, true, true, true, true, true, true, true, true, true, false, true] (goR (cxB S) p true i (goKs true 32)) = some (goHd p i (p.L.getD i Frame.dflt) ++ (goCp p.q :: goCp p.q :: goF1 p :: goF2 p :: goD (goFl p) true (p.L.getD i Frame.dflt) (goRo (goFl p) (p.L.getD i Frame.dflt)).okB (roF (goRo (goFl p) (p.L.getD i Frame.dflt)) (goFl p).A) :: goTl (goPF p (p.L.getD i Frame.dflt)) true 32), (.nrm, goS1 (goPF p (p.L.getD i Frame.dflt)) true 32 (.v (.int .i64 (IntKind.i64.wrap (i + 1)))))) := by kernel_rfl
theorem go_Ff (S : Stat) (p : GoP) (i : Nat) : Out.way [true, true, true, true, true, true, true, true, true, true, true, false, true] (goR (cxB S) p false i (goKs true 32)) = some (goHd p i (p.L.getD i Frame.dflt) ++ (goCp p.q :: goCp p.q :: goF1 p :: goF2 p :: goD (goFl p) true (p.L.getD i Frame.dflt) (goRo (goFl p) (p.L.getD i Frame.dflt)).okB (roF (goRo (goFl p) (p.L.getD i Frame.dflt)) (goFl p).A) :: goTl (goPF p (p.L.getD i Frame.dflt)) true 32), (.nrm, goS1 (goPF p (p.L.getD i Frame.dflt)) true 32 (.v (.int .i64 (IntKind.i64.wrap (i + 1)))))) := by kernel_rfl
theorem go_overt (S : Stat) (p : GoP) (i : Nat) : Out.way [false] (goR (cxB S) p true i (goKs true 26)) = some ([decide ((i : Int) < p.n)], (.exit 0, goS1 p true 26 (.v (.int .i64 i)))) := by kernel_rfl
theorem go_overf (S : Stat) (p : GoP) (i : Nat) : Out.way [false] (goR (cxB S) p false i (goKs false 26)) = some ([decide ((i : Int) < p.n)], (.exit 0, goS1 p false 26 (.v (.int .i64 i)))) := by kernel_rfl
end

section
open Go Go.RowKit

theorem res_eq {d : Int} (h : 0 ≤ d ∧ d < 18446744073709551616) : resR d = resF d := by
  unfold resR resF
  have hr := addrF_range d
  rw [adrR_eq h, show (2 : Int) ^ min (Int.toNat 4) IntKind.u64.bits = 16 from by decide, Int.fdiv_eq_ediv_of_nonneg _ (by omega), Bool.eq_iff_iff]
  simp only [Bool.and_eq_true, decide_eq_true_eq, beq_iff_eq]
  omega
theorem grp_eq {d : Int} (h : 0 ≤ d ∧ d < 18446744073709551616) : grpR d = manyF d := by
  unfold grpR
  have e1 : d.tdiv 1099511627776 = d / 1099511627776 := Int.tdiv_eq_ediv_of_nonneg h.1
  rw [manyF_eq h, e1]
  have e2 : IntKind.u64.wrap (d / 1099511627776) = d / 1099511627776 := by rw [IntKind.wrap_u64]; omega
  rw [e2, Int.tmod_eq_emod_of_nonneg (by omega)]
def yesF (q : RoL) (x : Int) : Bool := (!(q.kn) || q.many) || (q.to == x)
theorem goL_ro (q : RoL) : ∀ (L : List Port) (i : Nat) (R : List Int), (∀ j, L[j]? = q.p.ps[i + j]?) → goL (roStp q) L i R = R ++ (oth q.p.i i L).filter (yesF q)
  | [], i, R, _ => by simp [goL, oth]
  | p :: r, i, R, h => by
    have h0 : q.p.ps[i]? = some p := by have := h 0; simpa using this.symm
    have hp : roPt q i = p := by unfold roPt; simp [List.getD, h0]
    have hr : ∀ j, r[j]? = q.p.ps[i + 1 + j]? := fun j => by
      have := h (j + 1)
      rw [List.getElem?_cons_succ] at this
      rw [this, show i + (j + 1) = i + 1 + j from by omega]
    rw [goL, goL_ro q r (i + 1) _ hr, oth]
    have hno : roNo q i = !((i : Int) != q.p.i && openP p) := by
      unfold roNo openP bne
      rw [hp]
      cases ((i : Int) == q.p.i) <;> cases p.enabled <;> cases p.flags.forwarding <;> rfl
    unfold roStp
    rw [hno]
    cases hc : ((i : Int) != q.p.i && openP p) with
    | false => simp
    | true =>
      have hy : roYes q i = yesF q (i : Int) := rfl
      rw [hy]
      cases hyf : yesF q (i : Int) with
      | true => simp [hyf]
      | false => simp [hyf]
theorem filter_one {to : Int} : ∀ {l : List Int}, l.Pairwise (· < ·) → l.filter (fun x => to == x) = if l.contains to = true then [to] else []
  | [], _ => rfl
  | a :: r, h => by
    obtain ⟨h1, h2⟩ := List.pairwise_cons.1 h
    have ih := filter_one (to := to) h2
    by_cases ha : to = a
    · subst ha
      have hn : r.contains to = false := by
        rw [Bool.eq_false_iff]
        intro hc
        have := h1 _ (List.contains_iff_mem.1 hc)
        omega
      rw [List.filter_cons, ih, hn]
      simp
    · have hf : (to == a) = false := by simp [ha]
      rw [List.filter_cons, hf, ih, List.contains_cons, hf]
      simp
/-- where a frame goes is where the document has it -/
theorem to_same (p : GoP) (f : Frame) (A : List Entry) (hA : A = allE (goOt p f).L) (ht : TabOk p.N 300 (goOt p f).L) (hd : 0 ≤ f.dst ∧ f.dst < 18446744073709551616) : roF (goRo p f) A = (goOt p f).to := by
  have hdead : (goRo p f).dead = (goOt p f).dead := by
    unfold RoP.dead RoP.no OtP.dead
    rw [show (goRo p f).d = f.dst from rfl, res_eq hd]
    rfl
  unfold roF OtP.to
  rw [hdead]
  cases hdd : (goOt p f).dead with
  | true => rfl
  | false =>
    have hen : (goOt p f).pt.enabled = true := by
      have := hdd
      unfold OtP.dead at this
      simp only [Bool.or_eq_false_iff, Bool.not_eq_false'] at this
      exact this.2.1
    have hop : openP (goOt p f).pt = (goRo p f).pt.flags.forwarding := by
      unfold openP
      rw [hen]; rfl
    rw [hop]
    cases hfw : (goRo p f).pt.flags.forwarding with
    | false => rfl
    | true =>
      simp only [Bool.false_eq_true, if_false, Bool.true_eq_false]
      obtain ⟨f1, f2⟩ := find_same (m := f.dst) ht hd
      have hF : (goRo p f).F A = (oth f.in_ 0 p.q.ps).filter (yesF ((goRo p f).L A)) := by
        unfold RoP.F
        rw [goL_ro ((goRo p f).L A) _ 0 [] (fun j => by rw [Nat.zero_add]; rfl)]
        rfl
      rw [hF]
      have hkn : ((goRo p f).L A).kn = hasK (goOt p f).L (addrF f.dst) := by rw [hA]; exact f2
      have hto : ((goRo p f).L A).to = portF (goOt p f).L f.dst := by rw [hA]; exact f1
      have hmy : ((goRo p f).L A).many = manyF f.dst := grp_eq hd
      have hall : otAll (goOt p f) (goOt p f).L = (!(((goRo p f).L A).kn) || ((goRo p f).L A).many) := by
        rw [hkn, hmy]; rfl
      rw [hall]
      cases hy : (!(((goRo p f).L A).kn) || ((goRo p f).L A).many) with
      | true =>
        have : (oth f.in_ 0 p.q.ps).filter (yesF ((goRo p f).L A)) = oth f.in_ 0 p.q.ps := by
          rw [List.filter_eq_self]
          intro x _
          unfold yesF
          rw [hy]; rfl
        rw [this]; rfl
      | false =>
        have : (oth f.in_ 0 p.q.ps).filter (yesF ((goRo p f).L A)) = (oth f.in_ 0 p.q.ps).filter (fun x => portF (goOt p f).L f.dst == x) := by
          congr 1
          funext x
          unfold yesF
          rw [hy, hto]; rfl
        rw [this, filter_one (oth_up _ _)]
        simp only [Bool.false_eq_true, if_false]
        unfold otHas
        rw [idxI_mem]
        rfl
theorem flAll_ok {X : Int} (b : Bri) : ∀ (fs : List Int) (l : PL), TabOk X 300 l → TabOk X 300 (flAll b fs l) ∧ frAll b fs (allE l) = allE (flAll b fs l)
  | [], l, h => ⟨h, rfl⟩
  | P :: r, l, h => by
    obtain ⟨h1, h2⟩ := flAll_ok b r (shortL P (flSec b) l) (h.short P (flSec b))
    refine ⟨h1, ?_⟩
    show frAll b r (shortR P (flSec b) (allE l)) = _
    rw [short_same h]
    exact h2
end

section
open Go Go.RowKit

def goV (p : GoP) (c : Nat) (l : PL) : GoP := ⟨p.q, p.n, p.L, p.N, c, l, allE l⟩
structure GoI (p : GoP) (l : PL) : Prop where
  len : p.L.length = p.n
  few : p.n ≤ 40
  rng : ∀ f ∈ p.L, 0 ≤ f.src ∧ f.src < 18446744073709551616 ∧ 0 ≤ f.dst ∧ f.dst < 18446744073709551616
  N : 1 ≤ p.N ∧ p.N ≤ 8
  ps : p.q.ps.length ≤ 8
  os : p.q.os.length ≤ 20
  fs : p.q.fs.length ≤ 20
  tab : TabOk p.N 300 l
theorem szR_ok (R : Rows) : szR R = true := Nat.beq_refl _
theorem szX_ok (q : InP) (fl : Bool) : szX q fl = true := by
  unfold szX
  rw [szR_ok, szR_ok]
  cases fl <;> simp [szR_ok]
theorem szY_ok (q : InP) (fl : Bool) (A : List Entry) : szY q fl A = true := by
  unfold szY
  rw [szR_ok, szR_ok]
  cases fl <;> simp [szR_ok]
theorem goSm_ok (q : InP) (fl : Bool) : sameF (goSm q fl) = true := by
  have hz : ∀ {α : Type} (f : α × α → Bool), (∀ a, f (a, a) = false) → ∀ l : List α, (l.zip l).any f = false := by
    intro α f hf l
    induction l with
    | nil => rfl
    | cons a l ih => simp [hf, ih]
  have h1 : headNe q.b q.b = false := by unfold headNe; simp
  cases fl with
  | true =>
    unfold sameF goSm
    have h2 : lenNe ⟨q.b, q.b, q.ps, q.ps, q.os, q.os, [], [], false, false, false, false, false, false⟩ = false := by unfold lenNe; simp
    simp only [h1, h2, hz neqP (fun a => by unfold neqP; simp), hz neqS (fun a => by unfold neqS; simp), hz neqI (fun a => by unfold neqI; simp)]
    rfl
  | false =>
    unfold sameF goSm
    have h2 : lenNe ⟨q.b, q.b, q.ps, q.ps, q.os, q.os, q.fs, q.fs, false, false, false, false, false, false⟩ = false := by unfold lenNe; simp
    simp only [h1, h2, hz neqP (fun a => by unfold neqP; simp), hz neqS (fun a => by unfold neqS; simp), hz neqI (fun a => by unfold neqI; simp)]
    rfl
theorem tl_ok {p : GoP} {c : Nat} {l : PL} (h : GoI p l) (fl : Bool) (b : Nat) : goTl (goV p c l) fl b = [true, true, false, true] := by
  have hl := h.tab.len
  have hN := h.N
  have hps := h.ps
  have hos := h.os
  have hfs := h.fs
  have h1 : l.length ≤ 67108864 := by omega
  have e0 : goSt0 (goV p c l).q fl = true := by
    unfold goSt0
    cases fl
    · exact decide_eq_true ⟨rfl, rfl, rfl, rfl, rfl, rfl, by show p.q.ps.length < _; omega, by show p.q.os.length < _; omega, by show p.q.fs.length < _; omega⟩
    · exact decide_eq_true ⟨rfl, rfl, rfl, rfl, by show p.q.ps.length < _; omega, by show p.q.os.length < _; omega⟩
  have e1 : goK (goV p c l) fl b = true := by
    unfold goK
    rw [Bool.and_eq_true]
    refine ⟨decide_eq_true ⟨rfl, rfl, rfl, rfl, rfl, rfl, rfl, rfl, rfl, rfl, rfl, rfl, rfl⟩, ?_⟩
    cases fl
    · exact decide_eq_true ⟨rfl, rfl, rfl, rfl, rfl, rfl, rfl, rfl, rfl, rfl⟩
    · exact decide_eq_true ⟨rfl, rfl, rfl, rfl, rfl, rfl⟩
  have e2 : goZ (goV p c l).l (goV p c l).A = true := decide_eq_true ⟨rfl, allE_len l, h1⟩
  unfold goTl
  rw [e0, e1, e2, goSm_ok, decide_eq_true (show (goV p c l).l.length ≤ 67108864 from h1)]
  have e3 : (((goV p c l).l.length : Int) != ((goV p c l).A.length : Int)) = false := by
    show ((l.length : Int) != ((allE l).length : Int)) = false
    rw [allE_len]; simp
  rw [e3]; rfl
theorem hd_ok {p : GoP} {i : Nat} (hn : p.L.length = p.n) (hi : i < p.L.length) (f : Frame) : goHd p i f = [true, true, true, f.src == 0] := by
  have h1 : (i : Int) < p.n := by omega
  have h2 : inN p.n i = true := by unfold inN; rw [decide_eq_true h1]; simp
  unfold goHd
  rw [h2, decide_eq_true h1, decide_eq_true hi]
theorem ot_ok {p : GoP} {c : Nat} {l : PL} {f : Frame} (h : GoI p l) : (goOt (goV p c l) f).ok = true := by
  have hN := h.N
  have hps := h.ps
  exact ok_of (p := goOt (goV p c l) f) h.tab ⟨hN.1, by show p.N ≤ 67108864; omega⟩ ⟨rfl, by show p.q.ps.length ≤ 67108864; omega⟩
theorem ot_tab {p : GoP} {c : Nat} {l : PL} {f : Frame} (h : GoI p l) : TabOk p.N 300 (goOt (goV p c l) f).L := tab_L (p := goOt (goV p c l) f) h.tab h.N.1 (by show (1 : Int) ≤ 300; decide)
/-- the draw, when where a frame goes is as the document has it -/
theorem d_ok {p : GoP} {c : Nat} {l : PL} {f : Frame} {ok : Bool} {to : List Int} (h : GoI p l) (fl : Bool) (hd : 0 ≤ f.dst ∧ f.dst < 18446744073709551616) (hok : ok = true) (hto : to = (goOt (goV p c l) f).to) : goD (goV p c l) fl f ok to = true := by
  have h1 := to_len (goOt (goV p c l) f)
  have h2 : (goOt (goV p c l) f).ps.length ≤ 8 := h.ps
  have hi : intsT (goOt (goV p c l) f).to to = true := decide_eq_true ⟨rfl, rfl, hto.symm, by omega⟩
  unfold goD
  rw [hi, hok, szX_ok, szY_ok, ot_ok h, res_eq hd]
  simp
theorem dead_same {p : GoP} {f : Frame} (hd : 0 ≤ f.dst ∧ f.dst < 18446744073709551616) : (goRo p f).dead = (goOt p f).dead := by
  unfold RoP.dead RoP.no OtP.dead
  rw [show (goRo p f).d = f.dst from rfl, res_eq hd]
  rfl
theorem lf_ok {p : GoP} {c : Nat} {l : PL} {f : Frame} (h : GoI p l) : ((goRo (goV p c l) f).lp && (goRo (goV p c l) f).fd) = true := by
  have hN := h.N
  have hps := h.ps
  have hl := h.tab.len
  have h1 : (goRo (goV p c l) f).lp = true := decide_eq_true ⟨rfl, by show p.q.ps.length ≤ 67108864; omega⟩
  have h2 : (goRo (goV p c l) f).fd = true := decide_eq_true ⟨rfl, by show (allE l).length ≤ 67108864; rw [allE_len]; omega⟩
  rw [h1, h2]; rfl
/-- is something learned? -/
def goGood (p : GoP) (f : Frame) : Bool := (f.src != 0) && ((!(goOt p f).dead && (goOt p f).pt.flags.learning) && !(badF f.src f.in_))
/-- nothing is learned -/
def goBad (p : GoP) (f : Frame) : Bool := (goOt p f).dead || (!(goOt p f).pt.flags.learning || badF f.src f.in_)
theorem bad_L {p : GoP} {c : Nat} {l : PL} {f : Frame} (hb : goBad p f = true) : (goOt (goV p c l) f).L = l := by
  have hdead : (goOt (goV p c l) f).dead = (goOt p f).dead := rfl
  have hpt : (goOt (goV p c l) f).pt = (goOt p f).pt := rfl
  unfold OtP.L
  rw [hdead, hpt]
  cases hd : (goOt p f).dead with
  | true => rfl
  | false =>
    cases hl : (goOt p f).pt.flags.learning with
    | false => rfl
    | true =>
      unfold goBad at hb
      rw [hd, hl] at hb
      have hb' : badF f.src f.in_ = true := by simpa using hb
      show (if false = true then l else if true = true then learnL p.N 300 c l f.src f.in_ else l) = l
      simp only [Bool.false_eq_true, if_false, if_true]
      unfold learnL
      rw [hb']; rfl
theorem okB_ok {p : GoP} {c : Nat} {l : PL} {f : Frame} (h : GoI p l) (hs : 0 ≤ f.src ∧ f.src < 18446744073709551616) (hd : 0 ≤ f.dst ∧ f.dst < 18446744073709551616) (hb : goBad p f = true) : (goRo (goV p c l) f).okB = true := by
  unfold RoP.okB
  rw [lf_ok h, dead_same hd, show (goRo (goV p c l) f).s = f.src from rfl, show (goRo (goV p c l) f).i = f.in_ from rfl, badR_eq hs]
  exact hb
theorem toB_ok {p : GoP} {c : Nat} {l : PL} {f : Frame} (h : GoI p l) (hd : 0 ≤ f.dst ∧ f.dst < 18446744073709551616) (hb : goBad p f = true) : roF (goRo (goV p c l) f) (goV p c l).A = (goOt (goV p c l) f).to := by
  refine to_same (goV p c l) f _ ?_ (ot_tab (p := p) (c := c) (f := f) h) hd
  rw [bad_L hb]; rfl
theorem goPB_eq {p : GoP} {c : Nat} {l : PL} {f : Frame} (hb : goBad p f = true) : goPB (goV p c l) f = goV p (goOt (goV p c l) f).C l := by
  unfold goPB
  rw [bad_L hb]
  rfl
theorem good_L {p : GoP} {c : Nat} {l : PL} {f : Frame} (h : GoI p l) (hs : 0 ≤ f.src ∧ f.src < 18446744073709551616) (hg : goGood p f = true) : (goOt (goV p c l) f).L = learnL p.N 300 c l f.src f.in_ ∧ (goRo (goV p c l) f).A' = allE (learnL p.N 300 c l f.src f.in_) := by
  unfold goGood at hg
  simp only [Bool.and_eq_true, Bool.not_eq_true'] at hg
  obtain ⟨_, ⟨hdead, hl⟩, hb⟩ := hg
  have hdead' : (goOt (goV p c l) f).dead = false := hdead
  have hl' : (goOt (goV p c l) f).pt.flags.learning = true := hl
  refine ⟨?_, (learn_same (c := c) h.tab h.N.1 hs hb).1⟩
  unfold OtP.L
  rw [hdead', hl']; rfl
theorem goPG_eq {p : GoP} {c : Nat} {l : PL} {f : Frame} (h : GoI p l) (hs : 0 ≤ f.src ∧ f.src < 18446744073709551616) (hg : goGood p f = true) : goPG (goV p c l) f = goV p (goOt (goV p c l) f).C (goOt (goV p c l) f).L := by
  obtain ⟨h1, h2⟩ := good_L (c := c) h hs hg
  unfold goPG
  rw [h2, h1]
  rfl
theorem okG_ok {p : GoP} {c : Nat} {l : PL} {f : Frame} (h : GoI p l) (hs : 0 ≤ f.src ∧ f.src < 18446744073709551616) (hd : 0 ≤ f.dst ∧ f.dst < 18446744073709551616) (hg : goGood p f = true) : (goRo (goV p c l) f).okG = true := by
  obtain ⟨h1, h2⟩ := good_L (c := c) h hs hg
  have ht := ot_tab (c := c) (f := f) h
  rw [h1] at ht
  have hlen := ht.len
  have hN := h.N
  unfold goGood at hg
  simp only [Bool.and_eq_true, Bool.not_eq_true'] at hg
  obtain ⟨_, ⟨hdead, hl⟩, hb⟩ := hg
  have hls := (learn_same (c := c) h.tab h.N.1 hs hb).2
  have hfl := lf_ok (c := c) (f := f) h
  have hlt : (goRo (goV p c l) f).lt = true := by
    unfold RoP.lt
    rw [show (goRo (goV p c l) f).s = f.src from rfl, show (goRo (goV p c l) f).i = f.in_ from rfl, badR_eq hs, hb, (Bool.and_eq_true_iff.1 hfl).2]
    have : (!(fullR (goRo (goV p c l) f).x (goRo (goV p c l) f).A.length (goRo (goV p c l) f).A f.src) || decide (1 ≤ (goRo (goV p c l) f).A.length)) = true := by
      rcases hls with h3 | h3
      · have : fullR (goRo (goV p c l) f).x (goRo (goV p c l) f).A.length (goRo (goV p c l) f).A f.src = false := h3
        rw [this]; rfl
      · have : decide (1 ≤ (goRo (goV p c l) f).A.length) = true := decide_eq_true h3
        rw [this]; simp
    rw [this]; rfl
  have hA : decide ((goRo (goV p c l) f).A'.length ≤ 67108864) = true := by
    rw [h2, allE_len]
    exact decide_eq_true (by omega)
  have hl' : (goRo (goV p c l) f).pt.flags.learning = true := hl
  have hdd : (goRo (goV p c l) f).dead = false := by rw [dead_same hd]; exact hdead
  unfold RoP.okG
  rw [hfl, hdd, hl', hlt, hA]; rfl
theorem toG_ok {p : GoP} {c : Nat} {l : PL} {f : Frame} (h : GoI p l) (hs : 0 ≤ f.src ∧ f.src < 18446744073709551616) (hd : 0 ≤ f.dst ∧ f.dst < 18446744073709551616) (hg : goGood p f = true) : roF (goRo (goV p c l) f) (goRo (goV p c l) f).A' = (goOt (goV p c l) f).to := by
  obtain ⟨h1, h2⟩ := good_L (c := c) h hs hg
  refine to_same (goV p c l) f _ ?_ (ot_tab (p := p) (c := c) (f := f) h) hd
  rw [h1, h2]
end

section
open Go Go.RowKit

def goL1 (p : GoP) (f : Frame) (l : PL) : PL := if f.src = 0 then flAll p.q.b p.q.fs l else l
def goF0 (f : Frame) (fl : Bool) : Bool := if f.src = 0 then true else fl
def goStep (p : GoP) (f : Frame) (s : Nat × PL × Bool) : Nat × PL × Bool := ((goOt (goV p s.1 (goL1 p f s.2.1)) f).C, (goOt (goV p s.1 (goL1 p f s.2.1)) f).L, goF0 f s.2.2)
noncomputable def goCx (S : Stat) (p : GoP) (i : Nat) : Ctx := bif goGood p (p.L.getD i Frame.dflt) then cxG S else cxB S
theorem cxB_ok (S : Stat) : CtxFull Try.prog (cxB S) ∧ (cxB S).win = [] ∧ (cxB S).S = S.rd 0 4 := ⟨withLoops_full (sureC_full (cGoB_fam.full _) _) _, cGoB_fam.win (S.rd 0 4), cGoB_fam.S (S.rd 0 4)⟩
theorem cxG_ok (S : Stat) : CtxFull Try.prog (cxG S) ∧ (cxG S).win = [] ∧ (cxG S).S = S.rd 0 4 := ⟨withLoops_full (sureC_full (cGoG_fam.full _) _) _, cGoG_fam.win (S.rd 0 4), cGoG_fam.S (S.rd 0 4)⟩
theorem goLp1 : (loopsOf (lpOf 14 0)).length = 1 ∧ loopAt (lpOf 14 0) 0 = lpOf 14 1 ∧ firstId (lpOf 14 1) = 26 := ⟨by kernel_rfl, by kernel_rfl, by kernel_rfl⟩
theorem goCx_S (S : Stat) (p : GoP) (i : Nat) : (goCx S p i).S = S.rd 0 4 := by
  unfold goCx
  cases goGood p (p.L.getD i Frame.dflt) with
  | true => exact (cxG_ok S).2.2
  | false => exact (cxB_ok S).2.2
theorem goCx_ok (S : Stat) (p : GoP) (i : Nat) : CtxFull Try.prog (goCx S p i) ∧ (goCx S p i).win = [] ∧ LoopsOk Try.prog (goCx S p i) (fnOf 14).ntmps (lpOf 14 0) := by
  unfold goCx
  cases goGood p (p.L.getD i Frame.dflt) with
  | true =>
    refine ⟨(cxG_ok S).1, (cxG_ok S).2.1, LoopsOk.of fun j hj => ?_⟩
    have : j = 0 := by have := goLp1.1; omega
    subst this
    rw [goLp1.2.1, goLp1.2.2]
    exact gGiG_ok S _
  | false =>
    refine ⟨(cxB_ok S).1, (cxB_ok S).2.1, LoopsOk.of fun j hj => ?_⟩
    have : j = 0 := by have := goLp1.1; omega
    subst this
    rw [goLp1.2.1, goLp1.2.2]
    exact orL_ok (gGiB_ok S _) (gGiF_ok S _)
theorem goI_step {p : GoP} {f : Frame} {s : Nat × PL × Bool} (h : GoI p s.2.1) : GoI p (goStep p f s).2.1 := by
  have h1 : GoI p (goL1 p f s.2.1) := by
    unfold goL1
    split
    · exact ⟨h.len, h.few, h.rng, h.N, h.ps, h.os, h.fs, (flAll_ok p.q.b p.q.fs s.2.1 h.tab).1⟩
    · exact h
  exact ⟨h.len, h.few, h.rng, h.N, h.ps, h.os, h.fs, ot_tab h1⟩
theorem bad0 {f : Frame} (h : f.src = 0) : badF f.src f.in_ = true := by
  unfold badF
  rw [h, addrF_eq (by omega)]
  rfl
theorem good_not {p : GoP} {f : Frame} (hs : f.src ≠ 0) (hg : goGood p f = false) : goBad p f = true := by
  unfold goGood at hg
  unfold goBad
  have : (f.src != 0) = true := by simp [hs]
  rw [this] at hg
  revert hg
  cases (goOt p f).dead <;> cases (goOt p f).pt.flags.learning <;> cases badF f.src f.in_ <;> simp
theorem go_sel (S : Stat) (p : GoP) (s : Nat × PL × Bool) (i : Nat) (h : GoI p s.2.1) (hi : i < p.L.length) (f : Frame) (hf : p.L.getD i Frame.dflt = f) : ∃ b, (b = 26 ∨ b = 29 ∨ b = 32) ∧
    (goR (goCx S p i) (goV p s.1 s.2.1) s.2.2 i (goKs (goF0 f s.2.2) b)).sel = some (.nrm, goS1 (goV p (goStep p f s).1 (goStep p f s).2.1) (goStep p f s).2.2 b (.v (.int .i64 (IntKind.i64.wrap (i + 1))))) := by
  obtain ⟨c, l, fl⟩ := s
  replace h : GoI p l := h
  have hin : f ∈ p.L := by
    rw [← hf, List.getD, List.getElem?_eq_getElem hi]
    exact List.getElem_mem _
  obtain ⟨hs1, hs2, hd1, hd2⟩ := h.rng f hin
  have hhd := hd_ok (p := goV p c l) (f := f) (i := i) h.len hi
  unfold goCx
  rw [hf]
  by_cases h0 : f.src = 0
  · have hg : goGood p f = false := by unfold goGood; rw [h0]; rfl
    have hb : goBad p f = true := by unfold goBad; rw [bad0 h0]; simp
    obtain ⟨t1, t2⟩ := flAll_ok p.q.b p.q.fs l h.tab
    have h1 : GoI p (flAll p.q.b p.q.fs l) := ⟨h.len, h.few, h.rng, h.N, h.ps, h.os, h.fs, t1⟩
    have hfl : goFl (goV p c l) = goV p c (flAll p.q.b p.q.fs l) := by
      unfold goFl goV
      dsimp only
      rw [t2]
    have hst : goStep p f (c, l, fl) = ((goOt (goV p c (flAll p.q.b p.q.fs l)) f).C, flAll p.q.b p.q.fs l, true) := by
      unfold goStep goL1 goF0
      rw [if_pos h0, if_pos h0]
      dsimp only
      rw [bad_L hb]
    have hF0 : goF0 f fl = true := by unfold goF0; rw [if_pos h0]
    rw [hg, hst, hF0]
    refine ⟨32, .inr (.inr rfl), ?_⟩
    have hfs := h.fs
    have hps := h.ps
    have hos := h.os
    have hN := h.N
    have hl := h.tab.len
    have hcp : goCp (goV p c l).q = true := decide_eq_true ⟨rfl, by show p.q.fs.length ≤ 134217728; omega⟩
    have hf1 : goF1 (goV p c l) = true := by
      unfold goF1
      rw [Bool.and_eq_true]
      exact ⟨decide_eq_true ⟨rfl, rfl, rfl⟩, decide_eq_true ⟨rfl, rfl, rfl, rfl, rfl, by show p.q.fs.length ≤ 67108864; omega, by show l.length ≤ 67108864; omega⟩⟩
    have hf2 : goF2 (goV p c l) = true := by
      unfold goF2
      rw [Bool.and_eq_true]
      exact ⟨decide_eq_true ⟨rfl, rfl, rfl, rfl⟩, decide_eq_true ⟨rfl, rfl, rfl, rfl, by show p.q.fs.length ≤ 67108864; omega, by show (allE l).length ≤ 67108864; rw [allE_len]; omega⟩⟩
    have hD := d_ok (f := f) (ok := (goRo (goV p c (flAll p.q.b p.q.fs l)) f).okB) (to := roF (goRo (goV p c (flAll p.q.b p.q.fs l)) f) (goV p c (flAll p.q.b p.q.fs l)).A) (c := c) h1 true ⟨hd1, hd2⟩ (okB_ok h1 ⟨hs1, hs2⟩ ⟨hd1, hd2⟩ hb) (toB_ok h1 ⟨hd1, hd2⟩ hb)
    have hPF : goPF (goV p c l) f = goV p (goOt (goV p c (flAll p.q.b p.q.fs l)) f).C (flAll p.q.b p.q.fs l) := by
      unfold goPF
      rw [hfl, goPB_eq hb]
    have hT := tl_ok (c := (goOt (goV p c (flAll p.q.b p.q.fs l)) f).C) h1 true 32
    have key : ∀ fl', (goR (cxB S) (goV p c l) fl' i (goKs true 32)).sel = some (.nrm, goS1 (goPF (goV p c l) f) true 32 (.v (.int .i64 (IntKind.i64.wrap (i + 1))))) := by
      intro fl'
      cases fl' with
      | true =>
        have h2 := go_Ft S (goV p c l) i
        rw [show (goV p c l).L.getD i Frame.dflt = f from hf, hfl, hPF, hD, hT, hhd, hcp, hf1, hf2] at h2
        rw [hPF]
        exact Out.way_sel h2 (by rw [h0]; rfl)
      | false =>
        have h2 := go_Ff S (goV p c l) i
        rw [show (goV p c l).L.getD i Frame.dflt = f from hf, hfl, hPF, hD, hT, hhd, hcp, hf1, hf2] at h2
        rw [hPF]
        exact Out.way_sel h2 (by rw [h0]; rfl)
    have h3 := key fl
    rw [hPF] at h3
    exact h3
  · have e0 : (f.src == 0) = false := by simp [h0]
    have hF0 : goF0 f fl = fl := by unfold goF0; rw [if_neg h0]
    have hL1 : goL1 p f l = l := by unfold goL1; rw [if_neg h0]
    have hst : goStep p f (c, l, fl) = ((goOt (goV p c l) f).C, (goOt (goV p c l) f).L, fl) := by
      unfold goStep
      rw [hF0, hL1]
    rw [hst, hF0]
    have hnext : GoI p (goOt (goV p c l) f).L := ⟨h.len, h.few, h.rng, h.N, h.ps, h.os, h.fs, ot_tab h⟩
    cases hg : goGood p f with
    | true =>
      refine ⟨29, .inr (.inl rfl), ?_⟩
      have hD := d_ok (f := f) (ok := (goRo (goV p c l) f).okG) (to := roF (goRo (goV p c l) f) (goRo (goV p c l) f).A') (c := c) h fl ⟨hd1, hd2⟩ (okG_ok h ⟨hs1, hs2⟩ ⟨hd1, hd2⟩ hg) (toG_ok h ⟨hs1, hs2⟩ ⟨hd1, hd2⟩ hg)
      have hPG := goPG_eq (c := c) h ⟨hs1, hs2⟩ hg
      have hT := tl_ok (c := (goOt (goV p c l) f).C) hnext fl 29
      have h2 := go_G S (goV p c l) fl i f hf
      rw [hPG, hD, hT, hhd] at h2
      exact Out.way_sel h2 (by rw [e0]; rfl)
    | false =>
      have hb := good_not h0 hg
      refine ⟨26, .inl rfl, ?_⟩
      have hD := d_ok (f := f) (ok := (goRo (goV p c l) f).okB) (to := roF (goRo (goV p c l) f) (goV p c l).A) (c := c) h fl ⟨hd1, hd2⟩ (okB_ok h ⟨hs1, hs2⟩ ⟨hd1, hd2⟩ hb) (toB_ok h ⟨hd1, hd2⟩ hb)
      have hPB := goPB_eq (c := c) (l := l) hb
      have hLL := bad_L (c := c) (l := l) hb
      have hT := tl_ok (c := (goOt (goV p c l) f).C) h fl 26
      have h2 := go_B S (goV p c l) fl i f hf
      rw [hPB, hD, hT, hhd] at h2
      rw [hLL]
      exact Out.way_sel h2 (by rw [e0]; rfl)
/-- said anew, with a name's chunk elsewhere -/
theorem go_re (S : Stat) (p : GoP) (fl : Bool) (b : Nat) (hb : b = 26 ∨ b = 29 ∨ b = 32) (i : Int) (E1 E2 : Env) (hu : Env.upto 26 E1 E2) (ha : E2.ad 26 = E1.ad b) (hc : E2.cp 26 = E1.cp b) :
    ReN (S.rd 0 4) E1 (goS1 p fl b (.v (.int .i64 i))) (S.rd 0 4) E2 (swp 26 b) (goSt p fl (.v (.int .i64 i))) := by
  have u0 := hu 0 (by omega)
  have u1 := hu 1 (by omega)
  have u2 := hu 2 (by omega)
  have u3 := hu 3 (by omega)
  have u4 := hu 4 (by omega)
  have u5 := hu 5 (by omega)
  have u6 := hu 6 (by omega)
  have u7 := hu 7 (by omega)
  have u11 := hu 11 (by omega)
  have u13 := hu 13 (by omega)
  have u15 := hu 15 (by omega)
  have u16 := hu 16 (by omega)
  have u20 := hu 20 (by omega)
  have u22 := hu 22 (by omega)
  have u24 := hu 24 (by omega)
  have u25 := hu 25 (by omega)
  rcases hb with rfl | rfl | rfl <;> cases fl
  all_goals
    refine ⟨⟨⟨_, rfl, ?_⟩, ⟨_, rfl, ?_⟩, ⟨_, rfl, rfl⟩, ⟨_, rfl, ?_⟩, ⟨_, rfl, ?_⟩, ⟨_, rfl, ?_⟩, ⟨_, rfl, ?_⟩, ⟨_, rfl, rfl⟩, trivial⟩, ?_, rfl⟩
    · simp [SV.den, u3, Env.place]
    · simp [SV.den, u4, Env.place]
    · simp [SV.den, u6, Env.place]
    · simp [SV.den, u7, Env.place]
    · simp [SV.den, u16, Env.place]
    · simp [SV.den, u25, Env.place]
    · first
      | refine ⟨⟨trivial, .inr ⟨_, rfl, ?_, ?_, rfl⟩⟩, ⟨trivial, .inr ⟨_, rfl, ?_, ?_, rfl⟩⟩, ⟨trivial, .inr ⟨_, rfl, ?_, ?_, rfl⟩⟩, ⟨trivial, .inr ⟨_, rfl, ?_, ?_, rfl⟩⟩, ⟨trivial, .inr ⟨_, rfl, ?_, ?_, rfl⟩⟩, ⟨trivial, .inr ⟨_, rfl, ?_, ?_, rfl⟩⟩, ⟨trivial, .inr ⟨_, rfl, ?_, ?_, rfl⟩⟩, ⟨trivial, .inr ⟨_, rfl, ?_, ?_, rfl⟩⟩, ⟨trivial, .inr ⟨_, rfl, ?_, ?_, rfl⟩⟩, ⟨trivial, .inr ⟨_, rfl, ?_, ?_, rfl⟩⟩, ⟨trivial, .inr ⟨_, rfl, ?_, ?_, rfl⟩⟩, ⟨trivial, .inr ⟨_, rfl, ?_, ?_, rfl⟩⟩, ⟨trivial, .inr ⟨_, rfl, ?_, ?_, rfl⟩⟩, ⟨trivial, .inr ⟨_, rfl, ?_, ?_, rfl⟩⟩, ⟨trivial, .inr ⟨_, rfl, ?_, ?_, rfl⟩⟩, ⟨trivial, .inr ⟨_, rfl, ?_, ?_, rfl⟩⟩, ⟨trivial, .inr ⟨_, rfl, ?_, ?_, rfl⟩⟩, trivial⟩
      | refine ⟨⟨trivial, .inr ⟨_, rfl, ?_, ?_, rfl⟩⟩, ⟨trivial, .inr ⟨_, rfl, ?_, ?_, rfl⟩⟩, ⟨trivial, .inr ⟨_, rfl, ?_, ?_, rfl⟩⟩, ⟨trivial, .inr ⟨_, rfl, ?_, ?_, rfl⟩⟩, ⟨trivial, .inr ⟨_, rfl, ?_, ?_, rfl⟩⟩, ⟨trivial, .inr ⟨_, rfl, ?_, ?_, rfl⟩⟩, ⟨trivial, .inr ⟨_, rfl, ?_, ?_, rfl⟩⟩, ⟨trivial, .inr ⟨_, rfl, ?_, ?_, rfl⟩⟩, ⟨trivial, .inr ⟨_, rfl, ?_, ?_, rfl⟩⟩, ⟨trivial, .inr ⟨_, rfl, ?_, ?_, rfl⟩⟩, ⟨trivial, .inr ⟨_, rfl, ?_, ?_, rfl⟩⟩, ⟨trivial, .inr ⟨_, rfl, ?_, ?_, rfl⟩⟩, ⟨trivial, .inr ⟨_, rfl, ?_, ?_, rfl⟩⟩, ⟨trivial, .inr ⟨_, rfl, ?_, ?_, rfl⟩⟩, ⟨trivial, .inr ⟨_, rfl, ?_, ?_, rfl⟩⟩, trivial⟩
      all_goals first | exact ha | exact u0.1 | exact u1.1 | exact u2.1 | exact u3.1 | exact u4.1 | exact u5.1 | exact u6.1 | exact u7.1 | exact u11.1 | exact u13.1 | exact u15.1 | exact u16.1 | exact u20.1 | exact u22.1 | exact u24.1 | exact u25.1 | rfl | (simp [SV.den, SV.cells, SV.cellss, Bri.sv, goBx, InP.arg, u0, u1, u2, u3, u4, u5, u6, u7, u11, u13, u15, u16, u20, u22, u24, u25, ha, hc, Env.place])
/-- what is told of the heap at first -/
def goOf0 (st : St) : Option (GoP × Bool) := match st.slots with
  | [(2, [], .slr 3 n 3 false), (3, [], .ptr 4 0), (7, [], .kb true), (9, [], .ptr 6 0), (10, [], .ptr 7 0), (11, [], .ptr 16 0), (12, [], .ptr 25 0), (13, [], .ki .i64 0)] => (match st.heap.get 0, st.heap.get 1, st.heap.get 2, st.heap.get 3, st.heap.get 4 with
    | some (.rows (.port ps)), some (.rows (.sent os)), some (.rows (.int .i64 fs)), some (.rows (.frame L)), some bx => (match unBri bx with
      | some (b0, .slr 0 n0 0 false, .slr 1 n1 1 false, .slr 2 n2 2 false) => (match st.heap.get 5, st.heap.get 6, st.heap.get 7 with
        | some (.tab (.place .u64 c [])), some (.agg [.v (.int .i64 N), .ki .i64 Y, .mp 5]), some (.agg [.v (.int .i64 N'), .ki .i64 Y', .v (.slice none 0 0)]) => (match st.heap.get 16, st.heap.get 11, st.heap.get 13, st.heap.get 15, st.heap.get 25, st.heap.get 20, st.heap.get 22, st.heap.get 24 with
          | some ax, some (.rows (.port ps1)), some (.rows (.sent os1)), some (.rows (.int .i64 fs1)), some ay, some (.rows (.port ps2)), some (.rows (.sent os2)), some (.rows (.int .i64 fs2)) => (match unBri ax, unBri ay with
            | some (b1, .slr 11 m1 11 false, .slr 13 m2 13 false, .slr 15 m5 15 false), some (b2, .slr 20 m3 20 false, .slr 22 m4 22 false, .slr 24 m6 24 false) => some (⟨⟨b0, ps, os, fs⟩, n, L, N, c, [], []⟩,
              decide (n0 = ps.length ∧ n1 = os.length ∧ n2 = fs.length ∧ Y = 300 ∧ N' = N ∧ Y' = 300 ∧ ps1 = ps ∧ ps2 = ps ∧ os1 = os ∧ os2 = os ∧ b1 = b0 ∧ b2 = b0 ∧ m1 = ps.length ∧ m2 = os.length ∧ m3 = ps.length ∧ m4 = os.length ∧ fs1 = fs ∧ fs2 = fs ∧ m5 = fs.length ∧ m6 = fs.length))
            | _, _ => none)
          | _, _, _, _, _, _, _, _ => none)
        | _, _, _ => none)
      | _ => none)
    | _, _, _, _, _ => none)
  | _ => none
theorem goOf0_ok {st : St} {p : GoP} (hq : goOf0 st = some (p, true)) (S : Stat) (E : Env) (hE : E.cp 26 = (0, true)) : ReN (S.rd 0 4) E st (S.rd 0 4) E id (goSt (goV p p.c []) false (.v (.int .i64 (0 : Nat)))) := by
  unfold goOf0 at hq
  split at hq
  · rename_i n hsl
    split at hq
    · rename_i ps os fs L bx h0 h1 h2 h3 h4
      split at hq
      · rename_i b0 n0 n1 n2 hb0
        obtain ⟨rfl, _, _⟩ := unBri_ok hb0
        split at hq
        · rename_i c N Y N' Y' h5 h6 h7
          split at hq
          · rename_i ax ps1 os1 fs1 ay ps2 os2 fs2 h16 h11 h13 h15 h25 h20 h22 h24
            split at hq
            · rename_i b1 m1 m2 m5 b2 m3 m4 m6 ha hay
              obtain ⟨rfl, _, _⟩ := unBri_ok ha
              obtain ⟨rfl, _, _⟩ := unBri_ok hay
              simp only [Option.some.injEq, Prod.mk.injEq, decide_eq_true_eq] at hq
              obtain ⟨rfl, rfl, rfl, rfl, rfl, rfl, rfl, rfl, rfl, rfl, rfl, rfl, rfl, rfl, rfl, rfl, rfl, rfl, rfl, rfl, rfl⟩ := hq
              refine ⟨?_, ⟨⟨trivial, .inr ⟨_, h16, rfl, rfl, rfl⟩⟩, ⟨trivial, .inr ⟨_, h11, rfl, rfl, rfl⟩⟩, ⟨trivial, .inr ⟨_, h13, rfl, rfl, rfl⟩⟩, ⟨trivial, .inr ⟨_, h15, rfl, rfl, rfl⟩⟩, ⟨trivial, .inr ⟨_, h25, rfl, rfl, rfl⟩⟩, ⟨trivial, .inr ⟨_, h20, rfl, rfl, rfl⟩⟩, ⟨trivial, .inr ⟨_, h22, rfl, rfl, rfl⟩⟩, ⟨trivial, .inr ⟨_, h24, rfl, rfl, rfl⟩⟩,
                ⟨trivial, .inr ⟨_, h6, rfl, rfl, rfl⟩⟩, ⟨trivial, .inr ⟨_, h5, rfl, rfl, rfl⟩⟩, ⟨trivial, .inr ⟨_, h7, ?_, rfl, rfl⟩⟩, ⟨trivial, .inl rfl⟩, ⟨trivial, .inr ⟨_, h4, rfl, rfl, rfl⟩⟩, ⟨trivial, .inr ⟨_, h0, rfl, rfl, rfl⟩⟩, ⟨trivial, .inr ⟨_, h1, rfl, rfl, rfl⟩⟩, ⟨trivial, .inr ⟨_, h2, rfl, rfl, rfl⟩⟩, ⟨trivial, .inr ⟨_, h3, rfl, rfl, rfl⟩⟩, trivial⟩, rfl⟩
              · rw [hsl]
                exact ⟨⟨_, rfl, rfl⟩, ⟨_, rfl, rfl⟩, ⟨_, rfl, rfl⟩, ⟨_, rfl, rfl⟩, ⟨_, rfl, rfl⟩, ⟨_, rfl, rfl⟩, ⟨_, rfl, rfl⟩, ⟨_, rfl, rfl⟩, trivial⟩
              · simp [SV.cells, SV.cellss, hE, goV, allE, sortE]
            · cases hq
          · cases hq
        · cases hq
      · cases hq
    · cases hq
  · cases hq
def goRng (L : List Frame) : Bool := L.all fun f => decide (0 ≤ f.src ∧ f.src < 18446744073709551616 ∧ 0 ≤ f.dst ∧ f.dst < 18446744073709551616)
def goIn (p : GoP) : Bool := decide (p.L.length = p.n ∧ p.n ≤ 40 ∧ 1 ≤ p.N ∧ p.N ≤ 8 ∧ p.q.ps.length ≤ 8 ∧ p.q.os.length ≤ 20 ∧ p.q.fs.length ≤ 20) && goRng p.L
def goFin : St := ⟨[(7, [], .kb true)], [], 27⟩
noncomputable def gGo : LoopFn := onTrimB 26 goTs fun st => match goOf0 st with
  | some (p, ok) => some (.ite (ok && goIn p) (.ret (.exit 0, goFin)) .bad)
  | none => none
theorem gGo_ok (S : Stat) (ls : List (Nat × LoopFn)) : LoopOk Try.prog (withLoops (cGoB (S.rd 0 4)) ls) (fnOf 14).ntmps (lpOf 14 0) gGo := by
  refine loop_ren cGoB_fam (nx := 26) (fuel := 20) (ts0 := goTs) (π := GoP) (α := Frame) (τ := Nat × PL × Bool) (S.rd 0 4) (goCx S) (fun p i => goCx_ok S p i) (fun p => p.L) (fun p i s => goSt (goV p s.1 s.2.1) s.2.2 (.v (.int .i64 i)))
    (fun p i s => GoI p s.2.1) (fun p i f s => goStep p f s) (.exit 0) (fun p s => goFin) (fun _ _ _ => rfl) (fun _ _ => Nat.le_succ 26) ?_ ?_ ?_
  · intro st o r ho hr
    split at ho
    · rename_i p ok hp
      injection ho with ho
      subst ho
      have hh := Out.ite_bad hr
      obtain ⟨hh1, hh2⟩ := Bool.and_eq_true_iff.1 hh.1
      subst hh1
      obtain ⟨h1, h2⟩ := Bool.and_eq_true_iff.1 hh2
      obtain ⟨g1, g2, g3, g4, g5, g6, g7⟩ := of_decide_eq_true h1
      obtain rfl := Option.some.inj hh.2
      refine ⟨p, (p.c, [], false), ⟨g1, g2, fun f hf => of_decide_eq_true (List.all_eq_true.1 h2 f hf), ⟨g3, g4⟩, g5, g6, g7, .nil (by omega)⟩, rfl, fun E hE => ?_⟩
      rw [goCx_S]
      exact goOf0_ok hp S E hE
    · cases ho
  · intro p i f s hf hinv
    obtain ⟨hi, _⟩ := List.getElem?_eq_some_iff.1 hf
    have hg : p.L.getD i Frame.dflt = f := by simp [List.getD, hf]
    obtain ⟨b, hb, hsel⟩ := go_sel S p s i hinv hi f hg
    refine ⟨goTs, goKs (goF0 f s.2.2) b, _, b, hsel, goI_step hinv, fun E1 E2 hu ha hc => ?_⟩
    rw [goCx_S, goCx_S, wrap_succ (n := 41) (by have := hinv.len; have := hinv.few; omega) (by omega)]
    exact go_re S _ _ b hb _ E1 E2 hu ha hc
  · intro p s hinv
    have hn : ¬ ((p.L.length : Nat) : Int) < p.n := by have := hinv.len; omega
    have hcx : goCx S p p.L.length = cxB S := by
      unfold goCx
      have : p.L.getD p.L.length Frame.dflt = Frame.dflt := by simp [List.getD]
      rw [this]; rfl
    have hov : (goR (cxB S) (goV p s.1 s.2.1) s.2.2 p.L.length (goKs s.2.2 26)).sel = some (.exit 0, goS1 (goV p s.1 s.2.1) s.2.2 26 (.v (.int .i64 p.L.length))) := by
      cases s.2.2 with
      | true => exact Out.way_sel (go_overt S (goV p s.1 s.2.1) p.L.length) (by rw [show (goV p s.1 s.2.1).n = p.n from rfl, decide_eq_false hn])
      | false => exact Out.way_sel (go_overf S (goV p s.1 s.2.1) p.L.length) (by rw [show (goV p s.1 s.2.1).n = p.n from rfl, decide_eq_false hn])
    refine ⟨goTs, goKs s.2.2 26, goS1 (goV p s.1 s.2.1) s.2.2 26 (.v (.int .i64 p.L.length)), 26, ?_, by simp, fun E1 E2 hu ha hc => ?_⟩
    · rw [hcx]; exact hov
    · exact ⟨⟨⟨_, rfl, rfl⟩, trivial⟩, trivial, rfl⟩
noncomputable def goesLs : List (Nat × LoopFn) := [(12, gGo), (26, noLoop)]
theorem goesLs_ok (S : Stat) : ∀ i k g, goesLs[i]? = some (k, g) → LoopOk Try.prog (withLoops (cGoB (S.rd 0 4)) goesLs) (fnOf 14).ntmps (lpOf 14 i) g := by
  intro i k g h
  match i, h with
  | 0, h => injection h with h; injection h with h1 h2; subst h1 h2; exact gGo_ok S _
  | 1, h => injection h with h; injection h with h1 h2; subst h1 h2; exact noLoop_ok
  | i + 2, h => cases h
noncomputable def goesO (S : Stat) (q : InP) (x : Int) (L : List Frame) : Out SV := valF 4 (inline (withLoops (cGoB (S.rd 0 4)) goesLs) 20 (fnOf 14) [q.arg, .v (.int .u8 x), .slr 3 L.length 3 false] (q.heap [(3, .rows (.frame L))]) 4)
theorem goes_many (S : Stat) (q : InP) (x : Int) (L : List Frame) : Out.way [true, true] (goesO S q x L) = some ([rightOk q, !(fewF q) || decide ((L.length : Int) > 40)], .kb true) := by kernel_rfl
def goBad0 (x : Int) : Bool := ((decide (bdX x < 1) || decide (bdX x > 4096)) || false) || false
def goP0 (q : InP) (x : Int) (L : List Frame) : GoP := ⟨q, L.length, L, bdX x, 0, [], []⟩
def goCpT (n : Nat) : Bool := decide (n = n ∧ n ≤ 134217728)
def goOk0 (q : InP) (x : Int) : Bool := decide (q.ps.length = q.ps.length ∧ q.os.length = q.os.length ∧ q.fs.length = q.fs.length ∧ (300 : Int) = 300 ∧ bdX x = bdX x ∧ (300 : Int) = 300 ∧ q.ps = q.ps ∧ q.ps = q.ps ∧ q.os = q.os ∧ q.os = q.os ∧ q.b = q.b ∧ q.b = q.b ∧ q.ps.length = q.ps.length ∧ q.os.length = q.os.length ∧ q.ps.length = q.ps.length ∧ q.os.length = q.os.length ∧ q.fs = q.fs ∧ q.fs = q.fs ∧ q.fs.length = q.fs.length ∧ q.fs.length = q.fs.length)
theorem goes_few (S : Stat) (q : InP) (x : Int) (L : List Frame) : Out.way [true, false, false, true, true, true, true, true, true, true] (goesO S q x L) = some ([rightOk q, !(fewF q) || decide ((L.length : Int) > 40), goBad0 x, goCpT q.ps.length, goCpT q.os.length, goCpT q.fs.length, goCpT q.ps.length, goCpT q.os.length, goCpT q.fs.length, goOk0 q x && goIn (goP0 q x L)], .kb true) := by kernel_rfl
theorem goes_true (S : Stat) (q : InP) (x : Int) (L : List Frame) (hx : 0 ≤ x ∧ x < 256) (hL : ∀ f ∈ L, 0 ≤ f.src ∧ f.src < 18446744073709551616 ∧ 0 ≤ f.dst ∧ f.dst < 18446744073709551616) (hm : q.ps.length ≤ maxLen) : ∃ v, (goesO S q x L).sel = some v ∧ ∀ S E, v.den S E = .bool true := by
  have hmax : maxLen < 9223372036854775808 := of_decide_eq_true (by kernel_rfl)
  have hr : rightOk q = true := decide_eq_true ⟨rfl, by omega⟩
  cases hf : !(fewF q) || decide ((L.length : Int) > 40) with
  | true => exact ⟨_, Out.way_sel (goes_many S q x L) (by rw [hr, hf]), fun _ _ => rfl⟩
  | false =>
    have hf' := hf
    unfold fewF at hf'
    simp only [Bool.or_eq_false_iff, Bool.not_eq_false', Bool.and_eq_true, decide_eq_true_eq, decide_eq_false_iff_not] at hf'
    obtain ⟨⟨⟨⟨⟨_, l0⟩, l1⟩, l2⟩, l3⟩, l4⟩ := hf'
    have hX : 1 ≤ bdX x ∧ bdX x ≤ 8 := by
      unfold bdX
      rw [Int.tmod_eq_emod_of_nonneg hx.1, IntKind.wrap_i64, IntKind.wrap_i64]
      omega
    have hb : goBad0 x = false := by
      unfold goBad0
      rw [decide_eq_false (show ¬ bdX x < 1 by omega), decide_eq_false (show ¬ bdX x > 4096 by omega)]
      rfl
    have c1 : goCpT q.ps.length = true := decide_eq_true ⟨rfl, by omega⟩
    have c2 : goCpT q.os.length = true := decide_eq_true ⟨rfl, by omega⟩
    have c3 : goCpT q.fs.length = true := decide_eq_true ⟨rfl, by omega⟩
    have hk : goOk0 q x = true := decide_eq_true ⟨rfl, rfl, rfl, rfl, rfl, rfl, rfl, rfl, rfl, rfl, rfl, rfl, rfl, rfl, rfl, rfl, rfl, rfl, rfl, rfl⟩
    have hin : goIn (goP0 q x L) = true := by
      unfold goIn
      rw [Bool.and_eq_true]
      exact ⟨decide_eq_true ⟨rfl, by show L.length ≤ 40; omega, hX.1, hX.2, by show q.ps.length ≤ 8; omega, by show q.os.length ≤ 20; omega, by show q.fs.length ≤ 20; omega⟩, List.all_eq_true.2 fun f hf => decide_eq_true (hL f hf)⟩
    exact ⟨_, Out.way_sel (goes_few S q x L) (by rw [hr, hf, hb, c1, c2, c3, hk, hin]; rfl), fun _ _ => rfl⟩
end
end Go.Proofs.Ytfncoeoaniclmaa
