/- fordlaw19.RelayAgain: its walk, and why it holds. -/
import Derived.Test.YtfncoeoaniclmaaRlV
import Derived.Test.YtfncoeoaniclmaaRlE
set_option linter.unusedVariables false
set_option maxRecDepth 100000
namespace Go.Proofs.Ytfncoeoaniclmaa
open Go Go.RowKit

/-- a context with slots that are demanded -/
def sureC (c : Ctx) (l : List (Nat × Bool)) : Ctx := { c with sure := l }
theorem sureC_full {P : Program} {c : Ctx} (h : CtxFull P c) (l : List (Nat × Bool)) : CtxFull P (sureC c l) :=
  { small := h.small, mixed := h.mixed, tys := h.tys, eqb := h.eqb, flds := h.flds, read := h.read, spec := h.spec }
theorem sure_fam {mk : Stat → Ctx} (h : Fam mk) (l : List (Nat × Bool)) : Fam fun S => sureC (mk S) l :=
  { S := h.S, win := h.win, loop := h.loop, full := fun S => sureC_full (h.full S) l }
noncomputable def psAg (S : Stat) : List (Nat × ReadFn) := (34, specRead (spc gInts) S 2) :: (36, specRead (spc gSame) S 3) :: psNv S
theorem psAg_ok (S : Stat) : ReadsOk S [] (psAg S) := .cons (specRead_ok (fun S' => spc_ok ints_ok S') 2) <| .cons (specRead_ok (fun S' => spc_ok same_ok S') 3) <| psNv_ok S
noncomputable def cAg0 (S : Stat) : Ctx := mkCtx S [] (psAg S) (ssA S) 20 4
theorem cAg0_fam : Fam cAg0 := fam_of psAg_ok ssA_ok
noncomputable def cAg (S : Stat) : Ctx := sureC (cAg0 S) [(70, true)]
theorem cAg_fam : Fam cAg := sure_fam cAg0_fam _
noncomputable def againO (S : Stat) (q : InP) (x : Frame) : Out SV := valF 3 (inline (withLoops (cAg (S.rd 0 3)) []) 20 (fnOf 13) [q.arg, .rcd (.frame x)] (q.heap []) 3)
def agT1 (q : InP) (x : Frame) : OtP := ⟨q.b, false, q.ps.length, q.ps, 9, 300, 0, [], x.in_, x.src, x.dst⟩
def agT2 (q : InP) (x : Frame) : OtP := ⟨q.b, false, q.ps.length, q.ps, 9, 300, (agT1 q x).C, (agT1 q x).L, x.in_, x.src, x.dst⟩
def agNo (q : InP) (x : Frame) : Bool := (!(fewF q) || false) || (shl16 x.src == shl16 x.dst)
def agS (q : InP) : SameP := ⟨q.b, q.b, q.ps, q.ps, q.os, q.os, q.fs, q.fs, false, false, false, false, false, false⟩
theorem ag_no (S : Stat) (q : InP) (x : Frame) : Out.way [true, true] (againO S q x) = some ([rightOk q, agNo q x], .kb true) := by kernel_rfl
def cpT (n : Nat) : Bool := decide (n = n ∧ n ≤ 134217728)
def intsT (A B : List Int) : Bool := decide (A.length = A.length ∧ B.length = B.length ∧ A = B ∧ A.length ≤ 67108864)
def sameT (q : InP) : Bool := decide (q.ps.length = q.ps.length ∧ q.os.length = q.os.length ∧ q.fs.length = q.fs.length ∧ q.ps.length = q.ps.length ∧ q.os.length = q.os.length ∧ q.fs.length = q.fs.length ∧ q.ps.length < 9223372036854775808 ∧ q.os.length < 9223372036854775808 ∧ q.fs.length < 9223372036854775808)
def agC (q : InP) (x : Frame) : Bool := intsT (agT1 q x).to (agT2 q x).to && ((decide ((agT2 q x).L.length ≤ 67108864) && true) && (((((agT2 q x).L.length : Int) == ((agT1 q x).L.length : Int)) == true) && (((cpT q.ps.length && (cpT q.os.length && cpT q.fs.length)) && true) && sameT q)))
theorem ag_way (S : Stat) (q : InP) (x : Frame) : Out.way [true, false, true, true, true, true, true, true, true] (againO S q x) = some ([rightOk q, agNo q x, cpT q.ps.length, cpT q.os.length, cpT q.fs.length, (agT1 q x).ok, decide ((agT1 q x).L.length ≤ 67108864), (agT2 q x).ok, agC q x], .v (.bool (sameF (agS q)))) := by kernel_rfl
/-! ### why -/
/-- what is learned again is as it was, but for its stamp -/
theorem again_L (q : InP) (x : Frame) : (agT2 q x).L.length = (agT1 q x).L.length ∧ (∀ k, hasK (agT2 q x).L k = hasK (agT1 q x).L k) ∧ ∀ m, portF (agT2 q x).L m = portF (agT1 q x).L m := by
  have hdead : (agT2 q x).dead = (agT1 q x).dead := rfl
  have hpt : (agT2 q x).pt = (agT1 q x).pt := rfl
  cases hd : (agT1 q x).dead with
  | true =>
    have e : (agT2 q x).L = (agT1 q x).L := by
      have h2 : (agT2 q x).L = (agT2 q x).l := by unfold OtP.L; rw [hdead, hd]; rfl
      rw [h2]; rfl
    rw [e]; exact ⟨rfl, fun _ => rfl, fun _ => rfl⟩
  | false =>
    cases hl : (agT1 q x).pt.flags.learning with
    | false =>
      have e : (agT2 q x).L = (agT1 q x).L := by
        have h2 : (agT2 q x).L = (agT2 q x).l := by unfold OtP.L; rw [hdead, hd, hpt, hl]; rfl
        rw [h2]; rfl
      rw [e]; exact ⟨rfl, fun _ => rfl, fun _ => rfl⟩
    | true =>
      have e1 : (agT1 q x).L = learnL 9 300 0 [] x.src x.in_ := by unfold OtP.L; rw [hd, hl]; rfl
      have e2 : (agT2 q x).L = learnL 9 300 (agT1 q x).C (agT1 q x).L x.src x.in_ := by
        unfold OtP.L
        rw [hdead, hd, hpt, hl]
        show learnL 9 300 (agT1 q x).C (OtP.L (agT1 q x)) x.src x.in_ = _
        unfold OtP.L
        rw [hd, hl]
      have hf1 : fullF 9 [] x.src = false := by simp [fullF]
      cases hb : badF x.src x.in_ with
      | true =>
        have h1 : (agT1 q x).L = [] := by rw [e1]; unfold learnL; rw [hb]; rfl
        have h2 : (agT2 q x).L = [] := by rw [e2, h1]; unfold learnL; rw [hb]; rfl
        rw [h1, h2]; exact ⟨rfl, fun _ => rfl, fun _ => rfl⟩
      | false =>
        have h1 : (agT1 q x).L = [(addrF x.src, 0, ⟨x.in_, 300⟩)] := by
          rw [e1]; unfold learnL; rw [hb, hf1]; simp [putK, tickK, hasK]
        have hf2 : fullF 9 [(addrF x.src, 0, ⟨x.in_, 300⟩)] x.src = false := by simp [fullF]
        have h2 : ∃ c, (agT2 q x).L = [(addrF x.src, c, ⟨x.in_, 300⟩)] := by
          rw [e2, h1]; unfold learnL; rw [hb, hf2]
          exact ⟨_, by simp [putK]; rfl⟩
        obtain ⟨c, h2⟩ := h2
        rw [h1, h2]
        exact ⟨rfl, fun k => by simp [hasK], fun m => by simp [portF, hasK, getK]⟩
theorem again_to (q : InP) (x : Frame) : (agT1 q x).to = (agT2 q x).to := by
  obtain ⟨_, h1, h2⟩ := again_L q x
  have ha : otAll (agT2 q x) (agT2 q x).L = otAll (agT1 q x) (agT1 q x).L := by
    unfold otAll; rw [h1]; rfl
  have hh : ∀ L, otHas (agT2 q x) (agT2 q x).L L = otHas (agT1 q x) (agT1 q x).L L := by
    intro L; unfold otHas; rw [h2]; rfl
  unfold OtP.to
  rw [ha, hh, h2]
  rfl
theorem sameF_self (q : InP) : sameF (agS q) = true := by
  have hz : ∀ {α : Type} (f : α × α → Bool), (∀ a, f (a, a) = false) → ∀ l : List α, (l.zip l).any f = false := by
    intro α f hf l
    induction l with
    | nil => rfl
    | cons a l ih => simp [hf, ih]
  unfold sameF agS
  have h1 : headNe q.b q.b = false := by unfold headNe; simp
  have h2 : lenNe ⟨q.b, q.b, q.ps, q.ps, q.os, q.os, q.fs, q.fs, false, false, false, false, false, false⟩ = false := by unfold lenNe; simp
  rw [h1, h2, hz neqP (fun a => by unfold neqP; simp), hz neqS (fun a => by unfold neqS; simp), hz neqI (fun a => by unfold neqI; simp)]
  rfl
theorem again_true (S : Stat) (q : InP) (x : Frame) (hm : q.ps.length ≤ maxLen) : ∃ v, (againO S q x).sel = some v ∧ ∀ S E, v.den S E = .bool true := by
  have hmax : maxLen < 9223372036854775808 := of_decide_eq_true (by kernel_rfl)
  have hr : rightOk q = true := decide_eq_true ⟨rfl, by omega⟩
  cases hf : agNo q x with
  | true => exact ⟨_, Out.way_sel (ag_no S q x) (by rw [hr, hf]), fun _ _ => rfl⟩
  | false =>
    have hf' := hf
    unfold agNo fewF at hf'
    simp only [Bool.or_eq_false_iff, Bool.not_eq_false', Bool.and_eq_true, decide_eq_true_eq] at hf'
    obtain ⟨⟨⟨⟨⟨⟨_, l0⟩, l1⟩, l2⟩, l3⟩, _⟩, _⟩ := hf'
    have c1 : cpT q.ps.length = true := decide_eq_true ⟨rfl, by omega⟩
    have c2 : cpT q.os.length = true := decide_eq_true ⟨rfl, by omega⟩
    have c3 : cpT q.fs.length = true := decide_eq_true ⟨rfl, by omega⟩
    have t1 : TabOk (agT1 q x).x (agT1 q x).y (agT1 q x).l := .nil (by show (0 : Int) ≤ 9; decide)
    have t2 : TabOk 9 300 (agT1 q x).L := tab_L t1 (by show (1 : Int) ≤ 9; decide) (by show (1 : Int) ≤ 300; decide)
    have o1 : (agT1 q x).ok = true := ok_of t1 ⟨by show (1 : Int) ≤ 9; decide, by show (9 : Int) ≤ 67108864; decide⟩ ⟨rfl, by show q.ps.length ≤ 67108864; omega⟩
    have o2 : (agT2 q x).ok = true := ok_of t2 ⟨by show (1 : Int) ≤ 9; decide, by show (9 : Int) ≤ 67108864; decide⟩ ⟨rfl, by show q.ps.length ≤ 67108864; omega⟩
    have n1 : (agT1 q x).L.length ≤ 9 := by have := t2.len; omega
    have n2 := (again_L q x).1
    have hto := to_len (agT1 q x)
    have hps : (agT1 q x).ps.length = q.ps.length := rfl
    have hi : intsT (agT1 q x).to (agT2 q x).to = true := decide_eq_true ⟨rfl, rfl, again_to q x, by omega⟩
    have hs : sameT q = true := decide_eq_true ⟨rfl, rfl, rfl, rfl, rfl, rfl, by omega, by omega, by omega⟩
    have hc : agC q x = true := by
      unfold agC
      rw [hi, c1, c2, c3, hs, n2, decide_eq_true (show (agT1 q x).L.length ≤ 67108864 by omega)]
      simp
    refine ⟨_, Out.way_sel (ag_way S q x) ?_, fun _ _ => ?_⟩
    · rw [hr, hf, c1, c2, c3, o1, o2, hc, decide_eq_true (show (agT1 q x).L.length ≤ 67108864 by omega)]
    · rw [sameF_self]; rfl
noncomputable def againLs : List (Nat × LoopFn) := []
theorem againLs_ok (S : Stat) : ∀ i k g, againLs[i]? = some (k, g) → LoopOk Try.prog (withLoops (cAg (S.rd 0 3)) againLs) (fnOf 13).ntmps (lpOf 13 i) g := fun i k g h => by simp [againLs] at h
end Go.Proofs.Ytfncoeoaniclmaa
