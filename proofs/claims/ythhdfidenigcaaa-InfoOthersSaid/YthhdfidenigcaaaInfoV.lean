/- fordlaw13.InfoSteps and InfoClass: their walks, and why they hold. -/
import Derived.Test.YthhdfidenigcaaaInfoL
set_option linter.unusedVariables false
set_option maxRecDepth 100000
namespace Go.Proofs.Ythhdfidenigcaaa
open Go Go.RowKit

def iK (q : InP) (k : Int) : Int := (IntKind.i64.wrap k).tmod q.ps.length
def iP (q : InP) (k : Int) : Port := q.ps.getD (iK q k).toNat Port.dflt
def iRng (q : InP) (k : Int) : Bool := decide (q.ps.length = q.ps.length) && (decide (0 ≤ iK q k) && decide (iK q k < q.ps.length))
def iHead (q : InP) : List Bool := [q.len, !(fewF q), !((q.ps.length : Int) == 0)]
noncomputable def istO (S : Stat) (q : InP) (k : Int) : Out SV := valF 3 (inline (withLoops (cV (S.rd 0 3)) []) 20 (fnOf 13) [q.arg, .v (.int .u8 k)] q.heap 3)
theorem ist_no (S : Stat) (q : InP) (k : Int) : Out.way [true, true] (istO S q k) = some ([q.len, !(fewF q)], .kb true) := by kernel_rfl
theorem ist_yes (S : Stat) (q : InP) (k : Int) : Out.way [true, false, true, true, true, true, true, true, true, true, true, true] (istO S q k) =
    some (iHead q ++ q.big ++ q.big ++ [iRng q k, iRng q k, stepTest q (q.ps.set (iK q k).toNat (infoF q.b (iP q k)).1) (q.ps.set (iK q k).toNat (refF q.b (iP q k)).1)],
      .v (.bool ((infoF q.b (iP q k)).2 == (refF q.b (iP q k)).2 && sameF ⟨q.b, q.b, q.ps.set (iK q k).toNat (infoF q.b (iP q k)).1, q.ps.set (iK q k).toNat (refF q.b (iP q k)).1, q.os, q.os, q.fs, q.fs, false, false, false, false, false, false⟩))) := by kernel_rfl
theorem iK_ok {q : InP} {k : Int} (hk : 0 ≤ k ∧ k < 256) (h1 : 1 ≤ q.ps.length) : 0 ≤ iK q k ∧ iK q k < q.ps.length := by
  have hw : IntKind.i64.wrap k = k := by rw [IntKind.wrap_i64]; omega
  unfold iK
  rw [hw, Int.tmod_eq_emod_of_nonneg hk.1]
  exact ⟨Int.emod_nonneg _ (by omega), Int.emod_lt_of_pos _ (by omega)⟩
theorem iP_mem {q : InP} {k : Int} (hk : 0 ≤ k ∧ k < 256) (h1 : 1 ≤ q.ps.length) : iP q k ∈ q.ps := by
  obtain ⟨a, b⟩ := iK_ok hk h1
  unfold iP
  rw [List.getD_eq_getElem?_getD, List.getElem?_eq_getElem (by omega)]
  exact List.getElem_mem _
/-- what a port is of a bridge that may be -/
structure Few (p : Port) : Prop where
  times : fewT p.times = true
  des : fewT p.desTimes = true
  msg : fewT p.msg.times = true
theorem few_port {q : InP} (hf : rightF q.b q.ps = true) {p : Port} (hp : p ∈ q.ps) : Few p := by
  unfold rightF at hf
  simp only [Bool.and_eq_true, Bool.not_eq_true'] at hf
  have := List.any_eq_false.1 hf.2 p hp
  unfold portBad portBads at this
  simp only [List.any_cons, List.any_nil, id, Bool.or_false, Bool.or_eq_true, Bool.not_eq_true', not_or, Bool.not_eq_false] at this
  exact ⟨this.2.2.2.2.2.2.2.2.2.1.1, this.2.2.2.2.2.2.2.2.2.1.2, this.2.2.2.2.2.2.2.2.2.2⟩
theorem wf_u8 {n : Int} (h : (Lit.int .u8 n).wf = true) : 0 ≤ n ∧ n < 256 := by
  simp [Lit.wf, IntKind.min, IntKind.max, IntKind.signed, IntKind.bits] at h
  omega
theorem ist_true (S : Stat) (q : InP) (k : Int) (hl : q.ps.length < 9223372036854775808) (h : q.Wf) (hk : (Lit.int .u8 k).wf = true) : ∃ v, (istO S q k).sel = some v ∧ ∀ S E, v.den S E = .bool true := by
  cases hf : fewF q with
  | false => exact ⟨_, Out.way_sel (ist_no S q k) (by simp [InP.len, hl, hf]), fun _ _ => rfl⟩
  | true =>
    obtain ⟨h1, h2, h3, h4, h5⟩ := fewF_lens hf
    obtain ⟨k1, k2⟩ := iK_ok (wf_u8 hk) h2
    have hm := iP_mem (k := k) (wf_u8 hk) h2
    have he : infoF q.b (iP q k) = refF q.b (iP q k) := step_eq _ _ (class_eq (h.ps _ hm).vec (h.ps _ hm).mvec) (waits_eq (few_port h5 hm).msg)
    have b1 : q.ps.length ≤ 134217728 := by omega
    have b2 : q.os.length ≤ 134217728 := by omega
    have b3 : q.fs.length ≤ 134217728 := by omega
    have d1 : q.os.length < 9223372036854775808 := by omega
    have d2 : q.fs.length < 9223372036854775808 := by omega
    have n0 : ((q.ps.length : Int) == 0) = false := by
      cases hb : ((q.ps.length : Int) == 0) with
      | false => rfl
      | true => have := beq_iff_eq.1 hb; omega
    refine ⟨_, Out.way_sel (ist_yes S q k) (by simp [iHead, InP.len, InP.big, stepTest, Rows.len, iRng, hl, hf, n0, b1, b2, b3, d1, d2, k1, k2]), fun S E => ?_⟩
    simp only [SV.den]
    rw [he, sameF_self]
    simp
theorem hs_nil (S : Stat) (E : Env) (w : World) : HS S E [] w := ⟨fun k x hk => by simp [Heap.get] at hk, fun k x hk => by simp [Heap.get] at hk, fun k k' x x' _ hk => by simp [Heap.get] at hk, fun k x hk => by simp [Heap.get] at hk⟩
noncomputable def iclO (S : Stat) (p : Port) (m : Msg) : Out SV := valF 0 (inline (withLoops (cV (S.rd 0 0)) []) 20 (fnOf 14) [.rcd (.port p), .rcd (.msg m)] [] 0)
theorem icl_walk (S : Stat) (p : Port) (m : Msg) : iclO S p m = .ret (.v (.bool (classI p == refClassI p && classI { p with msg := m } == refClassI { p with msg := m }))) := by kernel_rfl
theorem icl_true (S : Stat) (p : Port) (m : Msg) (hp : p.Wf) (hm : m.vec.Wf) : ∃ v, (iclO S p m).sel = some v ∧ ∀ S E, v.den S E = .bool true := by
  refine ⟨_, by rw [icl_walk]; rfl, fun S E => ?_⟩
  have e1 := class_eq hp.vec hp.mvec
  have e2 : refClassI { p with msg := m } = classI { p with msg := m } := class_eq (p := { p with msg := m }) hp.vec hm
  simp only [SV.den]
  rw [e1, e2]
  simp
end Go.Proofs.Ythhdfidenigcaaa
