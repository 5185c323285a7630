/- fordlaw19.RelayAlone: its walk, and why it holds. -/
import Derived.Test.YtfncoeoaniclmaaRlL
set_option linter.unusedVariables false
set_option maxRecDepth 100000
namespace Go.Proofs.Ytfncoeoaniclmaa
open Go Go.RowKit

noncomputable def alO (S : Stat) (n i : Int) (L : Bool) (s d : Int) : Out SV := valF 0 (inline (withLoops (cRl (S.rd 0 0)) []) 20 (fnOf 12) [.v (.int .u8 n), .v (.int .u8 i), .v (.bool L), .v (.int .u32 s), .v (.int .u32 d)] [] 0)
def alP1 (l : List Port) (a : Nat) (L : Bool) : List Port := l.set a { l.getD a Port.dflt with flags := { (l.getD a Port.dflt).flags with learning := L } }
def alP2 (l : List Port) (a : Nat) : List Port := l.set a { l.getD a Port.dflt with flags := { (l.getD a Port.dflt).flags with forwarding := false } }
def alPs (n i : Int) (L : Bool) : List Port := alP2 (alP1 (opPs (lrK n)) (lrA n i).toNat L) (lrA n i).toNat
def al1 (s : Int) : Int := IntKind.u64.wrap (IntKind.u64.wrap s + 1)
def alT (n i : Int) (L : Bool) (s d : Int) : OtP := ⟨opB, false, lrK n, alPs n i L, 20, 300, 0, [], lrA n i, al1 s, al1 d⟩
def alIn (n i : Int) : Bool := decide (0 ≤ lrA n i) && decide (lrA n i < lrK n)
theorem al_way (S : Stat) (n i : Int) (L : Bool) (s d : Int) : Out.way [true, true, true, true, true, true, true, false] (alO S n i L s d) = some ([decide (0 ≤ lm n ∧ lm n ≤ 64), !((lrK n : Int) == 0), alIn n i, decide ((lrA n i).toNat < (opPs (lrK n)).length), alIn n i, decide ((lrA n i).toNat < (alP1 (opPs (lrK n)) (lrA n i).toNat L).length), (alT n i L s d).ok,
    (hasK (alT n i L s d).L (addrF (al1 s)) != L) || (hasK (alT n i L s d).L (addrF (al1 s)) && (portF (alT n i L s d).L (al1 s) != lrA n i))], .v (.bool (((alT n i L s d).to.length : Int) == 0))) := by kernel_rfl

/-! ### why it is remembered, but goes nowhere -/
theorem al_pt {K : Nat} {a : Nat} (h : a < K) (L : Bool) : (alP2 (alP1 (opPs K) a L) a).length = K ∧ ∃ p : Port, (alP2 (alP1 (opPs K) a L) a).getD a Port.dflt = p ∧ p.enabled = true ∧ p.flags.learning = L ∧ p.flags.forwarding = false := by
  have h1 : (alP1 (opPs K) a L).length = K := by unfold alP1; rw [List.length_set, opPs_len]
  have h2 : (alP2 (alP1 (opPs K) a L) a).length = K := by unfold alP2; rw [List.length_set, h1]
  refine ⟨h2, _, rfl, ?_⟩
  have hl : a < (opPs K).length := by rw [opPs_len]; exact h
  have g1 : (alP1 (opPs K) a L).getD a Port.dflt = { opP a with flags := { (opP a).flags with learning := L } } := by
    unfold alP1
    rw [opPs_get h]
    simp [List.getD, List.getElem?_set, hl]
  have hl1 : a < (alP1 (opPs K) a L).length := by rw [h1]; exact h
  have g2 : (alP2 (alP1 (opPs K) a L) a).getD a Port.dflt = { (alP1 (opPs K) a L).getD a Port.dflt with flags := { ((alP1 (opPs K) a L).getD a Port.dflt).flags with forwarding := false } } := by
    unfold alP2
    simp [List.getD, List.getElem?_set, hl1]
  rw [g2, g1]
  exact ⟨rfl, rfl, rfl⟩
theorem al1_eq {s : Int} (h : 0 ≤ s ∧ s < 4294967296) : al1 s = s + 1 := by
  unfold al1
  rw [IntKind.wrap_u64, IntKind.wrap_u64]; omega
theorem alone_true (S : Stat) {n i s d : Int} {L : Bool} (hn : 0 ≤ n ∧ n < 256) (hi : 0 ≤ i ∧ i < 256) (hs : 0 ≤ s ∧ s < 4294967296) (hd : 0 ≤ d ∧ d < 4294967296) :
    ∃ v, (alO S n i L s d).sel = some v ∧ ∀ S E, v.den S E = .bool true := by
  obtain ⟨hm, hK⟩ := lrK_eq hn
  have hA := lrA_eq hn hi
  have h64 : decide (0 ≤ lm n ∧ lm n ≤ 64) = true := decide_eq_true (by omega)
  have hz : (!((lrK n : Int) == 0)) = true := by simp; omega
  have ha : (lrA n i).toNat < lrK n := by omega
  obtain ⟨hlen, p, hp, hp1, hp2, hp3⟩ := al_pt ha L
  have hin : alIn n i = true := by unfold alIn; simp; omega
  have hl1 : (alP1 (opPs (lrK n)) (lrA n i).toNat L).length = lrK n := by unfold alP1; rw [List.length_set, opPs_len]
  have es : addrF (al1 s) = s + 1 := by rw [al1_eq hs, addrF_eq (by omega)]; omega
  have ed : addrF (al1 d) = d + 1 := by rw [al1_eq hd, addrF_eq (by omega)]; omega
  have hres : resF (al1 d) = false := by
    unfold resF
    rw [ed, show (2 : Int) ^ min (Int.toNat 4) IntKind.u64.bits = 16 from by decide, Int.fdiv_eq_ediv_of_nonneg _ (by omega)]
    rw [beq_eq_false_iff_ne]; omega
  have hout : (alT n i L s d).out = false := by
    unfold OtP.out
    simp only [Bool.or_eq_false_iff, decide_eq_false_iff_not]
    show ¬ lrA n i < 0 ∧ ¬ lrA n i ≥ (lrK n : Int)
    omega
  have hpt : (alT n i L s d).pt = p := hp
  have hdead : (alT n i L s d).dead = false := by
    unfold OtP.dead
    rw [hout, hpt, hp1, show (alT n i L s d).d = al1 d from rfl, hres]; rfl
  have hmany : manyF (s + 1) = false := by
    rw [manyF_eq (by omega), beq_eq_false_iff_ne]; omega
  have hbad : badF (al1 s) (lrA n i) = false := by
    unfold badF
    rw [es, hmany]
    have h1 : decide (lrA n i < 0) = false := decide_eq_false (by omega)
    have h2 : (s + 1 == 0) = false := by rw [beq_eq_false_iff_ne]; omega
    rw [h1, h2]; rfl
  have hL : (alT n i L s d).L = if L = true then [(addrF (al1 s), 0, ⟨lrA n i, 300⟩)] else [] := by
    unfold OtP.L
    rw [hdead, hpt, hp2]
    show (if false = true then [] else if L = true then learnL 20 300 0 [] (al1 s) (lrA n i) else []) = _
    rw [learn_nil, hbad]; simp
  have hto : (alT n i L s d).to = [] := by
    unfold OtP.to
    rw [hdead, hpt]
    have : openP p = false := by unfold openP; rw [hp3, Bool.and_false]
    rw [this]; simp
  have hok : (alT n i L s d).ok = true := by
    unfold OtP.ok OtP.go
    have h1 : (decide ((alT n i L s d).ps.length = (alT n i L s d).n ∧ (alT n i L s d).n ≤ 67108864)) = true := decide_eq_true ⟨hlen, by show lrK n ≤ 67108864; omega⟩
    have h2 : fullF (alT n i L s d).x (alT n i L s d).l (alT n i L s d).s = false := by
      show fullF 20 [] (al1 s) = false
      simp [fullF]
    rw [h1, h2]; simp
  refine ⟨_, Out.way_sel (al_way S n i L s d) ?_, fun _ _ => ?_⟩
  · rw [h64, hz, hin, hok, hL, hl1, opPs_len, decide_eq_true ha]
    cases L <;> simp [hasK, portF, getK]
  · rw [hto]; simp [SV.den]
theorem open_whole_bool {H : Type} {enc : TypeId × Value → H} {w : World} {base : Nat} {spare : Nat → Bool} {held : Bool} {t : TypeId} {v : Value} {d : DataW H} {p : List MemPlace}
    (hu : Try.prog.underlying t = some .bool) (hok : ∃ b, Value.okWide Try.prog w .any b t v) (h : DataW.Trod enc Try.prog w base spare held t v d p) : ∃ n, v = .bool n ∧ True := by
  obtain ⟨b, hok⟩ := hok
  obtain ⟨n, e, _⟩ := open_bool hu hok h
  exact ⟨n, e, trivial⟩
theorem range_u32 {n : Int} (h : (Lit.int .u32 n).wf = true) : 0 ≤ n ∧ n < 4294967296 := by
  simp [Lit.wf, IntKind.min, IntKind.max, IntKind.signed, IntKind.bits] at h
  omega
end Go.Proofs.Ytfncoeoaniclmaa
