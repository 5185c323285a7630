/- fordlaw19.RelayLearns: its walk, and why it holds. -/
import Derived.Test.YtfncoeoaniclmaaRlN
import Derived.Test.YtfncoeoaniclmaaFdbQ
set_option linter.unusedVariables false
set_option maxRecDepth 100000
namespace Go.Proofs.Ytfncoeoaniclmaa
open Go Go.RowKit

noncomputable def psRl (S : Stat) : List (Nat × ReadFn) := (29, pureR pTrue) :: psOt S
theorem psRl_ok (S : Stat) : ReadsOk S [] (psRl S) := .pure (relayAwake S) <| psOt_ok S
noncomputable def cRl (S : Stat) : Ctx := mkCtx S [] (psRl S) (ssA S) 20 4
theorem cRl_fam : Fam cRl := fam_of psRl_ok ssA_ok
def shl16 (s : Int) : Int := IntKind.u64.wrap (s * 2 ^ min (Int.toNat 16) IntKind.u64.bits)
/-! ### numbers -/
theorem addrF_eq {m : Int} (h : 0 ≤ m ∧ m < 18446744073709551616) : addrF m = m % 281474976710656 := by
  unfold addrF
  obtain ⟨k, rfl⟩ : ∃ k : Nat, m = (k : Int) := ⟨m.toNat, by omega⟩
  have hk : k < 18446744073709551616 := by omega
  have h1 : (BitVec.ofInt IntKind.u64.bits (k : Int) &&& BitVec.ofInt IntKind.u64.bits 281474976710655).toNat = k % 281474976710656 := by
    have e1 : BitVec.ofInt IntKind.u64.bits (k : Int) = BitVec.ofNat 64 k := BitVec.ofInt_natCast 64 k
    have e2 : (BitVec.ofInt IntKind.u64.bits 281474976710655) = 281474976710655#64 := by rfl
    rw [e1, e2]
    show (BitVec.ofNat 64 k &&& 281474976710655#64).toNat = _
    rw [bv48, BitVec.toNat_ofNat, Nat.mod_eq_of_lt hk]
  rw [h1]
  have hw : IntKind.u64.wrap ((k % 281474976710656 : Nat) : Int) = ((k % 281474976710656 : Nat) : Int) := by
    have := Nat.mod_lt k (show 0 < 281474976710656 by omega)
    unfold IntKind.wrap
    simp only [IntKind.signed, IntKind.bits]
    simp
    omega
  rw [hw]
  omega
theorem bvo1 (x : BitVec 64) : (x &&& 1#64).toNat = x.toNat % 2 := by
  rw [BitVec.toNat_and]
  exact Nat.and_two_pow_sub_one_eq_mod x.toNat 1
theorem manyF_eq {m : Int} (h : 0 ≤ m ∧ m < 18446744073709551616) : manyF m = ((m / 1099511627776) % 2 == 1) := by
  obtain ⟨k, rfl⟩ : ∃ k : Nat, m = (k : Int) := ⟨m.toNat, by omega⟩
  unfold manyF
  have hp : (2 : Int) ^ min (Int.toNat 40) IntKind.u64.bits = 1099511627776 := by decide
  rw [hp, Int.fdiv_eq_ediv_of_nonneg _ (by omega)]
  have hq : ((k : Int) / 1099511627776) = ((k / 1099511627776 : Nat) : Int) := by omega
  rw [hq]
  have h1 : (BitVec.ofInt IntKind.u64.bits ((k / 1099511627776 : Nat) : Int) &&& BitVec.ofInt IntKind.u64.bits 1).toNat = (k / 1099511627776) % 2 := by
    have e1 : BitVec.ofInt IntKind.u64.bits ((k / 1099511627776 : Nat) : Int) = BitVec.ofNat 64 (k / 1099511627776) := BitVec.ofInt_natCast 64 _
    have e2 : (BitVec.ofInt IntKind.u64.bits 1) = 1#64 := by rfl
    rw [e1, e2]
    show (BitVec.ofNat 64 (k / 1099511627776) &&& 1#64).toNat = _
    have hk : k < 2 ^ 64 := by show k < 18446744073709551616; omega
    have hlt : k / 1099511627776 < 2 ^ 64 := Nat.lt_of_le_of_lt (Nat.div_le_self _ _) hk
    rw [bvo1, BitVec.toNat_ofNat, Nat.mod_eq_of_lt hlt]
  rw [h1]
  have hw : IntKind.u64.wrap ((k / 1099511627776 % 2 : Nat) : Int) = ((k / 1099511627776 % 2 : Nat) : Int) := by
    unfold IntKind.wrap
    simp only [IntKind.signed, IntKind.bits]
    simp
    omega
  rw [hw]
  congr 1
theorem many_addr {m : Int} (h : 0 ≤ m ∧ m < 18446744073709551616) : manyF (addrF m) = manyF m := by
  have hr := addrF_range m
  rw [manyF_eq ⟨hr.1, by omega⟩, manyF_eq h, addrF_eq h]
  congr 1
  omega
theorem shl16_eq {m : Int} (h : 0 ≤ m ∧ m < 18446744073709551616) : shl16 m = addrF m * 65536 := by
  rw [addrF_eq h]
  unfold shl16
  have hp : (2 : Int) ^ min (Int.toNat 16) IntKind.u64.bits = 65536 := by decide
  rw [hp]
  unfold IntKind.wrap
  simp only [IntKind.signed, IntKind.bits]
  simp
  omega
/-! ### ports -/
theorem oth_mem {c x : Int} : ∀ {L : List Port} {i : Nat}, x ∈ oth c i L ↔ ∃ j, j < L.length ∧ x = ((i + j : Nat) : Int) ∧ x ≠ c ∧ openP (L.getD j Port.dflt) = true
  | [], i => by simp [oth]
  | p :: r, i => by
    have ih := oth_mem (c := c) (x := x) (L := r) (i := i + 1)
    have step : (∃ j, j < (p :: r).length ∧ x = ((i + j : Nat) : Int) ∧ x ≠ c ∧ openP ((p :: r).getD j Port.dflt) = true) ↔ (x = (i : Int) ∧ x ≠ c ∧ openP p = true) ∨ ∃ j, j < r.length ∧ x = ((i + 1 + j : Nat) : Int) ∧ x ≠ c ∧ openP (r.getD j Port.dflt) = true := by
      constructor
      · rintro ⟨j, h1, h2, h3, h4⟩
        cases j with
        | zero => exact .inl ⟨h2, h3, h4⟩
        | succ j => exact .inr ⟨j, by simpa using h1, by rw [h2]; omega, h3, h4⟩
      · rintro (⟨h1, h2, h3⟩ | ⟨j, h1, h2, h3, h4⟩)
        · exact ⟨0, by simp, h1, h2, h3⟩
        · exact ⟨j + 1, by simpa using h1, by rw [h2]; omega, h3, h4⟩
    rw [step, ← ih, oth]
    by_cases hc : ((i : Int) != c && openP p) = true
    · rw [if_pos hc, List.mem_cons]
      simp only [Bool.and_eq_true, bne_iff_ne, ne_eq] at hc
      constructor
      · rintro (rfl | h)
        · exact .inl ⟨rfl, hc.1, hc.2⟩
        · exact .inr h
      · rintro (⟨h, _, _⟩ | h)
        · exact .inl h
        · exact .inr h
    · rw [if_neg hc]
      simp only [Bool.and_eq_true, bne_iff_ne, ne_eq, not_and] at hc
      constructor
      · exact .inr
      · rintro (⟨rfl, h2, h3⟩ | h)
        · exact absurd h3 (hc h2)
        · exact h
end Go.Proofs.Ytfncoeoaniclmaa
