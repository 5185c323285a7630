/- fordlaw19.RelayLearns: its walk, and why it holds. -/
import Derived.Test.YtfncoeoaniclmaaRlN
import Derived.Test.YtfncoeoaniclmaaFdbQ
set_option linter.unusedVariables false
set_option maxRecDepth 100000
namespace Go.Proofs.Ytfncoeoaniclmaa
open Go Go.RowKit

noncomputable def psRl (S : Stat) : List (Nat × ReadFn) := (29, pureR pTrue) :: psOt S
theorem psRl_ok (S : Stat) : ReadsOk S [] (psRl S) := .pure (relayAwake S) <| psOt_ok S
noncomputable def cRl (S : Stat) : Ctx := mkCtx S [] (psRl S) (ssA S) 20 4
theorem cRl_fam : Fam cRl := fam_of psRl_ok ssA_ok
noncomputable def lrO (S : Stat) (n i k s d : Int) : Out SV := valF 0 (inline (withLoops (cRl (S.rd 0 0)) []) 20 (fnOf 11) [.v (.int .u8 n), .v (.int .u8 i), .v (.int .u8 k), .v (.int .u64 s), .v (.int .u64 d)] [] 0)
def lm (n : Int) : Int := IntKind.i64.wrap (2 + IntKind.i64.wrap (n.tmod 7))
def lrK (n : Int) : Nat := (lm n).toNat
def lrA (n i : Int) : Int := (IntKind.i64.wrap i).tmod (lrK n)
def lr1 (n i s d : Int) : OtP := ⟨opB, false, lrK n, opPs (lrK n), 20, 300, 0, [], lrA n i, s, d⟩
def lr2 (n i k s d : Int) : OtP := ⟨opB, false, lrK n, opPs (lrK n), 20, 300, (lr1 n i s d).C, (lr1 n i s d).L, lrA n k, d, s⟩
def shl16 (s : Int) : Int := IntKind.u64.wrap (s * 2 ^ min (Int.toNat 16) IntKind.u64.bits)
def lrN (n : Int) : Int := IntKind.i64.wrap ((lrK n : Int) - 1)
def lrT0 (n i k s d : Int) : List Bool := [decide (0 ≤ lm n ∧ lm n ≤ 64), resF s || resF d, !((lrK n : Int) == 0), !((lrK n : Int) == 0), (lr1 n i s d).ok, (lr2 n i k s d).ok,
  (((lr1 n i s d).to.length : Int) != lrN n) && (((shl16 s != shl16 d) || (shl16 s == 0)) || manyF s)]
def lrG (s : Int) : Bool := (shl16 s == 0) || manyF s
theorem lr_res (S : Stat) (n i k s d : Int) : Out.way [true, true] (lrO S n i k s d) = some ([decide (0 ≤ lm n ∧ lm n ≤ 64), resF s || resF d], .kb true) := by kernel_rfl
theorem lr_many (S : Stat) (n i k s d : Int) : Out.way [true, false, true, true, true, true, false, true] (lrO S n i k s d) = some (lrT0 n i k s d ++ [lrG s], .v (.bool (((lr2 n i k s d).to.length : Int) == lrN n))) := by kernel_rfl
theorem lr_back (S : Stat) (n i k s d : Int) : Out.way [true, false, true, true, true, true, false, false, true] (lrO S n i k s d) = some (lrT0 n i k s d ++ [lrG s, lrA n i == lrA n k], .v (.bool (((lr2 n i k s d).to.length : Int) == 0))) := by kernel_rfl
theorem lr_same (S : Stat) (n i k s d : Int) : Out.way [true, false, true, true, true, true, false, false, false, true] (lrO S n i k s d) = some (lrT0 n i k s d ++ [lrG s, lrA n i == lrA n k, shl16 s == shl16 d], .v (.bool (((lr2 n i k s d).to.length : Int) == 0))) := by kernel_rfl
def lrB (n i k s d : Int) : List Int := (lr2 n i k s d).to
theorem lr_found (S : Stat) (n i k s d : Int) : Out.way [true, false, true, true, true, true, false, false, false, false, false, true, true, false, false] (lrO S n i k s d) = some (lrT0 n i k s d ++ [lrG s, lrA n i == lrA n k, shl16 s == shl16 d, ((lrB n i k s d).length : Int) != 1, decide ((0 : Int) < (lrB n i k s d).length),
    (decide ((0 : Int) ≤ 0) && decide ((0 : Int) < (lrB n i k s d).length)) && decide (0 < (lrB n i k s d).length), (lrB n i k s d).getD 0 0 != lrA n i, decide ((1 : Int) < (lrB n i k s d).length)], .kb true) := by kernel_rfl

/-! ### numbers -/
theorem addrF_eq {m : Int} (h : 0 ≤ m ∧ m < 18446744073709551616) : addrF m = m % 281474976710656 := by
  unfold addrF
  obtain ⟨k, rfl⟩ : ∃ k : Nat, m = (k : Int) := ⟨m.toNat, by omega⟩
  have hk : k < 18446744073709551616 := by omega
  have h1 : (BitVec.ofInt IntKind.u64.bits (k : Int) &&& BitVec.ofInt IntKind.u64.bits 281474976710655).toNat = k % 281474976710656 := by
    have e1 : BitVec.ofInt IntKind.u64.bits (k : Int) = BitVec.ofNat 64 k := BitVec.ofInt_natCast 64 k
    have e2 : (BitVec.ofInt IntKind.u64.bits 281474976710655) = 281474976710655#64 := by rfl
    rw [e1, e2]
    show (BitVec.ofNat 64 k &&& 281474976710655#64).toNat = _
    rw [bv48, BitVec.toNat_ofNat, Nat.mod_eq_of_lt hk]
  rw [h1]
  have hw : IntKind.u64.wrap ((k % 281474976710656 : Nat) : Int) = ((k % 281474976710656 : Nat) : Int) := by
    have := Nat.mod_lt k (show 0 < 281474976710656 by omega)
    unfold IntKind.wrap
    simp only [IntKind.signed, IntKind.bits]
    simp
    omega
  rw [hw]
  omega
theorem bvo1 (x : BitVec 64) : (x &&& 1#64).toNat = x.toNat % 2 := by
  rw [BitVec.toNat_and]
  exact Nat.and_two_pow_sub_one_eq_mod x.toNat 1
theorem manyF_eq {m : Int} (h : 0 ≤ m ∧ m < 18446744073709551616) : manyF m = ((m / 1099511627776) % 2 == 1) := by
  obtain ⟨k, rfl⟩ : ∃ k : Nat, m = (k : Int) := ⟨m.toNat, by omega⟩
  unfold manyF
  have hp : (2 : Int) ^ min (Int.toNat 40) IntKind.u64.bits = 1099511627776 := by decide
  rw [hp, Int.fdiv_eq_ediv_of_nonneg _ (by omega)]
  have hq : ((k : Int) / 1099511627776) = ((k / 1099511627776 : Nat) : Int) := by omega
  rw [hq]
  have h1 : (BitVec.ofInt IntKind.u64.bits ((k / 1099511627776 : Nat) : Int) &&& BitVec.ofInt IntKind.u64.bits 1).toNat = (k / 1099511627776) % 2 := by
    have e1 : BitVec.ofInt IntKind.u64.bits ((k / 1099511627776 : Nat) : Int) = BitVec.ofNat 64 (k / 1099511627776) := BitVec.ofInt_natCast 64 _
    have e2 : (BitVec.ofInt IntKind.u64.bits 1) = 1#64 := by rfl
    rw [e1, e2]
    show (BitVec.ofNat 64 (k / 1099511627776) &&& 1#64).toNat = _
    have hk : k < 2 ^ 64 := by show k < 18446744073709551616; omega
    have hlt : k / 1099511627776 < 2 ^ 64 := Nat.lt_of_le_of_lt (Nat.div_le_self _ _) hk
    rw [bvo1, BitVec.toNat_ofNat, Nat.mod_eq_of_lt hlt]
  rw [h1]
  have hw : IntKind.u64.wrap ((k / 1099511627776 % 2 : Nat) : Int) = ((k / 1099511627776 % 2 : Nat) : Int) := by
    unfold IntKind.wrap
    simp only [IntKind.signed, IntKind.bits]
    simp
    omega
  rw [hw]
  congr 1
theorem many_addr {m : Int} (h : 0 ≤ m ∧ m < 18446744073709551616) : manyF (addrF m) = manyF m := by
  have hr := addrF_range m
  rw [manyF_eq ⟨hr.1, by omega⟩, manyF_eq h, addrF_eq h]
  congr 1
  omega
theorem shl16_eq {m : Int} (h : 0 ≤ m ∧ m < 18446744073709551616) : shl16 m = addrF m * 65536 := by
  rw [addrF_eq h]
  unfold shl16
  have hp : (2 : Int) ^ min (Int.toNat 16) IntKind.u64.bits = 65536 := by decide
  rw [hp]
  unfold IntKind.wrap
  simp only [IntKind.signed, IntKind.bits]
  simp
  omega
/-! ### ports -/
theorem oth_mem {c x : Int} : ∀ {L : List Port} {i : Nat}, x ∈ oth c i L ↔ ∃ j, j < L.length ∧ x = ((i + j : Nat) : Int) ∧ x ≠ c ∧ openP (L.getD j Port.dflt) = true
  | [], i => by simp [oth]
  | p :: r, i => by
    have ih := oth_mem (c := c) (x := x) (L := r) (i := i + 1)
    have step : (∃ j, j < (p :: r).length ∧ x = ((i + j : Nat) : Int) ∧ x ≠ c ∧ openP ((p :: r).getD j Port.dflt) = true) ↔ (x = (i : Int) ∧ x ≠ c ∧ openP p = true) ∨ ∃ j, j < r.length ∧ x = ((i + 1 + j : Nat) : Int) ∧ x ≠ c ∧ openP (r.getD j Port.dflt) = true := by
      constructor
      · rintro ⟨j, h1, h2, h3, h4⟩
        cases j with
        | zero => exact .inl ⟨h2, h3, h4⟩
        | succ j => exact .inr ⟨j, by simpa using h1, by rw [h2]; omega, h3, h4⟩
      · rintro (⟨h1, h2, h3⟩ | ⟨j, h1, h2, h3, h4⟩)
        · exact ⟨0, by simp, h1, h2, h3⟩
        · exact ⟨j + 1, by simpa using h1, by rw [h2]; omega, h3, h4⟩
    rw [step, ← ih, oth]
    by_cases hc : ((i : Int) != c && openP p) = true
    · rw [if_pos hc, List.mem_cons]
      simp only [Bool.and_eq_true, bne_iff_ne, ne_eq] at hc
      constructor
      · rintro (rfl | h)
        · exact .inl ⟨rfl, hc.1, hc.2⟩
        · exact .inr h
      · rintro (⟨h, _, _⟩ | h)
        · exact .inl h
        · exact .inr h
    · rw [if_neg hc]
      simp only [Bool.and_eq_true, bne_iff_ne, ne_eq, not_and] at hc
      constructor
      · exact .inr
      · rintro (⟨rfl, h2, h3⟩ | h)
        · exact absurd h3 (hc h2)
        · exact h
theorem oth_lens {c : Int} : ∀ (L : List Port) (i : Nat), (∀ p ∈ L, openP p = true) → (c < i → (oth c i L).length = L.length) ∧ ((i : Int) ≤ c → c < i + L.length → (oth c i L).length + 1 = L.length)
  | [], i, _ => ⟨fun _ => rfl, fun h1 h2 => by simp at h2; omega⟩
  | p :: r, i, h => by
    have hp := h p List.mem_cons_self
    obtain ⟨h1, h2⟩ := oth_lens (c := c) r (i + 1) (fun q hq => h q (List.mem_cons_of_mem _ hq))
    have e : oth c i (p :: r) = if (i : Int) = c then oth c (i + 1) r else (i : Int) :: oth c (i + 1) r := by
      rw [oth, hp]
      by_cases hic : (i : Int) = c
      · simp [hic]
      · simp [hic]
    refine ⟨fun hc => ?_, fun ha hb => ?_⟩
    · rw [e, if_neg (by omega), List.length_cons, h1 (by omega), List.length_cons]
    · rw [e]
      by_cases hic : (i : Int) = c
      · rw [if_pos hic, h1 (by omega), List.length_cons]
      · rw [if_neg hic, List.length_cons, h2 (by omega) (by simp only [List.length_cons] at hb; omega), List.length_cons]
theorem opPs_open (n : Nat) : ∀ p ∈ opPs n, openP p = true := by
  intro p hp
  obtain ⟨j, _, rfl⟩ := List.mem_map.1 hp
  rfl
theorem opPs_get {n j : Nat} (h : j < n) : (opPs n).getD j Port.dflt = opP j := by
  unfold opPs
  simp [List.getD, List.getElem?_map, List.getElem?_range h]

/-! ### why who was heard is found -/
theorem lrK_eq {n : Int} (h : 0 ≤ n ∧ n < 256) : lm n = 2 + n % 7 ∧ (lrK n : Int) = 2 + n % 7 := by
  have h1 : lm n = 2 + n % 7 := by
    unfold lm
    rw [Int.tmod_eq_emod_of_nonneg h.1, IntKind.wrap_i64, IntKind.wrap_i64]
    omega
  refine ⟨h1, ?_⟩
  unfold lrK
  rw [h1]; omega
theorem lrA_eq {n i : Int} (hn : 0 ≤ n ∧ n < 256) (h : 0 ≤ i ∧ i < 256) : 0 ≤ lrA n i ∧ lrA n i < lrK n := by
  have hk := (lrK_eq hn).2
  unfold lrA
  have hw : IntKind.i64.wrap i = i := by rw [IntKind.wrap_i64]; omega
  rw [hw, Int.tmod_eq_emod_of_nonneg h.1]
  exact ⟨Int.emod_nonneg _ (by omega), Int.emod_lt_of_pos _ (by omega)⟩
/-- a port of an open bridge: what is learned, where it goes -/
theorem lr_port {K : Nat} {a : Int} (h : 0 ≤ a ∧ a < K) (c : Nat) (l : PL) (s d : Int) (hd : resF d = false) :
    (⟨opB, false, K, opPs K, 20, 300, c, l, a, s, d⟩ : OtP).dead = false ∧ (⟨opB, false, K, opPs K, 20, 300, c, l, a, s, d⟩ : OtP).L = learnL 20 300 c l s a ∧ (⟨opB, false, K, opPs K, 20, 300, c, l, a, s, d⟩ : OtP).C = learnC 20 300 c l s a ∧
    (⟨opB, false, K, opPs K, 20, 300, c, l, a, s, d⟩ : OtP).to = if (!(hasK (learnL 20 300 c l s a) (addrF d)) || manyF d) = true then oth a 0 (opPs K) else if (oth a 0 (opPs K)).contains (portF (learnL 20 300 c l s a) d) = true then [portF (learnL 20 300 c l s a) d] else [] := by
  have hpt : (⟨opB, false, K, opPs K, 20, 300, c, l, a, s, d⟩ : OtP).pt = opP a.toNat := by
    show (opPs K).getD a.toNat Port.dflt = _
    exact opPs_get (by omega)
  have hout : (⟨opB, false, K, opPs K, 20, 300, c, l, a, s, d⟩ : OtP).out = false := by
    unfold OtP.out
    simp only [Bool.or_eq_false_iff, decide_eq_false_iff_not]
    omega
  have hdead : (⟨opB, false, K, opPs K, 20, 300, c, l, a, s, d⟩ : OtP).dead = false := by
    unfold OtP.dead
    rw [hout, hpt, hd]; rfl
  have hL : (⟨opB, false, K, opPs K, 20, 300, c, l, a, s, d⟩ : OtP).L = learnL 20 300 c l s a := by
    unfold OtP.L
    rw [hdead, hpt]; rfl
  refine ⟨hdead, hL, by unfold OtP.C; rw [hdead, hpt]; rfl, ?_⟩
  unfold OtP.to
  rw [hdead, hpt, hL]
  have e1 : openP (opP a.toNat) = true := rfl
  rw [e1]
  unfold otAll otHas
  rw [idxI_mem]
  rfl
theorem lr_ok {K : Nat} (hK : K ≤ 8) {a : Int} (c : Nat) {l : PL} (s d : Int) (hl : l.length ≤ 1) : (⟨opB, false, K, opPs K, 20, 300, c, l, a, s, d⟩ : OtP).ok = true := by
  unfold OtP.ok OtP.go
  have h1 : (decide ((opPs K).length = K ∧ K ≤ 67108864)) = true := decide_eq_true ⟨opPs_len K, by omega⟩
  have h2 : fullF 20 l s = false := by
    unfold fullF
    have : ((l.length : Int) == 20) = false := by simp; omega
    rw [this]; simp
  show (decide ((opPs K).length = K ∧ K ≤ 67108864) && (_ || (_ || (decide (1 ≤ l.length ∧ l.length ≤ 67108864) || (badF s a || !(fullF 20 l s)))))) = true
  rw [h1, h2]; simp

open Go Go.RowKit

theorem learn_nil {s A : Int} : learnL 20 300 0 [] s A = if badF s A = true then [] else [(addrF s, 0, ⟨A, 300⟩)] := by
  unfold learnL
  have h : fullF 20 [] s = false := by simp [fullF]
  rw [h]
  simp [putK, tickK, hasK]
theorem learn_one {c : Nat} {e : Int × Nat × Place} {d C : Int} : learnL 20 300 c [e] d C = if badF d C = true then [e] else putK [e] (addrF d) c ⟨C, 300⟩ := by
  unfold learnL
  have h : fullF 20 [e] d = false := by simp [fullF]
  rw [h]
  simp
theorem lrG_bad {s A : Int} (hs : 0 ≤ s ∧ s < 18446744073709551616) (hA : 0 ≤ A) : badF s A = lrG s := by
  unfold badF lrG
  rw [shl16_eq hs, many_addr hs]
  have h1 : decide (A < 0) = false := decide_eq_false (by omega)
  have h2 : (addrF s * 65536 == 0) = (addrF s == 0) := by
    rw [Bool.eq_iff_iff, beq_iff_eq, beq_iff_eq]; omega
  rw [h1, h2, Bool.or_false]
theorem shl_same {s d : Int} (hs : 0 ≤ s ∧ s < 18446744073709551616) (hd : 0 ≤ d ∧ d < 18446744073709551616) : (shl16 s == shl16 d) = (addrF s == addrF d) := by
  rw [shl16_eq hs, shl16_eq hd, Bool.eq_iff_iff, beq_iff_eq, beq_iff_eq]; omega
theorem oth_all {K : Nat} {a : Int} (h : 0 ≤ a ∧ a < K) : ((oth a 0 (opPs K)).length : Int) = (K : Int) - 1 := by
  have := (oth_lens (c := a) (opPs K) 0 (opPs_open K)).2 (by omega) (by rw [opPs_len]; omega)
  rw [opPs_len] at this
  omega
theorem oth_has {K : Nat} {a c : Int} (hc : 0 ≤ c ∧ c < K) : (oth a 0 (opPs K)).contains c = (c != a) := by
  rw [Bool.eq_iff_iff, List.contains_iff_mem, oth_mem, bne_iff_ne]
  constructor
  · rintro ⟨_, _, _, h, _⟩; exact h
  · intro h
    refine ⟨c.toNat, by rw [opPs_len]; omega, by omega, h, ?_⟩
    rw [opPs_get (by omega)]; rfl
theorem learns_true (S : Stat) {n i k s d : Int} (hn : 0 ≤ n ∧ n < 256) (hi : 0 ≤ i ∧ i < 256) (hk : 0 ≤ k ∧ k < 256) (hs : 0 ≤ s ∧ s < 18446744073709551616) (hd : 0 ≤ d ∧ d < 18446744073709551616) :
    ∃ v, (lrO S n i k s d).sel = some v ∧ ∀ S E, v.den S E = .bool true := by
  obtain ⟨hm, hK⟩ := lrK_eq hn
  have hA := lrA_eq hn hi
  have hC := lrA_eq hn hk
  have h64 : decide (0 ≤ lm n ∧ lm n ≤ 64) = true := decide_eq_true (by omega)
  have hK8 : lrK n ≤ 8 := by omega
  cases hr : resF s || resF d with
  | true => exact ⟨_, Out.way_sel (lr_res S n i k s d) (by rw [h64, hr]), fun _ _ => rfl⟩
  | false =>
    simp only [Bool.or_eq_false_iff] at hr
    obtain ⟨hdead1, hL1, hC1, hto1⟩ := lr_port hA 0 [] s d hr.2
    obtain ⟨hdead2, hL2, hC2, hto2⟩ := lr_port hC (lr1 n i s d).C (lr1 n i s d).L d s hr.1
    have hl1 : (lr1 n i s d).L = if lrG s = true then [] else [(addrF s, 0, ⟨lrA n i, 300⟩)] := by
      refine hL1.trans ?_
      rw [learn_nil, lrG_bad hs hA.1]
    have hlen : (lr1 n i s d).L.length ≤ 1 := by rw [hl1]; split <;> simp
    have hok1 : (lr1 n i s d).ok = true := lr_ok hK8 0 s d (Nat.zero_le _)
    have hok2 : (lr2 n i k s d).ok = true := lr_ok hK8 _ d s hlen
    have hz : (!((lrK n : Int) == 0)) = true := by simp; omega
    have hN : lrN n = (lrK n : Int) - 1 := by
      unfold lrN; rw [IntKind.wrap_i64]; omega
    have ht1 : ((((lr1 n i s d).to.length : Int) != lrN n) && (((shl16 s != shl16 d) || (shl16 s == 0)) || manyF s)) = false := by
      cases hc : ((shl16 s != shl16 d) || (shl16 s == 0)) || manyF s with
      | false => rw [Bool.and_false]
      | true =>
        have hno : hasK (learnL 20 300 0 [] s (lrA n i)) (addrF d) = false := by
          rw [learn_nil, lrG_bad hs hA.1]
          cases hg : lrG s with
          | true => simp [hasK]
          | false =>
            have hg' := hg
            unfold lrG at hg'
            simp only [Bool.or_eq_false_iff] at hg'
            rw [hg'.1, hg'.2, Bool.or_false, Bool.or_false, bne, shl_same hs hd] at hc
            simp only [Bool.not_eq_true', beq_eq_false_iff_ne, ne_eq] at hc
            simp [hasK, hc]
        have : (lr1 n i s d).to = oth (lrA n i) 0 (opPs (lrK n)) := by
          refine hto1.trans ?_
          rw [hno]; simp
        rw [this, oth_all hA, hN]; simp
    have hT0 : lrT0 n i k s d = [true, false, true, true, true, true, false] := by
      unfold lrT0
      rw [h64, hr.1, hr.2, hz, hok1, hok2, ht1]; rfl
    have hto2' : (lr2 n i k s d).to = if (!(hasK (learnL 20 300 (lr1 n i s d).C (lr1 n i s d).L d (lrA n k)) (addrF s)) || manyF s) = true then oth (lrA n k) 0 (opPs (lrK n)) else if (oth (lrA n k) 0 (opPs (lrK n))).contains (portF (learnL 20 300 (lr1 n i s d).C (lr1 n i s d).L d (lrA n k)) s) = true then [portF (learnL 20 300 (lr1 n i s d).C (lr1 n i s d).L d (lrA n k)) s] else [] := hto2
    cases hg : lrG s with
    | true =>
      rw [hg, if_pos rfl] at hl1
      have hall : (lr2 n i k s d).to = oth (lrA n k) 0 (opPs (lrK n)) := by
        rw [hto2', if_pos ?_]
        cases hm : manyF s with
        | true => simp
        | false =>
          have h0 : addrF s = 0 := by
            unfold lrG at hg
            rw [hm, Bool.or_false, beq_iff_eq, shl16_eq hs] at hg
            omega
          have hc1 : (lr1 n i s d).C = 0 := by
            refine hC1.trans ?_
            unfold learnC badF
            rw [h0]; simp
          rw [hl1, hc1, learn_nil, Bool.or_false, h0]
          split
          · simp [hasK]
          · rename_i hb
            simp only [Bool.not_eq_true] at hb
            have := (badF_no hb).1
            have hne : ¬ addrF d = 0 := by omega
            simp [hasK, hne]
      refine ⟨_, Out.way_sel (lr_many S n i k s d) (by rw [hT0, hg]; rfl), fun _ _ => ?_⟩
      rw [hall, oth_all hC, hN]
      simp [SV.den]
    | false =>
      rw [hg, if_neg (by simp)] at hl1
      have hms : manyF s = false := by
        unfold lrG at hg
        simp only [Bool.or_eq_false_iff] at hg
        exact hg.2
      have hf : hasK (learnL 20 300 (lr1 n i s d).C (lr1 n i s d).L d (lrA n k)) (addrF s) = true ∧ portF (learnL 20 300 (lr1 n i s d).C (lr1 n i s d).L d (lrA n k)) s = if addrF s = addrF d then lrA n k else lrA n i := by
        rw [hl1, learn_one]
        have hb0 : addrF s = addrF d → badF d (lrA n k) = false := fun he => by
          have : badF s (lrA n i) = false := by rw [lrG_bad hs hA.1, hg]
          unfold badF at this ⊢
          simp only [Bool.or_eq_false_iff, decide_eq_false_iff_not] at this ⊢
          exact ⟨⟨he ▸ this.1.1, he ▸ this.1.2⟩, by omega⟩
        by_cases he : addrF s = addrF d
        · rw [hb0 he, if_neg (by simp), if_pos he]
          simp [putK, hasK, portF, getK, he]
        · rw [if_neg he]
          split
          · simp [hasK, portF, getK]
          · simp [putK, hasK, portF, getK, he]
      have hto : (lr2 n i k s d).to = if (if addrF s = addrF d then lrA n k else lrA n i) != lrA n k then [if addrF s = addrF d then lrA n k else lrA n i] else [] := by
        rw [hto2', hf.1, hf.2, hms, if_neg (by simp)]
        have : (oth (lrA n k) 0 (opPs (lrK n))).contains (if addrF s = addrF d then lrA n k else lrA n i) = ((if addrF s = addrF d then lrA n k else lrA n i) != lrA n k) := oth_has (by split <;> assumption)
        rw [this]
      cases hac : lrA n i == lrA n k with
      | true =>
        refine ⟨_, Out.way_sel (lr_back S n i k s d) (by rw [hT0, hg, hac]; rfl), fun _ _ => ?_⟩
        have : (lr2 n i k s d).to = [] := by
          rw [hto, if_neg]
          rw [beq_iff_eq] at hac
          split <;> simp [hac]
        rw [this]
        simp [SV.den]
      | false =>
        cases hxy : shl16 s == shl16 d with
        | true =>
          refine ⟨_, Out.way_sel (lr_same S n i k s d) (by rw [hT0, hg, hac, hxy]; rfl), fun _ _ => ?_⟩
          have : (lr2 n i k s d).to = [] := by
            rw [shl_same hs hd, beq_iff_eq] at hxy
            rw [hto, if_pos hxy]
            simp
          rw [this]
          simp [SV.den]
        | false =>
          have : (lr2 n i k s d).to = [lrA n i] := by
            rw [shl_same hs hd, beq_eq_false_iff_ne] at hxy
            rw [hto, if_neg hxy, if_pos]
            rw [bne, hac]; rfl
          have hB : lrB n i k s d = [lrA n i] := this
          refine ⟨_, Out.way_sel (lr_found S n i k s d) (by rw [hT0, hg, hac, hxy, hB]; simp), fun _ _ => rfl⟩
end Go.Proofs.Ytfncoeoaniclmaa
