/- vec: the laws, in plain Lean. -/
import Derived.Test.YthhdfidenigcaaaVecW
set_option linter.unusedVariables false
set_option maxRecDepth 100000
namespace Go.Proofs.Ythhdfidenigcaaa
open Go

structure Vec.Wf (a : Vec) : Prop where
  root : 0 ≤ a.root ∧ a.root < 18446744073709551616
  cost : 0 ≤ a.cost ∧ a.cost < 4294967296
  bridge : 0 ≤ a.bridge ∧ a.bridge < 18446744073709551616
  port : 0 ≤ a.port ∧ a.port < 65536
  rx : 0 ≤ a.rx ∧ a.rx < 65536

theorem cmpI_turn (x y : Int) : cmpI y x = -cmpI x y := by unfold cmpI; repeat' split <;> omega
theorem cmpI_le {x y : Int} : cmpI x y ≤ 0 ↔ x ≤ y := by unfold cmpI; repeat' split <;> omega
theorem cmpI_bnd (x y : Int) : -1 ≤ cmpI x y ∧ cmpI x y ≤ 1 := by unfold cmpI; repeat' split <;> omega
theorem cmpI_lt {x y : Int} : cmpI x y < 0 ↔ x < y := by unfold cmpI; repeat' split <;> omega

theorem fourI_turn (a b : Vec) : fourI b a = -fourI a b := by
  unfold fourI
  by_cases h1 : a.root = b.root
  · by_cases h2 : a.cost = b.cost
    · by_cases h3 : a.bridge = b.bridge
      · simp [h1, h2, h3, cmpI_turn a.port b.port]
      · simp [h1, h2, h3, Ne.symm h3, cmpI_turn a.bridge b.bridge]
    · simp [h1, h2, Ne.symm h2, cmpI_turn a.cost b.cost]
  · simp [h1, Ne.symm h1, cmpI_turn a.root b.root]
theorem cmpV_turn (a b : Vec) : cmpV b a = -cmpV a b := by
  unfold cmpV
  rw [fourI_turn a b, cmpI_turn a.rx b.rx]
  by_cases h : fourI a b = 0
  · simp [h]
  · simp [h]
theorem fourI_bnd (a b : Vec) : -1 ≤ fourI a b ∧ fourI a b ≤ 1 := by
  unfold fourI
  repeat' split
  all_goals exact cmpI_bnd _ _
theorem cmpV_bnd (a b : Vec) : -1 ≤ cmpV a b ∧ cmpV a b ≤ 1 := by
  unfold cmpV
  split
  · exact fourI_bnd a b
  · exact cmpI_bnd _ _
def leF (a b : Vec) : Prop := a.root < b.root ∨ a.root = b.root ∧ (a.cost < b.cost ∨ a.cost = b.cost ∧ (a.bridge < b.bridge ∨ a.bridge = b.bridge ∧ a.port ≤ b.port))
def leV (a b : Vec) : Prop := a.root < b.root ∨ a.root = b.root ∧ (a.cost < b.cost ∨ a.cost = b.cost ∧ (a.bridge < b.bridge ∨ a.bridge = b.bridge ∧ (a.port < b.port ∨ a.port = b.port ∧ a.rx ≤ b.rx)))
theorem fourI_le (a b : Vec) : fourI a b ≤ 0 ↔ leF a b := by
  unfold fourI leF
  repeat' split
  all_goals simp only [cmpI_le]
  all_goals omega
theorem fourI_zero (a b : Vec) : fourI a b = 0 ↔ a.root = b.root ∧ a.cost = b.cost ∧ a.bridge = b.bridge ∧ a.port = b.port := by
  unfold fourI
  repeat' split
  all_goals simp only [cmpI_zero]
  all_goals omega
theorem cmpV_le (a b : Vec) : cmpV a b ≤ 0 ↔ leV a b := by
  unfold cmpV
  split
  · rename_i h
    rw [fourI_le]
    rw [ne_eq, fourI_zero] at h
    unfold leF leV
    omega
  · rename_i h
    rw [ne_eq, Classical.not_not, fourI_zero] at h
    rw [cmpI_le]
    unfold leV
    omega
theorem cmpV_ge (a b : Vec) : cmpV a b ≥ 0 ↔ leV b a := by
  rw [← cmpV_le, cmpV_turn a b]; omega
theorem vec_ext {a b : Vec} (h1 : a.root = b.root) (h2 : a.cost = b.cost) (h3 : a.bridge = b.bridge) (h4 : a.port = b.port) (h5 : a.rx = b.rx) : a = b := by
  cases a; cases b; simp_all
theorem cmpV_zero (a b : Vec) : cmpV a b = 0 ↔ a = b := by
  constructor
  · intro h
    have h1 := (cmpV_le a b).1 (by omega)
    have h2 := (cmpV_ge a b).1 (by omega)
    unfold leV at h1 h2
    exact vec_ext (by omega) (by omega) (by omega) (by omega) (by omega)
  · rintro rfl
    have := cmpV_turn a a
    omega
theorem leV_trans {a b c : Vec} (h1 : leV a b) (h2 : leV b c) : leV a c := by
  unfold leV at *
  omega
theorem addrI_eq {x : Int} (h : 0 ≤ x ∧ x < 18446744073709551616) : addrI x = x % 281474976710656 := by
  unfold addrI
  rw [IntKind.wrap_u64, BitVec.toNat_and, BitVec.toNat_ofInt, BitVec.toNat_ofInt]
  have e : ((281474976710655 : Int) % ((2 ^ IntKind.u64.bits : Nat) : Int)).toNat = 2 ^ 48 - 1 := by decide +kernel
  have e2 : (2 : Nat) ^ IntKind.u64.bits = 18446744073709551616 := by decide +kernel
  rw [e, Nat.and_two_pow_sub_one_eq_mod, e2]
  have : (2 : Nat) ^ 48 = 281474976710656 := by decide +kernel
  rw [this]
  omega
theorem numI_eq {x : Int} (h : 0 ≤ x ∧ x < 65536) : numI x = x % 4096 := by
  unfold numI
  rw [IntKind.wrap_u16, BitVec.toNat_and, BitVec.toNat_ofInt, BitVec.toNat_ofInt]
  have e : ((4095 : Int) % ((2 ^ IntKind.u16.bits : Nat) : Int)).toNat = 2 ^ 12 - 1 := by decide +kernel
  have e2 : (2 : Nat) ^ IntKind.u16.bits = 65536 := by decide +kernel
  rw [e, Nat.and_two_pow_sub_one_eq_mod, e2]
  have : (2 : Nat) ^ 12 = 4096 := by decide +kernel
  rw [this]
  omega
theorem thrCost_eq {x y : Int} (hx : 0 ≤ x ∧ x < 4294967296) (hy : 0 ≤ y ∧ y < 4294967296) : thrCost x y = if x + y > 4294967295 then 4294967295 else x + y := by
  unfold thrCost
  simp only [IntKind.wrap_u64, IntKind.wrap_u32]
  repeat' split
  all_goals omega
theorem thrCost_bnd {x y : Int} (hx : 0 ≤ x ∧ x < 4294967296) (hy : 0 ≤ y ∧ y < 4294967296) : 0 ≤ thrCost x y ∧ thrCost x y < 4294967296 := by
  rw [thrCost_eq hx hy]; split <;> omega

def rOrder (a b c : Vec) : Bool := if (decide (cmpV a b ≤ 0) && decide (cmpV b c ≤ 0) && decide (cmpV a c > 0) || decide (cmpV a b ≥ 0) && decide (cmpV b c ≥ 0) && decide (cmpV a c < 0)) = true then false
  else cmpV b a == IntKind.i64.wrap (0 - cmpV a b) && (cmpV a b == 0) == decide (a = b)
theorem rOrder_true (a b c : Vec) : rOrder a b c = true := by
  unfold rOrder
  rw [if_neg]
  · have h1 := cmpV_bnd a b
    have h2 := cmpV_turn a b
    have h3 := cmpV_zero a b
    rw [IntKind.wrap_i64]
    have h4 : (cmpV a b == 0) = decide (a = b) := by
      rw [Bool.eq_iff_iff]; simpa using h3
    rw [h4]
    simp
    omega
  · simp only [Bool.or_eq_true, Bool.and_eq_true, decide_eq_true_eq]
    rintro (⟨⟨h1, h2⟩, h3⟩ | ⟨⟨h1, h2⟩, h3⟩)
    · have := (cmpV_le a c).2 (leV_trans ((cmpV_le a b).1 h1) ((cmpV_le b c).1 h2))
      omega
    · have := (cmpV_ge a c).2 (leV_trans ((cmpV_ge b c).1 h2) ((cmpV_ge a b).1 h1))
      omega

def rSmall (a b : Vec) : Bool := if (a.root != b.root) = true then decide (cmpV a b < 0) == decide (a.root < b.root) && !fourI a b == 0
  else if (a.cost != b.cost) = true then decide (cmpV a b < 0) == decide (a.cost < b.cost) && !fourI a b == 0
  else a.bridge == b.bridge || decide (cmpV a b < 0) == decide (a.bridge < b.bridge)
theorem cmpV_lt (a b : Vec) : cmpV a b < 0 ↔ leV a b ∧ ¬ leV b a := by
  rw [← cmpV_le, ← cmpV_ge]; omega
theorem rSmall_true (a b : Vec) : rSmall a b = true := by
  unfold rSmall
  have hz := fourI_zero a b
  have hl := cmpV_lt a b
  split
  · rename_i h
    simp only [bne_iff_ne, ne_eq] at h
    have h1 : ¬ fourI a b = 0 := by rw [hz]; omega
    have h2 : cmpV a b < 0 ↔ a.root < b.root := by rw [hl]; unfold leV; omega
    simp [h1, h2]
  · rename_i h
    simp only [bne_iff_ne, ne_eq, Classical.not_not] at h
    split
    · rename_i h3
      simp only [bne_iff_ne, ne_eq] at h3
      have h1 : ¬ fourI a b = 0 := by rw [hz]; omega
      have h2 : cmpV a b < 0 ↔ a.cost < b.cost := by rw [hl]; unfold leV; omega
      simp [h1, h2]
    · rename_i h3
      simp only [bne_iff_ne, ne_eq, Classical.not_not] at h3
      by_cases h4 : a.bridge = b.bridge
      · simp [h4]
      · have h2 : cmpV a b < 0 ↔ a.bridge < b.bridge := by rw [hl]; unfold leV; omega
        simp [h2]

def rSuperior (a b : Vec) : Bool := if (!supV ⟨a.root, a.cost, b.bridge, b.port, a.rx⟩ b) = true then false
  else if (decide (cmpV a b < 0) && !fourI a b == 0 && !supV a b) = true then false
  else if (IntKind.u64.wrap (a.bridge * 2 ^ min (Int.toNat 16) IntKind.u64.bits) != IntKind.u64.wrap (b.bridge * 2 ^ min (Int.toNat 16) IntKind.u64.bits) && !supV a b == (decide (cmpV a b < 0) && !fourI a b == 0)) = true then false
  else supV b b
theorem rSuperior_true {a b : Vec} (ha : a.Wf) (hb : b.Wf) : rSuperior a b = true := by
  unfold rSuperior
  have hself : supV ⟨a.root, a.cost, b.bridge, b.port, a.rx⟩ b = true := by simp [supV]
  have hbb : supV b b = true := by simp [supV]
  have hless : cmpV a b < 0 ∧ ¬ fourI a b = 0 ↔ fourI a b < 0 := by
    have := fourI_bnd a b
    unfold cmpV
    split <;> omega
  have hL : (decide (cmpV a b < 0) && !fourI a b == 0) = decide (fourI a b < 0) := by
    rw [Bool.eq_iff_iff]
    simpa using hless
  rw [hself, hbb, hL, if_neg (by simp), if_neg, if_neg]
  · intro h
    simp only [Bool.and_eq_true, bne_iff_ne, ne_eq, Bool.not_eq_true', beq_eq_false_iff_ne] at h
    obtain ⟨h1, h2⟩ := h
    apply h2
    unfold supV
    have hne : ¬ addrI a.bridge = addrI b.bridge := by
      rw [addrI_eq ha.bridge, addrI_eq hb.bridge]
      intro he
      apply h1
      have e2 : (2 : Int) ^ min (Int.toNat 16) IntKind.u64.bits = 65536 := by decide +kernel
      rw [e2, IntKind.wrap_u64, IntKind.wrap_u64]
      have := ha.bridge; have := hb.bridge
      omega
    simp [hne]
  · intro h
    simp only [Bool.and_eq_true, decide_eq_true_eq, Bool.not_eq_true'] at h
    unfold supV at h
    simp [h.1] at h

def rThrough (a b : Vec) (x y z : Int) : Bool := if (decide (cmpV a b < 0) && (a.root != b.root || a.cost != b.cost) && (thrV a x z).root == (thrV b x z).root && decide ((thrV a x z).cost > (thrV b x z).cost)) = true then false
  else decide (cmpV (thrV a x a.rx) a ≥ 0) && decide (thrV (thrV a x z) y z = thrV (thrV a y z) x z) && (thrV a x z).root == a.root && (thrV a x z).rx == z
theorem rThrough_true {a b : Vec} {x y z : Int} (ha : a.Wf) (hb : b.Wf) (hx : 0 ≤ x ∧ x < 4294967296) (hy : 0 ≤ y ∧ y < 4294967296) : rThrough a b x y z = true := by
  unfold rThrough
  have h1 := thrCost_bnd ha.cost hx
  have h2 := thrCost_bnd ha.cost hy
  rw [if_neg]
  · have e1 : cmpV (thrV a x a.rx) a ≥ 0 := by
      rw [cmpV_ge]
      have h3 : a.cost ≤ thrCost a.cost x := by
        rw [thrCost_eq ha.cost hx]
        have := ha.cost
        split <;> omega
      unfold leV thrV
      dsimp only
      omega
    have e2 : thrV (thrV a x z) y z = thrV (thrV a y z) x z := by
      apply vec_ext <;> try rfl
      show thrCost (thrCost a.cost x) y = thrCost (thrCost a.cost y) x
      rw [thrCost_eq h1 hy, thrCost_eq h2 hx, thrCost_eq ha.cost hx, thrCost_eq ha.cost hy]
      have := ha.cost
      repeat' split
      all_goals omega
    simp [e1, e2]
    exact ⟨rfl, rfl⟩
  · intro h
    simp only [Bool.and_eq_true, Bool.or_eq_true, decide_eq_true_eq, bne_iff_ne, ne_eq, beq_iff_eq] at h
    obtain ⟨⟨⟨h3, h4⟩, h5⟩, h6⟩ := h
    have h5 : a.root = b.root := h5
    have h6 : thrCost a.cost x > thrCost b.cost x := h6
    rw [cmpV_lt] at h3
    rw [thrCost_eq ha.cost hx, thrCost_eq hb.cost hx] at h6
    unfold leV at h3
    have := ha.cost; have := hb.cost
    split at h6 <;> split at h6 <;> omega

def rTells (a b : Vec) (x y : Int) : Bool := cmpV a b == refCmpV a b && decide (cmpV a b < 0) == decide (refCmpV a b < 0) && (fourI a b == 0) == sameV a b && supV a b == refSupV a b && decide (thrV a x y = thrV a x y) &&
  decide ((⟨a.root, 0, a.root, 0, 0⟩ : Vec) = ⟨a.root, 0, a.root, 0, 0⟩)
theorem lessV_iff (a b : Vec) : lessV a b = decide (fourI a b < 0) := by
  unfold lessV fourI
  repeat' split
  all_goals simp only [cmpI_lt]
theorem sameV_iff (a b : Vec) : sameV a b = (fourI a b == 0) := by
  rw [Bool.eq_iff_iff]
  simp only [sameV, Bool.and_eq_true, beq_iff_eq, fourI_zero, and_assoc]
theorem refCmpV_eq (a b : Vec) : refCmpV a b = cmpV a b := by
  unfold refCmpV cmpV
  rw [lessV_iff, sameV_iff]
  have := fourI_bnd a b
  by_cases h : fourI a b = 0
  · simp only [h]
    unfold cmpI
    simp
    repeat' split
    all_goals omega
  · have h0 : (fourI a b == 0) = false := by simpa using h
    rw [h0]
    simp only [Bool.false_and, Bool.or_false, decide_eq_true_eq, if_pos h, Bool.false_eq_true, if_false, ne_eq, h, not_false_iff, if_true]
    split <;> omega
theorem refSupV_eq {a b : Vec} (ha : a.Wf) (hb : b.Wf) : refSupV a b = supV a b := by
  unfold refSupV supV
  rw [addrI_eq ha.bridge, addrI_eq hb.bridge, numI_eq ha.port, numI_eq hb.port, Int.tmod_eq_emod_of_nonneg ha.bridge.1, Int.tmod_eq_emod_of_nonneg hb.bridge.1, Int.tmod_eq_emod_of_nonneg ha.port.1, Int.tmod_eq_emod_of_nonneg hb.port.1, lessV_iff]
  split
  · rename_i h; rw [h]; rfl
  · rename_i h; simp only [Bool.not_eq_true] at h; rw [h]; rfl
theorem rTells_true {a b : Vec} {x y : Int} (ha : a.Wf) (hb : b.Wf) : rTells a b x y = true := by
  unfold rTells
  rw [refCmpV_eq, refSupV_eq ha hb, sameV_iff]
  simp
end Go.Proofs.Ythhdfidenigcaaa
