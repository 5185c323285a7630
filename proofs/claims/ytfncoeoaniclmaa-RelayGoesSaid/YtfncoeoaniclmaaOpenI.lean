/- What came in: slices of structs or of numbers. -/
import Derived.Test.YtfncoeoaniclmaaOpen
import Derived.Test.YtfncoeoaniclmaaRd
import Derived.ChangeArms
set_option linter.unusedVariables false
set_option maxRecDepth 100000
namespace Go.Proofs.Ytfncoeoaniclmaa
open Go.ChangeShapes Go.WideShapes Go.ChangeAt Go.RowKit

def S0 : Stat := ⟨fun _ => (none, 0, 0), fun _ => 0, fun _ => false⟩
def E0 : Env := ⟨fun _ => default, fun _ => (0, false)⟩
theorem hs_nil (S : Stat) (E : Env) (w : World) : HS S E [] w := ⟨fun k x hk => by simp [Heap.get] at hk, fun k x hk => by simp [Heap.get] at hk, fun k k' x x' _ hk => by simp [Heap.get] at hk, fun k x hk => by simp [Heap.get] at hk⟩
theorem fits_i {k : IntKind} {ks : List CK} {vs : List Value} (h : Fits (.int k :: ks) vs) : ∃ n r, (Lit.int k n).wf = true ∧ vs = .int k n :: r ∧ Fits ks r := by
  cases vs with
  | nil => exact h.elim
  | cons v vs => obtain ⟨⟨n, rfl, hw⟩, h⟩ := h; exact ⟨n, vs, hw, rfl, h⟩
theorem fits_b {ks : List CK} {vs : List Value} (h : Fits (.bool :: ks) vs) : ∃ b r, vs = .bool b :: r ∧ Fits ks r := by
  cases vs with
  | nil => exact h.elim
  | cons v vs => obtain ⟨⟨b, rfl⟩, h⟩ := h; exact ⟨b, vs, rfl, h⟩
theorem fits_a {ks : List CK} {vs : List Value} (h : Fits (.any :: ks) vs) : ∃ v r, vs = v :: r ∧ Fits ks r := by
  cases vs with
  | nil => exact h.elim
  | cons v vs => exact ⟨v, vs, rfl, h.2⟩
theorem fits_0 {vs : List Value} (h : Fits [] vs) : vs = [] := by
  cases vs with
  | nil => rfl
  | cons v vs => exact h.elim
theorem list_of {α : Type} {P : Nat → α → Prop} : ∀ (n : Nat), (∀ i, i < n → ∃ x, P i x) → ∃ l : List α, l.length = n ∧ ∀ i x, l[i]? = some x → P i x
  | 0, _ => ⟨[], rfl, fun i x h => by simp at h⟩
  | n + 1, h => by
    obtain ⟨l, hl, hP⟩ := list_of n (fun i hi => h i (by omega))
    obtain ⟨x, hx⟩ := h n (by omega)
    refine ⟨l ++ [x], by simp [hl], fun i y hy => ?_⟩
    by_cases hi : i < n
    · rw [List.getElem?_append_left (by omega)] at hy; exact hP i y hy
    · have hlt := (List.getElem?_eq_some_iff.1 hy).1
      simp only [List.length_append, List.length_singleton, hl] at hlt
      have : i = n := by omega
      subst this
      rw [List.getElem?_append_right (by omega), hl] at hy
      simp only [Nat.sub_self, List.getElem?_cons_zero, Option.some.injEq] at hy
      subst hy
      exact hx
theorem flat_get {α : Type} {cells : α → List Value} {z : Nat} (hz : ∀ x, (cells x).length = z) : ∀ (l : List α) (k : Nat) (v : Value), (l.flatMap cells)[k]? = some v → ∃ i j x, l[i]? = some x ∧ (cells x)[j]? = some v ∧ k = i * z + j ∧ j < z
  | [], k, v, h => by simp at h
  | x :: r, k, v, h => by
    rw [List.flatMap_cons] at h
    by_cases hk : k < z
    · rw [List.getElem?_append_left (by rw [hz]; exact hk)] at h
      exact ⟨0, k, x, rfl, h, by simp, hk⟩
    · rw [List.getElem?_append_right (by rw [hz]; omega), hz] at h
      obtain ⟨i, j, y, h1, h2, h3, h4⟩ := flat_get hz r (k - z) v h
      exact ⟨i + 1, j, y, by simpa using h1, h2, by rw [Nat.add_mul]; omega, h4⟩
theorem add_at {a : Addr} (hs : a.spot = none) (n : Nat) : a.add n = ⟨a.block, a.off + n, none⟩ := by
  unfold Addr.add
  split
  · subst_vars; cases a; simp_all
  · rfl
theorem at_of_cells {w : World} {a : Addr} {vs : List Value} (hs : a.spot = none) (hp : 0 < vs.length) (h : ∀ k v, vs[k]? = some v → w.cell? ⟨a.block, a.off + k, none⟩ = some v) (hone : ∀ v ∈ vs, v.oneCell' = true) : At w a vs := by
  have h0 := h 0 _ (List.getElem?_eq_getElem hp)
  unfold World.cell? at h0
  split at h0
  · rename_i cs t fr hb
    refine ⟨hs, .inl ⟨cs, t, fr, hb, ?_, fun k v hk => ?_⟩⟩
    · have h1 := h (vs.length - 1) _ (List.getElem?_eq_getElem (by omega))
      simp only [World.cell?, hb] at h1
      have := (Array.getElem?_eq_some_iff.1 h1).1
      omega
    · have h1 := h k v hk
      simp only [World.cell?, hb] at h1
      exact ⟨h1, hone v (List.mem_of_getElem? hk)⟩
  · cases h0

theorem range_u8 {n : Int} (h : (Lit.int .u8 n).wf = true) : 0 ≤ n ∧ n < 256 := by
  simp [Lit.wf, IntKind.min, IntKind.max, IntKind.signed, IntKind.bits] at h
  omega
theorem range_u64 {n : Int} (h : (Lit.int .u64 n).wf = true) : 0 ≤ n ∧ n < 18446744073709551616 := by
  simp [Lit.wf, IntKind.min, IntKind.max, IntKind.signed, IntKind.bits] at h
  omega
end Go.Proofs.Ytfncoeoaniclmaa
