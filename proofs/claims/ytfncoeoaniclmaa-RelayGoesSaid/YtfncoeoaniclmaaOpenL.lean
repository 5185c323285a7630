/- What came in: slices. -/
import Derived.Test.YtfncoeoaniclmaaOpenI
set_option linter.unusedVariables false
set_option maxRecDepth 100000
namespace Go.Proofs.Ytfncoeoaniclmaa
open Go.ChangeShapes Go.WideShapes Go.ChangeAt Go.RowKit

section
variable {H : Type} {enc : TypeId × Value → H} {w w' : World} {base : Nat} {spare : Nat → Bool} {held : Bool}
theorem open_rows {α : Type} {cells : α → List Value} {wf : α → Prop} {z : Nat} {e t : TypeId} (ht : Try.prog.underlying t = some (.slice e)) (hz : Try.prog.cellsOf e = z) (hz0 : 0 < z) (hc : ∀ x, (cells x).length = z) (hone : ∀ x, ∀ v ∈ cells x, v.oneCell' = true)
    (hp : ∀ vs, (∃ fuel y, DataW.trod enc Try.prog w base spare held fuel e vs = some y) → vs.length = z → ∃ x, vs = cells x ∧ wf x) {v : Value} (hok : ∃ b, Cell.okWide Try.prog w' .any b t v)
    (h : ∃ fuel y, DataW.trod enc Try.prog w base spare held fuel t [v] = some y) :
    ∃ (l : List α) (a : Addr) (c : Nat × Bool), (∀ x ∈ l, wf x) ∧ l.length ≤ maxLen ∧ (∀ (E : Env) (k : Nat) (S : Stat), E.ad k = a → E.cp k = c → (SV.slr k l.length k false).cells S E = [v]) ∧ (0 < l.length → At w a (l.flatMap cells)) := by
  obtain ⟨fuel, y, h⟩ := h
  rcases DataW.trod_slice ht h with ⟨hx, _⟩ | ⟨a, len, cap, elems, rest, n, _, hcs, _, hb, hl, hm, hlen, hel, _, _⟩
  · refine ⟨[], default, (0, true), fun x hx => by simp at hx, Nat.zero_le _, fun E k S h1 h2 => ?_, fun h => by simp at h⟩
    rw [hx]
    simp [SV.cells, h2]
  · obtain ⟨b, hok⟩ := hok
    simp only [List.cons.injEq, and_true] at hcs
    subst hcs
    have hs : a.spot = none := by
      unfold Cell.okWide at hok
      rw [ht] at hok
      unfold Cell.ok at hok
      rw [ht] at hok
      exact hok.2.2.2.1
    obtain ⟨l, hll, hP⟩ := list_of (P := fun i (x : α) => w.cells? base (a.add (i * z)) z = some (cells x) ∧ wf x) len (fun i hi => by
      have := hel i hi
      rw [hz] at this
      have hy : ∃ y, elems[i]? = some y := ⟨_, List.getElem?_eq_getElem (by omega)⟩
      obtain ⟨y, hy⟩ := hy
      rw [hy] at this
      simp only [Option.bind_eq_some_iff] at this
      obtain ⟨cs, h1, h2⟩ := this
      obtain ⟨x, rfl, hw⟩ := hp cs ⟨_, _, h2⟩ (World.cells?_some h1).2.1
      exact ⟨x, h1, hw⟩)
    refine ⟨l, a, (cap, false), fun x hx => ?_, by omega, fun E k S h1 h2 => ?_, fun h0 => ?_⟩
    · obtain ⟨i, hi⟩ := List.getElem?_of_mem hx
      exact (hP i x hi).2
    · simp only [SV.cells, h2, Env.place, h1, Bool.false_and, cond_false, Nat.add_zero, hll]
      cases a; simp only at hs; rw [hs]
    · refine at_of_cells hs ?_ (fun k v hk => ?_) (fun v hv => by obtain ⟨x, _, hx⟩ := List.mem_flatMap.1 hv; exact hone x v hx)
      · obtain ⟨x, r, rfl⟩ : ∃ x r, l = x :: r := by cases l with | nil => simp at h0 | cons x r => exact ⟨x, r, rfl⟩
        rw [List.flatMap_cons, List.length_append, hc]
        omega
      · obtain ⟨i, j, x, h1, h2, h3, h4⟩ := flat_get hc l k v hk
        have := (World.cells?_some (hP i x h1).1).2.2 j h4
        rw [add_at hs, add_at rfl] at this
        rw [h2] at this
        rw [h3, ← Nat.add_assoc]
        exact this

/-- a slice that came in -/
theorem open_slice {α : Type} {cells : α → List Value} {wf : α → Prop} {z : Nat} {e t : TypeId} {d : DataW H} {p : List MemPlace} (ht : Try.prog.underlying t = some (.slice e)) (hz : Try.prog.cellsOf e = z) (hz0 : 0 < z) (hc : ∀ x, (cells x).length = z) (hone : ∀ x, ∀ v ∈ cells x, v.oneCell' = true)
    (hp : ∀ vs, (∃ fuel y, DataW.trod enc Try.prog w base spare held fuel e vs = some y) → vs.length = z → ∃ x, vs = cells x ∧ wf x) {v : Value} (hok : ∃ b, Value.okWide Try.prog w' .any b t v)
    (h : DataW.Trod enc Try.prog w base spare held t v d p) :
    ∃ (l : List α) (a : Addr) (c : Nat × Bool), (∀ x ∈ l, wf x) ∧ l.length ≤ maxLen ∧ (∀ (E : Env) (k : Nat) (S : Stat), E.ad k = a → E.cp k = c → (SV.slr k l.length k false).den S E = v ∧ (SV.slr k l.length k false).cells S E = [v]) ∧ (0 < l.length → At w a (l.flatMap cells)) := by
  obtain ⟨b, hok⟩ := hok
  have hok' : Cell.okWide Try.prog w' .any b t v := by unfold Value.okWide at hok; rw [ht] at hok; exact hok
  have hcell : v.cells.toList = [v] := by
    unfold Cell.okWide at hok'
    rw [ht] at hok'
    unfold Cell.ok at hok'
    rw [ht] at hok'
    cases v <;> first | rfl | exact hok'.elim
  obtain ⟨fuel, h⟩ := h
  rw [hcell] at h
  obtain ⟨l, a, c, h1, h2, h3, h4⟩ := open_rows ht hz hz0 hc hone hp ⟨b, hok'⟩ ⟨fuel, _, h⟩
  refine ⟨l, a, c, h1, h2, fun E k S hk hc => ⟨?_, h3 E k S hk hc⟩, h4⟩
  have := h3 E k S hk hc
  simp only [SV.cells] at this
  simp only [SV.den]
  exact List.head_eq_of_cons_eq this
end

/-- one list that came in, only read -/
def oneE (a : Addr) (c : Nat × Bool) : Env := ⟨fun _ => a, fun _ => c⟩
theorem hs_one {S : Stat} {a : Addr} {c : Nat × Bool} {x : SV} {w : World} (h : 0 < x.size → At w a (x.cells (S.rd 0 1) (oneE a c))) (hf : x.foOk (S.rd 0 1)) : HS (S.rd 0 1) (oneE a c) [(0, x)] w := by
  have hk : ∀ k y, Heap.get [(0, x)] k = some y → k = 0 ∧ y = x := by
    intro k y hk
    rw [Heap.get_cons] at hk
    split at hk
    · rename_i h0; injection hk with hk; exact ⟨h0, hk.symm⟩
    · cases hk
  refine ⟨fun k y h1 h2 => ?_, fun k y h1 h2 _ hr => ?_, fun k k' y y' _ h1 _ _ _ hr => ?_, fun k y h1 => ?_⟩
  · obtain ⟨rfl, rfl⟩ := hk k y h1; exact h h2
  · obtain ⟨rfl, rfl⟩ := hk k y h1; cases hr
  · obtain ⟨rfl, rfl⟩ := hk k y h1; cases hr
  · obtain ⟨rfl, rfl⟩ := hk k y h1; exact hf
theorem open_u64s {H : Type} {enc : TypeId × Value → H} {w w' : World} {base : Nat} {spare : Nat → Bool} {held : Bool} {t e : TypeId} {v : Value} {d : DataW H} {p : List MemPlace} (ht : Try.prog.underlying t = some (.slice e)) (he : Try.prog.underlying e = some (.int .u64)) (hz : Try.prog.cellsOf e = 1) (hfl : flat Try.prog 2 e = some [.int .u64])
    (hok : ∃ b, Value.okWide Try.prog w' .any b t v) (h : DataW.Trod enc Try.prog w base spare held t v d p) :
    ∃ (L : List Int) (a : Addr) (c : Nat × Bool), (∀ n ∈ L, (Lit.int .u64 n).wf = true) ∧ L.length ≤ maxLen ∧ (∀ S, (SV.slr 0 L.length 0 false).den S (oneE a c) = v) ∧ ∀ S : Stat, HS (S.rd 0 1) (oneE a c) [(0, .rows (.int .u64 L))] w := by
  obtain ⟨L, a, c, h1, h2, h3, h4⟩ := open_slice (cells := fun n : Int => [Value.int .u64 n]) (wf := fun n => (Lit.int .u64 n).wf = true) (z := 1) ht hz (by decide) (fun _ => rfl) (fun x v hv => by rw [List.mem_singleton.1 hv]; rfl) (fun vs h hl => by
      have h0 := flat_ok 2 (ks := [.int .u64]) (t := e) hfl h (by rw [hl]; exact hz.symm)
      obtain ⟨n, r, w, rfl, h1⟩ := fits_i h0
      obtain rfl := fits_0 h1
      exact ⟨n, rfl, w⟩) hok h
  refine ⟨L, a, c, h1, h2, fun S => (h3 (oneE a c) 0 S rfl rfl).1, fun S => hs_one (fun hp => ?_) trivial⟩
  have hpos : 0 < L.length := by
    cases L with
    | nil => exact absurd hp (by simp [SV.size, Rows.z, Rows.len])
    | cons x r => simp
  have h := h4 hpos
  have e : (SV.rows (.int .u64 L)).cells (S.rd 0 1) (oneE a c) = L.flatMap fun n : Int => [Value.int .u64 n] := by
    simp only [SV.cells, Rows.cells]
  rw [e]
  exact h
/-- acts that came in -/
theorem open_fact {H : Type} {enc : TypeId × Value → H} {w : World} {base : Nat} {spare : Nat → Bool} {held : Bool} {vs : List Value} (h : ∃ fuel y, DataW.trod enc Try.prog w base spare held fuel 34 vs = some y) (hl : vs.length = 4) : ∃ x : FAct, vs = x.cells ∧ 0 ≤ x.mac ∧ x.mac < 18446744073709551616 := by
  have h0 := flat_ok 9 (ks := [.int .i64, .int .u64, .int .i64, .int .i64]) (t := 34) (by kernel_rfl) h (by rw [hl]; kernel_rfl)
  obtain ⟨n0, r0, w0, rfl, h1⟩ := fits_i h0
  obtain ⟨n1, r1, w1, rfl, h2⟩ := fits_i h1
  obtain ⟨n2, r2, w2, rfl, h3⟩ := fits_i h2
  obtain ⟨n3, r3, w3, rfl, h4⟩ := fits_i h3
  obtain rfl := fits_0 h4
  exact ⟨⟨n0, n1, n2, n3⟩, rfl, range_u64 w1⟩
theorem open_facts {H : Type} {enc : TypeId × Value → H} {w w' : World} {base : Nat} {spare : Nat → Bool} {held : Bool} {v : Value} {d : DataW H} {p : List MemPlace}
    (hok : ∃ b, Value.okWide Try.prog w' .any b 32 v) (h : DataW.Trod enc Try.prog w base spare held 32 v d p) :
    ∃ (L : List FAct) (a : Addr) (c : Nat × Bool), (∀ n ∈ L, 0 ≤ n.mac ∧ n.mac < 18446744073709551616) ∧ L.length ≤ maxLen ∧ (∀ S, (SV.slr 0 L.length 0 false).den S (oneE a c) = v) ∧ ∀ S : Stat, HS (S.rd 0 1) (oneE a c) [(0, .rows (.fact L))] w := by
  obtain ⟨L, a, c, h1, h2, h3, h4⟩ := open_slice (cells := FAct.cells) (wf := fun x : FAct => 0 ≤ x.mac ∧ x.mac < 18446744073709551616) (z := 4) Try.underlying32 (by kernel_rfl) (by decide) (fun _ => rfl) (fun x v hv => plainV.one ((Rec.fact x).plain v hv)) (fun vs h hl => open_fact h hl) hok h
  refine ⟨L, a, c, h1, h2, fun S => (h3 (oneE a c) 0 S rfl rfl).1, fun S => hs_one (fun hp => ?_) trivial⟩
  have hpos : 0 < L.length := by
    cases L with
    | nil => exact absurd hp (by simp [SV.size, Rows.z, Rows.len])
    | cons x r => simp
  have h := h4 hpos
  have e : (SV.rows (.fact L)).cells (S.rd 0 1) (oneE a c) = L.flatMap FAct.cells := by
    simp only [SV.cells, Rows.cells]
  rw [e]
  exact h
end Go.Proofs.Ytfncoeoaniclmaa
