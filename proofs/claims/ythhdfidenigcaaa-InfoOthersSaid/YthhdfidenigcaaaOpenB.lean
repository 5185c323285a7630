/- A bridge that came in: its head, and its lists, each a chunk that is only read. -/
import Derived.Test.YthhdfidenigcaaaOpenR
import Derived.ChangeArms
set_option linter.unusedVariables false
set_option maxRecDepth 100000
namespace Go.Proofs.Ythhdfidenigcaaa
open Go.ChangeShapes Go.WideShapes Go.ChangeAt Go.RowKit

theorem list_of {α : Type} {P : Nat → α → Prop} : ∀ (n : Nat), (∀ i, i < n → ∃ x, P i x) → ∃ l : List α, l.length = n ∧ ∀ i x, l[i]? = some x → P i x
  | 0, _ => ⟨[], rfl, fun i x h => by simp at h⟩
  | n + 1, h => by
    obtain ⟨l, hl, hP⟩ := list_of n (fun i hi => h i (by omega))
    obtain ⟨x, hx⟩ := h n (by omega)
    refine ⟨l ++ [x], by simp [hl], fun i y hy => ?_⟩
    by_cases hi : i < n
    · rw [List.getElem?_append_left (by omega)] at hy; exact hP i y hy
    · have hlt := (List.getElem?_eq_some_iff.1 hy).1
      simp only [List.length_append, List.length_singleton, hl] at hlt
      have : i = n := by omega
      subst this
      rw [List.getElem?_append_right (by omega), hl] at hy
      simp only [Nat.sub_self, List.getElem?_cons_zero, Option.some.injEq] at hy
      subst hy
      exact hx
theorem flat_get {α : Type} {cells : α → List Value} {z : Nat} (hz : ∀ x, (cells x).length = z) : ∀ (l : List α) (k : Nat) (v : Value), (l.flatMap cells)[k]? = some v → ∃ i j x, l[i]? = some x ∧ (cells x)[j]? = some v ∧ k = i * z + j ∧ j < z
  | [], k, v, h => by simp at h
  | x :: r, k, v, h => by
    rw [List.flatMap_cons] at h
    by_cases hk : k < z
    · rw [List.getElem?_append_left (by rw [hz]; exact hk)] at h
      exact ⟨0, k, x, rfl, h, by simp, hk⟩
    · rw [List.getElem?_append_right (by rw [hz]; omega), hz] at h
      obtain ⟨i, j, y, h1, h2, h3, h4⟩ := flat_get hz r (k - z) v h
      exact ⟨i + 1, j, y, by simpa using h1, h2, by rw [Nat.add_mul]; omega, h4⟩
theorem add_at {a : Addr} (hs : a.spot = none) (n : Nat) : a.add n = ⟨a.block, a.off + n, none⟩ := by
  unfold Addr.add
  split
  · subst_vars; cases a; simp_all
  · rfl
theorem at_of_cells {w : World} {a : Addr} {vs : List Value} (hs : a.spot = none) (hp : 0 < vs.length) (h : ∀ k v, vs[k]? = some v → w.cell? ⟨a.block, a.off + k, none⟩ = some v) (hone : ∀ v ∈ vs, v.oneCell' = true) : At w a vs := by
  have h0 := h 0 _ (List.getElem?_eq_getElem hp)
  unfold World.cell? at h0
  split at h0
  · rename_i cs t fr hb
    refine ⟨hs, .inl ⟨cs, t, fr, hb, ?_, fun k v hk => ?_⟩⟩
    · have h1 := h (vs.length - 1) _ (List.getElem?_eq_getElem (by omega))
      simp only [World.cell?, hb] at h1
      have := (Array.getElem?_eq_some_iff.1 h1).1
      omega
    · have h1 := h k v hk
      simp only [World.cell?, hb] at h1
      exact ⟨h1, hone v (List.mem_of_getElem? hk)⟩
  · cases h0

section
variable {H : Type} {enc : TypeId × Value → H} {w w' : World} {base : Nat} {spare : Nat → Bool} {held : Bool}
theorem open_rows {α : Type} {cells : α → List Value} {wf : α → Prop} {z : Nat} {e t : TypeId} (ht : Try.prog.underlying t = some (.slice e)) (hz : Try.prog.cellsOf e = z) (hz0 : 0 < z) (hc : ∀ x, (cells x).length = z) (hone : ∀ x, ∀ v ∈ cells x, v.oneCell' = true)
    (hp : ∀ vs, (∃ fuel y, DataW.trod enc Try.prog w base spare held fuel e vs = some y) → vs.length = z → ∃ x, vs = cells x ∧ wf x) {v : Value} (hok : ∃ b, Cell.okWide Try.prog w' .any b t v)
    (h : ∃ fuel y, DataW.trod enc Try.prog w base spare held fuel t [v] = some y) :
    ∃ (l : List α) (a : Addr) (c : Nat × Bool), (∀ x ∈ l, wf x) ∧ l.length ≤ maxLen ∧ (∀ (E : Env) (k : Nat) (S : Stat), E.ad k = a → E.cp k = c → (SV.slr k l.length k false).cells S E = [v]) ∧ (0 < l.length → At w a (l.flatMap cells)) := by
  obtain ⟨fuel, y, h⟩ := h
  rcases DataW.trod_slice ht h with ⟨hx, _⟩ | ⟨a, len, cap, elems, rest, n, _, hcs, _, hb, hl, hm, hlen, hel, _, _⟩
  · refine ⟨[], default, (0, true), fun x hx => by simp at hx, Nat.zero_le _, fun E k S h1 h2 => ?_, fun h => by simp at h⟩
    rw [hx]
    simp [SV.cells, h2]
  · obtain ⟨b, hok⟩ := hok
    simp only [List.cons.injEq, and_true] at hcs
    subst hcs
    have hs : a.spot = none := by
      unfold Cell.okWide at hok
      rw [ht] at hok
      unfold Cell.ok at hok
      rw [ht] at hok
      exact hok.2.2.2.1
    obtain ⟨l, hll, hP⟩ := list_of (P := fun i (x : α) => w.cells? base (a.add (i * z)) z = some (cells x) ∧ wf x) len (fun i hi => by
      have := hel i hi
      rw [hz] at this
      have hy : ∃ y, elems[i]? = some y := ⟨_, List.getElem?_eq_getElem (by omega)⟩
      obtain ⟨y, hy⟩ := hy
      rw [hy] at this
      simp only [Option.bind_eq_some_iff] at this
      obtain ⟨cs, h1, h2⟩ := this
      obtain ⟨x, rfl, hw⟩ := hp cs ⟨_, _, h2⟩ (World.cells?_some h1).2.1
      exact ⟨x, h1, hw⟩)
    refine ⟨l, a, (cap, false), fun x hx => ?_, by omega, fun E k S h1 h2 => ?_, fun h0 => ?_⟩
    · obtain ⟨i, hi⟩ := List.getElem?_of_mem hx
      exact (hP i x hi).2
    · simp only [SV.cells, h2, Env.place, h1, Bool.false_and, cond_false, Nat.add_zero, hll]
      cases a; simp only at hs; rw [hs]
    · refine at_of_cells hs ?_ (fun k v hk => ?_) (fun v hv => by obtain ⟨x, _, hx⟩ := List.mem_flatMap.1 hv; exact hone x v hx)
      · obtain ⟨x, r, rfl⟩ : ∃ x r, l = x :: r := by cases l with | nil => simp at h0 | cons x r => exact ⟨x, r, rfl⟩
        rw [List.flatMap_cons, List.length_append, hc]
        omega
      · obtain ⟨i, j, x, h1, h2, h3, h4⟩ := flat_get hc l k v hk
        have := (World.cells?_some (hP i x h1).1).2.2 j h4
        rw [add_at hs, add_at rfl] at this
        rw [h2] at this
        rw [h3, ← Nat.add_assoc]
        exact this
end

section
variable {H : Type} {enc : TypeId × Value → H} {w w' : World} {base : Nat} {spare : Nat → Bool} {held : Bool}
theorem Bri.sv_cells (S : Stat) (E : Env) (b : Bri) (p o f : SV) : (b.sv p o f).cells S E = .int .u64 b.id :: .bool b.rst :: (b.times.cells ++ .int .i64 b.hold :: (b.root.cells ++ .int .i64 b.rootPort :: (b.rootT.cells ++ (p.cells S E ++ (o.cells S E ++ f.cells S E))))) := by
  simp [Bri.sv, SV.cells, SV.cellss, Rec.cells]
theorem open_bri {v : Value} {d : DataW H} {p : List MemPlace} (hok : ∃ b, Value.okWide Try.prog w .any b 42 v) (h : DataW.Trod enc Try.prog w base spare held 42 v d p) :
    ∃ (q : InP) (E : Env), q.Wf ∧ q.ps.length < 9223372036854775808 ∧ ∀ S, (q.arg).den S E = v ∧ HS (S.rd 0 3) E q.heap w := by
  obtain ⟨cs, rfl, hf⟩ := open_flat (n := 9) (ks := [.int .u64, .bool, .int .i64, .int .i64, .int .i64, .int .i64, .int .i64, .int .u64, .int .u32, .int .u64, .int .u16, .int .u16, .int .i64, .int .i64, .int .i64, .int .i64, .int .i64, .any, .any, .any]) Try.underlying42 (by kernel_rfl) hok h
  obtain ⟨cs⟩ := cs
  obtain ⟨b, hok⟩ := hok
  unfold Value.okWide at hok
  rw [Try.underlying42] at hok
  obtain ⟨cs', he, hsz, ts, hts, _, hcell⟩ := hok
  injection he with he
  subst he
  obtain ⟨fuel, hx⟩ := h
  simp only [List.toList_toArray] at hf
  obtain ⟨n0, r0, w0, rfl, h0⟩ := fits_i hf
  obtain ⟨n1, r1, rfl, h1⟩ := fits_b h0
  obtain ⟨n2, r2, w2, rfl, h2⟩ := fits_i h1
  obtain ⟨n3, r3, w3, rfl, h3⟩ := fits_i h2
  obtain ⟨n4, r4, w4, rfl, h4⟩ := fits_i h3
  obtain ⟨n5, r5, w5, rfl, h5⟩ := fits_i h4
  obtain ⟨n6, r6, w6, rfl, h6⟩ := fits_i h5
  obtain ⟨n7, r7, w7, rfl, h7⟩ := fits_i h6
  obtain ⟨n8, r8, w8, rfl, h8⟩ := fits_i h7
  obtain ⟨n9, r9, w9, rfl, h9⟩ := fits_i h8
  obtain ⟨n10, r10, w10, rfl, h10⟩ := fits_i h9
  obtain ⟨n11, r11, w11, rfl, h11⟩ := fits_i h10
  obtain ⟨n12, r12, w12, rfl, h12⟩ := fits_i h11
  obtain ⟨n13, r13, w13, rfl, h13⟩ := fits_i h12
  obtain ⟨n14, r14, w14, rfl, h14⟩ := fits_i h13
  obtain ⟨n15, r15, w15, rfl, h15⟩ := fits_i h14
  obtain ⟨n16, r16, w16, rfl, h16⟩ := fits_i h15
  obtain ⟨v17, r17, rfl, h17⟩ := fits_a h16
  obtain ⟨v18, r18, rfl, h18⟩ := fits_a h17
  obtain ⟨v19, r19, rfl, h19⟩ := fits_a h18
  obtain rfl := fits_0 h19
  have hts' : Try.prog.cellTypes Try.prog.depth 42 = some [22, 4, 3, 3, 3, 3, 3, 22, 23, 22, 24, 24, 3, 3, 3, 3, 3, 38, 39, 40] := by kernel_rfl
  rw [hts] at hts'
  injection hts' with hts'
  subst hts'
  have k17 : Cell.okWide Try.prog w .any b 38 v17 := by obtain ⟨u, e, hk⟩ := hcell 17 v17 rfl; injection e with e; subst e; exact hk
  have k18 : Cell.okWide Try.prog w .any b 39 v18 := by obtain ⟨u, e, hk⟩ := hcell 18 v18 rfl; injection e with e; subst e; exact hk
  have k19 : Cell.okWide Try.prog w .any b 40 v19 := by obtain ⟨u, e, hk⟩ := hcell 19 v19 rfl; injection e with e; subst e; exact hk
  cases fuel with
  | zero => simp [DataW.trod] at hx
  | succ fuel =>
    have hm := trod_struct_inv Try.underlying42 (by kernel_rfl) hx
    have c38 : Try.prog.cellsOf 38 = 1 := by kernel_rfl
    have c39 : Try.prog.cellsOf 39 = 1 := by kernel_rfl
    have c40 : Try.prog.cellsOf 40 = 1 := by kernel_rfl
    have g17 := hm _ (List.mem_of_getElem? (i := 7) rfl)
    have g18 := hm _ (List.mem_of_getElem? (i := 8) rfl)
    have g19 := hm _ (List.mem_of_getElem? (i := 9) rfl)
    simp only [c38] at g17
    simp only [c39] at g18
    simp only [c40] at g19
    obtain ⟨ps, a0, c0, wf0, m0, e0, at0⟩ := open_rows (cells := Port.cells) (wf := Port.Wf) (z := 89) Try.underlying38 (by kernel_rfl) (by decide) (fun _ => rfl) (fun x v hv => plainV.one ((Rec.port x).plain v hv)) (fun vs h hl => open_port h hl) ⟨b, k17⟩ ⟨fuel, g17⟩
    obtain ⟨os, a1, c1, wf1, m1, e1, at1⟩ := open_rows (cells := Sent.cells) (wf := fun _ => True) (z := 18) Try.underlying39 (by kernel_rfl) (by decide) (fun _ => rfl) (fun x v hv => plainV.one ((Rec.sent x).plain v hv)) (fun vs h hl => open_sent h hl) ⟨b, k18⟩ ⟨fuel, g18⟩
    obtain ⟨fs, a2, c2, wf2, m2, e2, at2⟩ := open_rows (cells := fun n : Int => [Value.int .i64 n]) (wf := fun _ => True) (z := 1) Try.underlying40 (by kernel_rfl) (by decide) (fun _ => rfl) (fun x v hv => by rw [List.mem_singleton.1 hv]; rfl) (fun vs h hl => by
      have h0 := flat_ok 2 (ks := [.int .i64]) (t := 3) (by kernel_rfl) h (by rw [hl]; kernel_rfl)
      obtain ⟨n, r, w, rfl, h1⟩ := fits_i h0
      obtain rfl := fits_0 h1
      exact ⟨n, rfl, trivial⟩) ⟨b, k19⟩ ⟨fuel, g19⟩
    obtain ⟨E, ea0, ea1, ea2, ec0, ec1, ec2⟩ : ∃ E : Env, E.ad 0 = a0 ∧ E.ad 1 = a1 ∧ E.ad 2 = a2 ∧ E.cp 0 = c0 ∧ E.cp 1 = c1 ∧ E.cp 2 = c2 := ⟨⟨fun k => match k with | 0 => a0 | 1 => a1 | _ => a2, fun k => match k with | 0 => c0 | 1 => c1 | _ => c2⟩, rfl, rfl, rfl, rfl, rfl, rfl⟩
    refine ⟨⟨⟨n0, n1, ⟨n2, n3, n4, n5⟩, n6, ⟨n7, n8, n9, n10, n11⟩, n12, ⟨n13, n14, n15, n16⟩⟩, ps, os, fs⟩, E, ⟨wf_u64 w0, wf0⟩,
      by have : maxLen < 9223372036854775808 := of_decide_eq_true (by kernel_rfl)
         exact Nat.lt_of_le_of_lt m0 this, fun S => ⟨?_, ?_⟩⟩
    · rw [show ∀ q : InP, q.arg = .agg _ from fun _ => rfl, SV.den_agg S _ _ rfl, show ∀ (b : Bri) p o f, SV.agg [.v (.int .u64 b.id), .v (.bool b.rst), .rcd (.times b.times), .v (.int .i64 b.hold), .rcd (.vec b.root), .v (.int .i64 b.rootPort), .rcd (.times b.rootT), p, o, f] = b.sv p o f from fun _ _ _ _ => rfl, Bri.sv_cells, e0 E 0 S ea0 ec0, e1 E 1 S ea1 ec1, e2 E 2 S ea2 ec2]
      rfl
    · have hro : ∀ k x, (InP.heap ⟨⟨n0, n1, ⟨n2, n3, n4, n5⟩, n6, ⟨n7, n8, n9, n10, n11⟩, n12, ⟨n13, n14, n15, n16⟩⟩, ps, os, fs⟩).get k = some x → (k = 0 ∧ x = .rows (.port ps)) ∨ (k = 1 ∧ x = .rows (.sent os)) ∨ (k = 2 ∧ x = .rows (.int .i64 fs)) := by
        intro k x hk
        unfold InP.heap at hk
        rw [Heap.get_cons, Heap.get_cons, Heap.get_cons] at hk
        by_cases k0 : k = 0
        · simp only [k0, if_true, Option.some.injEq] at hk; exact .inl ⟨k0, hk.symm⟩
        · by_cases k1 : k = 1
          · simp [k1] at hk; exact .inr (.inl ⟨k1, hk.symm⟩)
          · by_cases k2 : k = 2
            · simp [k2] at hk; exact .inr (.inr ⟨k2, hk.symm⟩)
            · simp [k0, k1, k2, Heap.get] at hk
      refine ⟨fun k x hk hp => ?_, fun k x hk hp _ hr => ?_, fun k k' x x' _ hk _ _ _ hr => ?_, fun k x hk => ?_⟩
      · rcases hro k x hk with ⟨rfl, rfl⟩ | ⟨rfl, rfl⟩ | ⟨rfl, rfl⟩
        · show At w (E.ad 0) _
          rw [ea0]
          refine at0 ?_
          cases ps with
          | nil => exact absurd hp (by simp [SV.size, Rows.z, Rows.len])
          | cons x r => simp
        · show At w (E.ad 1) _
          rw [ea1]
          refine at1 ?_
          cases os with
          | nil => exact absurd hp (by simp [SV.size, Rows.z, Rows.len])
          | cons x r => simp
        · show At w (E.ad 2) _
          rw [ea2]
          refine at2 ?_
          cases fs with
          | nil => exact absurd hp (by simp [SV.size, Rows.z, Rows.len])
          | cons x r => simp
      · rcases hro k x hk with ⟨rfl, _⟩ | ⟨rfl, _⟩ | ⟨rfl, _⟩ <;> cases hr
      · rcases hro k x hk with ⟨rfl, _⟩ | ⟨rfl, _⟩ | ⟨rfl, _⟩ <;> cases hr
      · rcases hro k x hk with ⟨_, rfl⟩ | ⟨_, rfl⟩ | ⟨_, rfl⟩ <;> trivial
end
end Go.Proofs.Ythhdfidenigcaaa
