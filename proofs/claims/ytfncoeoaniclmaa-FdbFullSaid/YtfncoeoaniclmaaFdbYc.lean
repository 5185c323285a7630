/- fordlaw07.FdbFull: why it holds. -/
import Derived.Test.YtfncoeoaniclmaaFdbY
set_option linter.unusedVariables false
set_option maxRecDepth 100000
namespace Go.Proofs.Ytfncoeoaniclmaa
open Go Go.RowKit

/-- three pieces, one behind the other; ahead of the last one a number is told -/
theorem three_cut {c : Ctx} {n fuel : Nat} (hc : CtxFull Try.prog c) (hwin : c.win = []) (hl : ∀ code, LoopsOk Try.prog c n code) {code1 code2 code3 : Code} (e2 : dropSeq 3 code1 = code2) (e3 : dropSeq 1 code2 = code3) {st1 stB stC stE : St} {oB oC oD : Out (Ex × St)}
    (hB : exec c n fuel (takeSeq 3 code1) st1 = oB) (hB' : oB.sel = some (.nrm, stB)) (hC : exec c n fuel (takeSeq 1 code2) stB = oC) (hC' : oC.sel = some (.nrm, stC)) {v k : Int} (h9 : stC.slots.get 9 = some ([], .v (.int .i64 v))) (hv : v = k) {ks : Slots} {L : List Nat} (hks : keepT stC.slots L = ks)
    {nx : Nat} {hp : Heap} (hhp : stC.heap = hp) (hD : exec c n fuel code3 ⟨(9, [], .ki .i64 k) :: ks, hp, nx⟩ = oD) (hD' : oD.sel = some (.ret, stE)) {w0 : World} {M : Nat → Nat → Prop} {Q : Exit → Act → World → Prop} {a : Act} {w : World} {E : Env} (sat : Sat c n w0 M E st1 a w)
    (hK : ∀ E' a' w', Sat c n w0 M E' stE a' w' → Q .ret a' w') : code1.wp Try.prog Q a w := by
  subst hB hC hD e2 e3 hks hhp
  refine cut_ok hc (draw_ok hc) 3 code1 st1 stB a w E (hl _) sat hB' ?_
  intro E2 a2 w2 hu2 _ sat2
  refine cut_ok hc (draw_ok hc) 1 (dropSeq 3 code1) stB stC a2 w2 E2 (hl _) sat2 hC' ?_
  intro E3 a3 w3 hu3 _ sat3
  have sat4 : Sat c n w0 M E3 ⟨(9, [], .ki .i64 k) :: keepT stC.slots L, stC.heap, nx⟩ a3 w3 := by
    refine ⟨fun t p z hz => ?_, sat3.hs, sat3.own, sat3.fr, sat3.win, by rw [hwin]; intro n j k z hm; (cases hm), sat3.size, sat3.defers⟩
    simp only [Slots.get] at hz
    cases h9t : Nat.beq 9 t with
    | true =>
      rw [h9t] at hz
      have := Nat.eq_of_beq_eq_true h9t; subst this
      simp only [cond_true, Option.some.injEq, Prod.mk.injEq] at hz
      obtain ⟨rfl, rfl⟩ := hz
      have := sat3.slots 9 [] _ h9
      rw [hv] at this
      exact this
    | false =>
      rw [h9t] at hz
      exact sat3.slots t p z (keepT_get hz)
  exact exec_ok hc (fuel := fuel) (draw_ok hc) _ (hl _) w0 M Q _ stE .ret a3 w3 E3 sat4 hD' fun E4 a4 w4 _ _ sat5 => hK E4 a4 w4 sat5

theorem full_calls (S : Stat) (x y : Int) (hx : 0 ≤ x ∧ x < 256) (hy : 0 ≤ y ∧ y < 256) (E : Env) (W : World) : Calls Try.prog 5 #[.int .u8 x, .int .u8 y] W fun e w' => e = .returned (.bool true) ∧ Fr W w' (fun _ _ => False) := by
  have hfull := cKV_fam.full (S.wt 0)
  have hS : (cKV (S.wt 0)).S = S.wt 0 := cKV_fam.S _
  have hwin : (cKV (S.wt 0)).win = [] := cKV_fam.win _
  have hl : ∀ n code, LoopsOk Try.prog (cKV (S.wt 0)) n code := fun n code => LoopsOk.none (cKV_fam.loop _) code
  have hn : (fnOf 5).ntmps = 105 := by kernel_rfl
  obtain ⟨i, hi, hin⟩ : ∃ i : Nat, i < 8 ∧ IntKind.i64.wrap (2 + IntKind.i64.wrap (x.tmod 8)) = ((i + 2 : Nat) : Int) := by
    have h1 : 0 ≤ x.tmod 8 ∧ x.tmod 8 < 8 := by
      rw [Int.tmod_eq_emod_of_nonneg hx.1]
      omega
    refine ⟨(x.tmod 8).toNat, by omega, ?_⟩
    rw [IntKind.wrap_i64, IntKind.wrap_i64]
    omega
  obtain ⟨k, hk, hkk⟩ : ∃ k : Nat, k < i + 2 ∧ (IntKind.i64.wrap y).tmod ((i + 2 : Nat) : Int) = ((k : Nat) : Int) := by
    have hw : IntKind.i64.wrap y = y := by rw [IntKind.wrap_i64]; omega
    rw [hw, Int.tmod_eq_emod_of_nonneg hy.1]
    have h1 := Int.emod_nonneg y (b := ((i + 2 : Nat) : Int)) (by omega)
    have h2 := Int.emod_lt_of_pos y (b := ((i + 2 : Nat) : Int)) (by omega)
    exact ⟨(y % ((i + 2 : Nat) : Int)).toNat, by omega, by omega⟩
  have hb := full_b S y i hi
  unfold runsB at hb
  simp only [Bool.and_eq_true] at hb
  obtain ⟨hb1, hb2, hb3⟩ := hb
  have hd := full_d S i hi
  unfold runsD at hd
  rw [List.all_eq_true] at hd
  have hd := hd k (List.mem_range.2 hk)
  simp only [Bool.and_eq_true] at hd
  obtain ⟨hd1, hd2⟩ := hd
  obtain ⟨v, hv, hvt⟩ := isT_ok hd2
  have key := enter_ok (P := Try.prog) (c := cKV (S.wt 0)) (fnOf_eq Try.func5) hfull hwin (code := fullC) (by kernel_rfl) (args := [.v (.int .u8 x), .v (.int .u8 y)]) (H := []) (H' := (stOf (sD S i k)).heap) (nx := 0) (nx' := 0) (v := v) (by rw [hn]; show 2 ≤ 105; omega) (E := E) (w := W)
    ⟨fun k x hk => by simp [Heap.get] at hk, fun k x hk => by simp [Heap.get] at hk, fun k k' x x' _ hk => by simp [Heap.get] at hk, fun k x hk => by simp [Heap.get] at hk⟩ ?_
  · have he : SV.dens (cKV (S.wt 0)).S E [.v (.int .u8 x), .v (.int .u8 y)] = [.int .u8 x, .int .u8 y] := by simp [SV.dens, SV.den]
    rw [he] at key
    refine key.mono ?_
    rintro e w' ⟨E', _, _, rfl, _, hfr, _⟩
    refine ⟨by rw [hvt], hfr.mono fun b j _ hm => ?_⟩
    obtain ⟨k, z, hk, _⟩ := hm
    simp [Heap.get] at hk
  · intro a sat
    rw [hn] at sat ⊢
    have ha := congrArg Out.sel (full_a S x y)
    obtain ⟨st0, ha1, ha2⟩ := trimO_sel (show _ = some (Ex.nrm, _) from ha)
    refine cut_ok hfull (draw_ok hfull) 3 fullC _ _ a W E (hl _ _) sat ha1 ?_
    intro E1 a1 w1 hu1 _ sat1
    have sat1 := sat1.trim hwin [1, 5, 6] 0
    rw [← ha2] at sat1
    have sat1 : Sat (cKV (S.wt 0)) 105 W (MH (cKV (S.wt 0)).S E []) E1 (st1F ((i + 2 : Nat) : Int) y) a1 w1 :=
      sat1.re ⟨⟨⟨_, rfl, rfl⟩, ⟨_, rfl, rfl⟩, ⟨_, rfl, by rw [hin]; rfl⟩, trivial⟩, trivial, rfl, hwin⟩
    obtain ⟨u, hu9, hu⟩ : ∃ u, (stOf (sC S i y)).slots.get 9 = some ([], .v (.int .i64 u)) ∧ u = ((k : Nat) : Int) := by
      have h9 := full_9 S y i hi
      unfold slot9 at h9
      split at h9
      · rename_i u hu
        injection h9 with h9
        exact ⟨u, hu, h9.trans hkk⟩
      · cases h9
    refine three_cut hfull hwin (hl _) (fuel := 20) (code1 := dropSeq 3 fullC) rfl rfl (st1 := st1F ((i + 2 : Nat) : Int) y) (oB := sB S i y) (oC := sC S i y) (oD := sD S i k) rfl (isN_ok hb1) rfl (isN_ok hb2) hu9 hu (full_s S y i hi) (full_h S y i hi) (nx := (stOf (sB S i 0)).next) rfl (isR_ok hd1) sat1 ?_
    intro E4 a4 w4 sat5
    refine ⟨.inr rfl, E4, _, fun k hk => absurd hk (Nat.not_lt_zero k), sat5, ?_, rfl, Nat.le_refl _⟩
    rw [show (fnOf 5).results.toList = [.tmp 4] from by kernel_rfl]
    exact hv
end Go.Proofs.Ytfncoeoaniclmaa
