/- BridgeRange: the law. -/
import Derived.Test.YtjemfkoamfnofaaGreatPl
import Derived.Test.YtjemfkoamfnofaaGreatCm
set_option linter.unusedVariables false
set_option maxRecDepth 100000
namespace Go.Proofs.YtjemfkoamfnofaaGreat
open Go Go.RowKit

theorem Rest.fwd {n : Nat} {s : BS} (h : Rest n s) {j : Nat} (hj : j < n) (hr : (ptAt s j).role < 3) : (ptAt s j).flags.learn = false ∧ (ptAt s j).flags.forward = false ∧ (ptAt s j).flags.learning = false ∧ (ptAt s j).flags.forwarding = false := by
  have hp := h.i.i.p j hj
  have hq := h.quiet hj
  have h2 : (ptAt s j).states.trans ≠ 2 := fun e => by have := hp.tr.2.2.1 e; omega
  have h3 : (ptAt s j).states.trans ≠ 3 := fun e => by have := hp.tr.2.2.2 e; omega
  obtain ⟨e1, e2⟩ := hp.lf h2 h3
  have hf := hq.pass
  unfold passFire at hf
  rw [e1, e2] at hf
  have hr := hp.st.pass
  have h0 : (ptAt s j).states.pass = 0 := by
    simp at hf
    omega
  obtain ⟨e3, e4⟩ := hp.pass.1 h0
  exact ⟨e1, e2, e3, e4⟩
theorem range_port {n : Nat} {s : BS} (h : Rest n s) {j : Nat} (hj : j < n) : rgOut s.b (ptAt s j) = false := by
  have hp := h.i.i.p j hj
  have hq := h.quiet hj
  have hb := h.i.i.b
  have a1 := hp.role
  have a2 := hp.is_
  have a3 := hp.st
  have hro := hq.role
  unfold rgOut
  rw [Bool.or_eq_false_iff]
  constructor
  · unfold outP
    simp only [Bool.or_eq_false_iff, decide_eq_false_iff_not, bne_eq_false_iff_eq]
    have b1 := a3.rx; have b2 := a3.mig; have b3 := a3.edge; have b4 := a3.info; have b5 := a3.trans; have b6 := a3.pass; have b7 := a3.topo
    exact ⟨⟨⟨⟨⟨⟨⟨⟨⟨⟨⟨⟨⟨⟨⟨⟨⟨⟨by omega, by omega⟩, hro⟩, by omega⟩, by omega⟩, by omega⟩, by omega⟩, by omega⟩, by omega⟩, by omega⟩, by omega⟩, by omega⟩, by omega⟩, by omega⟩, by omega⟩, by omega⟩, by omega⟩, by omega⟩, by omega⟩
  · unfold out2P
    have htx := hp.ck.tx
    rw [hb.hold]
    have e1 : decide ((ptAt s j).clocks.txCount > 6) = false := decide_eq_false (by omega)
    have e2 : ((ptAt s j).flags.forwarding && decide ((ptAt s j).role < 3)) = false := by
      by_cases hr : (ptAt s j).role < 3
      · rw [(h.fwd hj hr).2.2.2]; rfl
      · rw [decide_eq_false hr, Bool.and_false]
    have e3 : (((ptAt s j).role == 0) == (ptAt s j).enabled) = false := by
      cases hen : (ptAt s j).enabled with
      | true =>
        have := hq.on.1 hen
        rw [show ((ptAt s j).role == 0) = false from by simpa using this]; rfl
      | false =>
        have : (ptAt s j).role = 0 := by
          rcases Decidable.em ((ptAt s j).role = 0) with h0 | h0
          · exact h0
          · rw [hq.on.2 h0] at hen; cases hen
        rw [this]; rfl
    rw [e1, e2, e3]; rfl
theorem fewT_true {c : Int} {t : Times} (h : Upt c t) (hc : c ≤ 65535) : fewT t = true := by
  have := h.age; have := h.max; have := h.hello; have := h.delay
  simp only [fewT, Bool.and_eq_true, decide_eq_true_eq]
  exact ⟨⟨⟨⟨⟨⟨⟨by omega, by omega⟩, by omega⟩, by omega⟩, by omega⟩, by omega⟩, by omega⟩, by omega⟩
theorem right_rest {n : Nat} {s : BS} (h : Inv n s) (hn : n ≤ 32) : rightF s.b s.ps = true := by
  have hb := h.b
  unfold rightF
  have e1 : headBad s.b s.ps.length = false := by
    unfold headBad
    rw [hb.times, hb.hold, fewT_true hb.rt (by decide), h.len]
    have e2 : decide ((n : Int) > 32) = false := decide_eq_false (by omega)
    have e3 : decide (s.b.rootPort < -1) = false := decide_eq_false (by have := hb.rp; omega)
    have e4 : decide (s.b.rootPort ≥ (n : Int)) = false := decide_eq_false (by have := hb.rp; omega)
    rw [e2, e3, e4]
    rfl
  have e2 : s.ps.any portBad = false := by
    cases hc : s.ps.any portBad with
    | false => rfl
    | true =>
      obtain ⟨x, hx, hbad⟩ := List.any_eq_true.1 hc
      obtain ⟨j, hj, e⟩ := List.getElem_of_mem hx
      have hp := h.p j (by rw [← h.len]; exact hj)
      have e2 : ptAt s j = x := by
        show s.ps.getD j Port.dflt = x
        rw [List.getD_eq_getElem?_getD, List.getElem?_eq_getElem hj]
        exact e
      rw [e2] at hp
      have ck := hp.ck
      have c1 := ck.ed; have c2 := ck.fd; have c3 := ck.hello; have c4 := ck.md; have c5 := ck.rb; have c6 := ck.ri; have c7 := ck.rr; have c8 := ck.tc; have c9 := ck.tx
      have cb : ∀ n : Int, 0 ≤ n ∧ n ≤ 1000 → clkBad n = false := fun n hn => by
        unfold clkBad
        rw [decide_eq_false (by omega), decide_eq_false (by omega)]; rfl
      unfold portBad portBads at hbad
      rw [cb _ c1, cb _ c2, cb _ c3, cb _ c4, cb _ c5, cb _ c6, cb _ c7, cb _ c8, cb _ ⟨c9.1, by omega⟩, fewT_true hp.t1 (by decide), fewT_true hp.t2 (by decide), fewT_true hp.t3 (by decide)] at hbad
      cases hbad
  rw [e1, e2]; rfl
theorem cnt_one (rp : Int) : ∀ (l : List Port) (i : Nat) (x : Int), 0 ≤ x → x ≤ 1000 → (∀ j, j < l.length → (l.getD j Port.dflt).role = 3 → rp = ((i + j : Nat) : Int)) → rgCnt l x ≤ x + 1 ∧ (rp < i → rgCnt l x = x)
  | [], i, x, _, _, _ => ⟨by show x ≤ x + 1; omega, fun _ => rfl⟩
  | p :: r, i, x, h0, h1, h => by
    have hr : ∀ j, j < r.length → (r.getD j Port.dflt).role = 3 → rp = ((i + 1 + j : Nat) : Int) := fun j hj e => by
      have := h (j + 1) (by simpa using hj) (by simpa using e)
      rw [this]; omega
    rw [rgCnt]
    split
    · rename_i h3
      have h3 : p.role = 3 := by simpa using h3
      have hrp := h 0 (by simp) (by simpa using h3)
      rw [wrap_small (by omega) (by omega)]
      by_cases hx : x = 1000
      · have := (cnt_one rp r (i + 1) 1000 (by omega) (by omega) hr)
        -- the rest has none
        have key : ∀ (l : List Port) (y : Int), (∀ j, j < l.length → (l.getD j Port.dflt).role ≠ 3) → rgCnt l y = y := by
          intro l
          induction l with
          | nil => intro y _; rfl
          | cons q t ih =>
            intro y hq
            rw [rgCnt, if_neg (by simpa using hq 0 (by simp))]
            exact ih y fun j hj => by have := hq (j + 1) (by simpa using hj); simpa using this
        have := key r (x + 1) (fun j hj e => by have := hr j hj e; omega)
        rw [this]
        exact ⟨by omega, fun h => by omega⟩
      · obtain ⟨_, h2⟩ := cnt_one rp r (i + 1) (x + 1) (by omega) (by omega) hr
        rw [h2 (by omega)]
        exact ⟨by omega, fun h => by omega⟩
    · obtain ⟨a, b⟩ := cnt_one rp r (i + 1) x h0 h1 hr
      exact ⟨a, fun h => b (by omega)⟩
theorem range_true (S : Stat) (p : TlP) (hp : ∀ a ∈ p.A, 0 ≤ a.port ∧ a.port < 256) : ∃ v, (rgW S p).sel = some v ∧ ∀ S' E, v.den S' E = .bool true := by
  cases hG : rsG p with
  | true => exact ⟨_, Out.way_sel (rgw_far S p) (by rw [hG]), fun _ _ => rfl⟩
  | false =>
    have hG' := hG
    simp only [rsG, Bool.or_eq_false_iff, decide_eq_false_iff_not] at hG
    have h1 : 1 ≤ p.L.length := by omega
    have h5 : p.L.length ≤ 5 := by omega
    have hL : rsL p = true := decide_eq_true ⟨rfl, rfl, by omega⟩
    cases ht : p.A.any noTold with
    | true => exact ⟨_, Out.way_sel (rgw_told S p) (by rw [hG', hL, ht]), fun _ _ => rfl⟩
    | false =>
      obtain ⟨r1, r2, r3, r4⟩ := live_rest (rst := p.rst) h1 h5 hp ht
      have r2 : Rest p.L.length (rsS p) := r2
      have hV : rsV p = true := by
        have : lvOk p.rst p.L p.A = true := by
          unfold lvOk
          rw [new_ok5 p.rst p.L (by omega), Bool.true_and]
          exact decide_eq_true ⟨h1, by omega, by omega, hp⟩
        unfold rsV
        rw [this]
        simp
      have hlen : (rsS p).ps.length = p.L.length := r2.i.i.len
      have hno : (rsS p).ps.any (rgOut (rsS p).b) = false := by
        cases hc : (rsS p).ps.any (rgOut (rsS p).b) with
        | false => rfl
        | true =>
          obtain ⟨x, hx, hb⟩ := List.any_eq_true.1 hc
          obtain ⟨j, hj, e⟩ := List.getElem_of_mem hx
          have e2 : ptAt (rsS p) j = x := by
            show (rsS p).ps.getD j Port.dflt = x
            rw [List.getD_eq_getElem?_getD, List.getElem?_eq_getElem hj]
            exact e
          rw [← e2, range_port r2 (by rw [← hlen]; exact hj)] at hb
          cases hb
      have hcnt : rgCnt (rsS p).ps 0 ≤ 1 := by
        have := (cnt_one (rsS p).b.rootPort (rsS p).ps 0 0 (by decide) (by decide) (fun j hj e => by
          have hj' : j < p.L.length := by rw [← hlen]; exact hj
          have hro := (r2.quiet hj').role
          have e : (ptAt (rsS p) j).role = 3 := e
          rw [Nat.zero_add]
          exact (r2.i.i.p j hj').rt (by rw [← hro]; exact e))).1
        omega
      refine ⟨_, Out.way_sel (rgw_end S p) ?_, fun S' E => ?_⟩
      · rw [hG', hL, ht, hV, hno, decide_eq_true ⟨rfl, by omega⟩, decide_eq_true ⟨rfl, by omega⟩]
        rfl
      · rw [r1, right_rest r2.i.i (by omega), decide_eq_true hcnt]
        rfl
end Go.Proofs.YtjemfkoamfnofaaGreat
