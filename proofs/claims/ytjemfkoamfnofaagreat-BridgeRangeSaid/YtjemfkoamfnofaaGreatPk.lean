/- The first round; Run comes to rest; what is so at rest. -/
import Derived.Test.YtjemfkoamfnofaaGreatPh
set_option linter.unusedVariables false
set_option maxRecDepth 100000
namespace Go.Proofs.YtjemfkoamfnofaaGreat
open Go Go.RowKit

/-- a bridge at rest to which something was done, or one that hasn't begun -/
structure Start (n : Nat) (s : BS) : Prop where
  i : Inv n s
  u : ∀ j, j < n → (ptAt s j).flags.updtInfo = false
  r : s.ps.any askP = false ∨ ∀ j, j < n → (ptAt s j).is_ = 0
/-- within the first round: ports ahead of k had their turn -/
structure Mid (n k : Nat) (s : BS) : Prop where
  i : Inv n s
  u : ∀ j, j < n → (ptAt s j).flags.updtInfo = false
  e : ∀ j, j < n → j < k → (ptAt s j).enabled = false → (ptAt s j).is_ = 0
def g3 (p : Port) : Bool × Int × Bool := (p.enabled, p.is_, p.flags.updtInfo)
theorem Mid.of {n k : Nat} {s s' : BS} (h : Mid n k s) (hi : Inv n s') (hm : s'.ps.map g3 = s.ps.map g3) : Mid n k s' := by
  have hat := fun j => map_at hm j
  refine ⟨hi, fun j hj => ?_, fun j hj hk he => ?_⟩
  · have e : (ptAt s' j).flags.updtInfo = (ptAt s j).flags.updtInfo := congrArg (fun x => x.2.2) (hat j)
    rw [e]; exact h.u j hj
  · have e1 : (ptAt s' j).enabled = (ptAt s j).enabled := congrArg (fun x => x.1) (hat j)
    have e2 : (ptAt s' j).is_ = (ptAt s j).is_ := congrArg (fun x => x.2.1) (hat j)
    rw [e2]; exact h.e j hj hk (by rw [← e1]; exact he)
theorem map13 {s s' : BS} (h : s'.ps.map proj1 = s.ps.map proj1) : s'.ps.map g3 = s.ps.map g3 := by
  have := congrArg (List.map g3) h
  rw [List.map_map, List.map_map, show (g3 ∘ proj1) = g3 from rfl] at this
  exact this
theorem rx_g3 (b : Bri) (p : Port) : g3 ((rxT b p).get (p, false)).1 = g3 p := by
  simp only [rxT, receiveT, Out.get]
  repeat' split
  all_goals rfl
theorem mig_g3 (b : Bri) (p : Port) : g3 ((migT b p).get (p, false)).1 = g3 p := by
  simp only [migT, Out.get]
  repeat' split
  all_goals rfl
theorem info_u {b : Bri} {p : Port} (h : p.flags.updtInfo = false) : (infoF b p).1.flags.updtInfo = false := by
  unfold infoF
  repeat' split
  all_goals first
    | exact h
    | rfl
    | (obtain ⟨_, _, e⟩ := hearP_is (r := b.rst) (p := p)
       exact e.trans h)
theorem info_mid {b : Bri} {k : Nat} {p : Port} (hp : PInv b k p) (h : p.flags.updtInfo = false) : EInv (infoF b p).1 := by
  by_cases hc : (!p.enabled && p.is_ != 0) = true
  · have : (infoF b p).1 = disableP p := by unfold infoF; rw [if_pos hc]
    rw [this]
    exact ⟨fun _ => rfl, fun e => (by have e : p.flags.updtInfo = true := e; rw [h] at e; cases e)⟩
  · refine EInv.info hp ⟨fun e => ?_, fun e => by rw [h] at e; cases e⟩
    rw [e] at hc
    simpa using hc
theorem Mid.low {n k i : Nat} {s : BS} (hk : k < n) (hi : i = 0 ∨ i = 1 ∨ i = 2) (h : Mid n k s) : Mid n k (stp (.m i k) s).1 := by
  have hkn : k < s.ps.length := by rw [h.i.len]; exact hk
  rcases hi with rfl | rfl | rfl
  · exact h.of (h.i.stp (ops_of (by decide) hk)) (loc_map hkn (rx_g3 _ _))
  · exact h.of (h.i.stp (ops_of (by decide) hk)) (loc_map hkn (mig_g3 _ _))
  · exact h.of (h.i.stp (ops_of (by decide) hk)) (loc_map hkn (edge_keep fun _ _ => rfl))
theorem Mid.info {n k : Nat} {s : BS} (hk : k < n) (h : Mid n k s) : Mid n (k + 1) (stp (.m 3 k) s).1 := by
  have hkn : k < s.ps.length := by rw [h.i.len]; exact hk
  refine ⟨h.i.stp (ops_of (by decide) hk), loc_all (P := fun p => p.flags.updtInfo = false) h.i.len hk h.u (info_u (h.u k hk)), fun j hj hjk => ?_⟩
  show (ptAt (ofP infoF s k).1 j).enabled = false → (ptAt (ofP infoF s k).1 j).is_ = 0
  rw [ofP_at infoF s k j hkn]
  split
  · exact (info_mid (h.i.p k hk) (h.u k hk)).en
  · exact h.e j hj (by omega)
theorem Mid.high {n k i : Nat} {s : BS} (hk : k < n) (hi : i = 4 ∨ i = 5 ∨ i = 6 ∨ i = 7) (h : Mid n (k + 1) s) : Mid n (k + 1) (stp (.m i k) s).1 := by
  have hkn : k < s.ps.length := by rw [h.i.len]; exact hk
  rcases hi with rfl | rfl | rfl | rfl
  · refine h.of (h.i.stp (ops_of (by decide) hk)) (map13 (trans_map hkn ?_ (fun _ => rfl) (fun _ => rfl) (fun _ => rfl)))
    have := trR_keep1 (ps := s.ps) (h.i.p k hk) ⟨h.e k hk (by omega), fun e => (by rw [h.u k hk] at e; cases e)⟩
    revert this
    cases trR s.b s.ps k (ptAt s k) <;> intro this <;> first | exact this | trivial
  · exact h.of (h.i.stp (ops_of (by decide) hk)) (map13 (loc_map hkn (pass_keep fun _ _ _ => rfl)))
  · exact h.of (h.i.stp (ops_of (by decide) hk)) (map13 (topo_map hkn (toT_keep1 _ _) (fun _ => rfl) (fun _ => rfl) (fun _ => rfl)))
  · exact h.of (h.i.stp (ops_of (by decide) hk)) (map13 (tx_map hkn (fun _ => rfl) (fun _ _ => rfl)))
theorem Mid.port {n k : Nat} {s : BS} (hk : k < n) (h : Mid n k s) : Mid n (k + 1) (fold (portOps k) s) :=
  ((((((((h.low hk (.inl rfl)).low hk (.inr (.inl rfl))).low hk (.inr (.inr rfl))).info hk).high hk (.inl rfl)).high hk (.inr (.inl rfl))).high hk (.inr (.inr (.inl rfl)))).high hk (.inr (.inr (.inr rfl))))
theorem Mid.ports {n : Nat} : ∀ (m k : Nat) (s : BS), k + m = n → Mid n k s → Mid n n (fold (opsN m k) s)
  | 0, k, s, e, h => by
    have : k = n := by omega
    subst this
    exact h
  | m + 1, k, s, e, h => by
    unfold opsN
    rw [fold_app]
    exact Mid.ports m (k + 1) _ (by omega) (h.port (by omega))
theorem Start.sel {n : Nat} {s : BS} (h : Start n s) : Mid n 0 (selF s).1 := by
  refine ⟨h.i.sel, fun j hj => ?_, fun j hj hk => absurd hk (Nat.not_lt_zero _)⟩
  rcases h.r with hr | hr
  · rw [sel_no (by rw [hr]; decide)]; exact h.u j hj
  · by_cases ha : s.ps.any askP = true
    · rw [sel_at ha j (by rw [h.i.len]; exact hj)]
      have := (roleF_keep (stepB s.b s.ps) j (baseP (stepB s.b s.ps) (ptAt s j))).2.2 (hr j hj)
      exact this.trans (h.u j hj)
    · rw [sel_no ha]; exact h.u j hj
theorem first_round {n : Nat} {s : BS} (h : Start n s) : Inv2 n (fold (ops s.ps.length) s) := by
  rw [h.i.len]
  have := Mid.ports n 0 (selF s).1 (by omega) h.sel
  exact ⟨this.i, fun j hj => ⟨this.e j hj hj, fun e => (by have e2 := this.u j hj; rw [show (ptAt (fold (opsN n 0) (selF s).1) j).flags.updtInfo = true from e] at e2; cases e2)⟩⟩
/-- a bridge at rest -/
structure Rest (n : Nat) (s : BS) : Prop where
  i : Inv2 n s
  s : still s
theorem still_stp {n : Nat} {s : BS} (hn : s.ps.length = n) (h : still s) : ∀ o ∈ ops n, (stp o s).2 = false := by
  unfold still at h
  rw [hn] at h
  exact (still_fold (lazy n) (ops n) s hn (fun _ h => h) h).2
theorem Start.run {n : Nat} (h5 : n ≤ 5) {s : BS} (h : Start n s) : (runF s).2.2 = true ∧ Rest n (runF s).1 ∧ ∃ j, (runF s).1 = iter j s := by
  obtain ⟨m, hm, _, hst⟩ := rests h5 (first_round h)
  obtain ⟨j, hj, e1, e2, e3⟩ := runN_still (lazy n) (by omega) 1000 (m + 1) s 0 h.i.len (by omega) hst
  refine ⟨e2, ?_, j, e1⟩
  show Rest n (runN 1000 s 0).1
  rw [e1]
  refine ⟨?_, e3⟩
  cases j with
  | zero =>
    have hs := still_stp h.i.len e3
    refine ⟨h.i, fun j hj => ⟨fun e => ?_, fun e => (by have e : (ptAt s j).flags.updtInfo = true := e; rw [h.u j hj] at e; cases e)⟩⟩
    have := hs (.m 3 j) (ops_of (by decide) hj)
    have this : (stp (.m 3 j) s).2 = false := this
    rw [stp_info] at this
    unfold infoFire at this
    simp only [Bool.or_eq_false_iff] at this
    have h1 := this.1.1.1.1.1
    have e : (ptAt s j).enabled = false := e
    rw [e] at h1
    have h2 : (ptAt s j).is_ = 0 := by simpa using h1
    exact h2
  | succ j =>
    show Inv2 n (iter j (fold (ops s.ps.length) s))
    have key : ∀ (j : Nat) (s : BS), Inv2 n s → Inv2 n (iter j s) := by
      intro j
      induction j with
      | zero => intro s h; exact h
      | succ j ih =>
        intro s h
        refine ih _ ?_
        have kf : ∀ (l : List Op) (s : BS), (∀ o ∈ l, o ∈ ops n) → Inv2 n s → Inv2 n (fold l s) := by
          intro l
          induction l with
          | nil => intro s _ h; exact h
          | cons o r ih => intro s hm h; exact ih _ (fun o' ho => hm o' (List.mem_cons_of_mem _ ho)) (h.stp (hm o List.mem_cons_self))
        exact kf _ s (fun o ho => by rw [h.i.len] at ho; exact ho) h
    exact key j _ (first_round h)
/-! ### what is so at rest -/
theorem Rest.off {n : Nat} {s : BS} (h : Rest n s) : ∀ o ∈ ops n, (stp o s).2 = false := still_stp h.i.i.len h.s
structure AtRest (p : Port) : Prop where
  res : p.flags.reselect = false
  sel : p.flags.selected = true
  upd : p.flags.updtInfo = false
  msg : p.flags.rcvdMsg = false
  bpdu : p.flags.rcvdBpdu = false
  flush : p.flags.flush = false
  role : p.role = p.selected
  on : p.enabled = true ↔ p.role ≠ 0
  off : p.enabled = false ↔ p.is_ = 0
  info : p.states.info ≠ 1
  rx : rxFire p = false
  mig : ∃ r, migFire r p = false
  edge : edgeFire p = false
  infoq : infoFire p = false
  pass : passFire p = false
  topo : toFire p = false
theorem Rest.ask {n : Nat} {s : BS} (h : Rest n s) : s.ps.any askP = false := by
  have := h.off .sel List.mem_cons_self
  rw [stp_sel] at this
  exact this
theorem any_at {f : Port → Bool} : ∀ {l : List Port} {j : Nat}, l.any f = false → j < l.length → f (l.getD j Port.dflt) = false
  | [], j, _, h => absurd h (Nat.not_lt_zero _)
  | p :: r, 0, h, _ => by simp only [List.any_cons, Bool.or_eq_false_iff] at h; exact h.1
  | p :: r, j + 1, h, hj => by
    simp only [List.any_cons, Bool.or_eq_false_iff] at h
    exact any_at (l := r) h.2 (by simpa using hj)
theorem Rest.trans {n : Nat} {s : BS} (h : Rest n s) {j : Nat} (hj : j < n) : trFire s.b s.ps j (ptAt s j) = false := by
  have := h.off (.m 4 j) (ops_of (by decide) hj)
  rw [stp_trans] at this
  exact this
theorem Rest.quiet {n : Nat} {s : BS} (h : Rest n s) {j : Nat} (hj : j < n) : AtRest (ptAt s j) := by
  have hp := h.i.i.p j hj
  have he := h.i.e j hj
  have hjl : j < s.ps.length := by rw [h.i.i.len]; exact hj
  have f : ∀ i, i < 8 → (stp (.m i j) s).2 = false := fun i hi => h.off (.m i j) (ops_of hi hj)
  have f0 := f 0 (by decide); rw [stp_rx] at f0
  have f1 := f 1 (by decide); rw [stp_mig] at f1
  have f2 := f 2 (by decide); rw [stp_edge] at f2
  have f3 := f 3 (by decide); rw [stp_info] at f3
  have f5 := f 5 (by decide); rw [stp_pass] at f5
  have f6 := f 6 (by decide); rw [stp_topo] at f6
  have hres : (ptAt s j).flags.reselect = false := any_at h.ask hjl
  have hsel : (ptAt s j).flags.selected = true := by rw [hp.rs, hres]; rfl
  have g3 := f3
  unfold infoFire at g3
  simp only [Bool.or_eq_false_iff] at g3
  obtain ⟨⟨⟨⟨⟨q1, q2⟩, q3⟩, q4⟩, q5⟩, q6⟩ := g3
  have hupd : (ptAt s j).flags.updtInfo = false := by
    cases hu : (ptAt s j).flags.updtInfo with
    | false => rfl
    | true =>
      have hi := he.ui hu
      unfold toldP at q4 q5
      rw [hsel, hu] at q4 q5
      have hr := hp.st.info
      have h0 : (ptAt s j).states.info ≠ 0 := fun e => hi (hp.inf.1.1 e)
      simp at q4 q5
      omega
  have hinfo : (ptAt s j).states.info ≠ 1 := fun e => by
    rcases hp.i1 e with h1 | h1
    · rw [hres] at h1; cases h1
    · rw [hupd] at h1; cases h1
  have hmsg : (ptAt s j).flags.rcvdMsg = false := by
    cases hm : (ptAt s j).flags.rcvdMsg with
    | false => rfl
    | true =>
      rw [hm] at q2 q6
      rw [hupd] at q6
      have hr := hp.st.info
      simp at q2 q6
      omega
  have g0 := f0
  unfold rxFire at g0
  rw [hmsg] at g0
  simp only [Bool.or_eq_false_iff] at g0
  have hbp : (ptAt s j).flags.rcvdBpdu = false := by
    cases hb : (ptAt s j).flags.rcvdBpdu with
    | false => rfl
    | true =>
      obtain ⟨⟨a1, a2⟩, a3⟩ := g0
      rw [hb] at a1 a2 a3
      have hr := hp.st.rx
      cases hen : (ptAt s j).enabled with
      | false => rw [hen] at a1; simp at a1
      | true =>
        rw [hen] at a2 a3
        simp at a2 a3
        omega
  have hfl : (ptAt s j).flags.flush = false := by
    unfold toFire at f6
    simp only [Bool.or_eq_false_iff] at f6
    exact f6.1.1.1
  have hro : (ptAt s j).role = (ptAt s j).selected := by
    have ht := h.trans hj
    unfold trFire at ht
    rw [hsel, hupd] at ht
    simp only [Bool.not_false, Bool.and_self, Bool.true_and, Bool.or_eq_false_iff] at ht
    exact roles_eq hp ht.1
  have hoff : (ptAt s j).enabled = false ↔ (ptAt s j).is_ = 0 := by
    refine ⟨he.en, fun e => ?_⟩
    have hi := hp.inf.1.2 e
    rw [hi] at q3
    simpa using q3
  refine ⟨hres, hsel, hupd, hmsg, hbp, hfl, hro, ?_, hoff, hinfo, f0, ⟨_, f1⟩, f2, f3, f5, f6⟩
  rw [hro]
  constructor
  · intro e
    refine hp.is1 (fun e0 => ?_) hsel
    rw [hoff.2 e0] at e; cases e
  · intro hne
    cases hen : (ptAt s j).enabled with
    | true => rfl
    | false => exact absurd (hp.is0 (hoff.1 hen) hsel) hne
end Go.Proofs.YtjemfkoamfnofaaGreat
