/- What each machine asks for before it steps; the first layer: what comes in, protocols, information, roles. -/
import Derived.Test.YtjemfkoamfnofaaGreatPa
set_option linter.unusedVariables false
set_option maxRecDepth 100000
namespace Go.Proofs.YtjemfkoamfnofaaGreat
section
open Go Go.RowKit

/-! ### does a machine step? -/
def rxFire (p : Port) : Bool := (!p.enabled && (p.flags.rcvdBpdu || p.clocks.edgeDelay != 3)) || (p.states.rx == 0 && p.flags.rcvdBpdu && p.enabled) || (p.states.rx == 1 && p.flags.rcvdBpdu && p.enabled && !p.flags.rcvdMsg)
def migFire (rst : Bool) (p : Port) : Bool := (p.states.mig == 0 && p.clocks.mdelay == 0) || (p.states.mig == 0 && (p.clocks.mdelay != 3 && !p.enabled)) || (p.states.mig == 2 && (!p.enabled || p.flags.mcheck || rst && p.flags.rcvdRst && !p.flags.sendRst)) ||
  (p.states.mig == 2 && (p.flags.sendRst && p.flags.rcvdStp)) || (p.states.mig == 1 && (p.clocks.mdelay == 0 || !p.enabled || p.flags.mcheck))
def edgeFire (p : Port) : Bool := (p.states.edge == 0 && leavesB p) || (p.states.edge == 1 && entersB p)
def passFire (p : Port) : Bool := (p.states.pass == 0 && p.flags.learn) || (p.states.pass == 1 && !p.flags.learn) || (p.states.pass == 1 && p.flags.forward) || (p.states.pass == 2 && !p.flags.forward)
def infoFire (p : Port) : Bool := (!p.enabled && p.is_ != 0) || (p.states.info == 0 && p.flags.rcvdMsg) || (p.states.info == 0 && p.enabled) || (p.states.info == 1 && toldP p) || (p.states.info == 2 && toldP p) ||
  (!(p.states.info != 2 || p.flags.updtInfo) && ((p.is_ == 3 && p.clocks.rcvdInfo == 0 && !p.flags.rcvdMsg) || p.flags.rcvdMsg))
theorem rx_fire (b : Bri) (p : Port) : ((rxT b p).get (p, false)).2 = rxFire p := by
  unfold rxFire
  simp only [rxT, receiveT, Out.get]
  cases (!p.enabled && (p.flags.rcvdBpdu || p.clocks.edgeDelay != 3)) <;> cases (p.states.rx == 0 && p.flags.rcvdBpdu && p.enabled) <;> cases (p.states.rx == 1 && p.flags.rcvdBpdu && p.enabled && !p.flags.rcvdMsg) <;> cases (p.msg.kind == 2) <;> rfl
theorem mig_fire (b : Bri) (p : Port) : ((migT b p).get (p, false)).2 = migFire b.rst p := by
  unfold migFire
  simp only [migT, Out.get]
  cases (p.states.mig == 0 && p.clocks.mdelay == 0) <;> cases (p.states.mig == 0 && (p.clocks.mdelay != 3 && !p.enabled)) <;> cases (p.states.mig == 2 && (!p.enabled || p.flags.mcheck || b.rst && p.flags.rcvdRst && !p.flags.sendRst)) <;>
    cases (p.states.mig == 2 && (p.flags.sendRst && p.flags.rcvdStp)) <;> cases (p.states.mig == 1 && (p.clocks.mdelay == 0 || !p.enabled || p.flags.mcheck)) <;> rfl
theorem edge_fire (b : Bri) (p : Port) : ((edgeT b p).get (p, false)).2 = edgeFire p := by
  unfold edgeFire
  simp only [edgeT, Out.get]
  cases h0 : (p.states.edge == 0) <;> cases h1 : (p.states.edge == 1) <;> cases leavesB p <;> cases entersB p <;> simp_all
theorem pass_fire (b : Bri) (p : Port) : ((passT b p).get (p, false)).2 = passFire p := by
  unfold passFire
  simp only [passT, Out.get]
  cases (p.states.pass == 0 && p.flags.learn) <;> cases (p.states.pass == 1 && !p.flags.learn) <;> cases (p.states.pass == 1 && p.flags.forward) <;> cases (p.states.pass == 2 && !p.flags.forward) <;> rfl
theorem info_fire (b : Bri) (p : Port) : (infoF b p).2 = infoFire p := by
  unfold infoF infoFire
  cases (!p.enabled && p.is_ != 0) <;> cases (p.states.info == 0 && p.flags.rcvdMsg) <;> cases (p.states.info == 0 && p.enabled) <;> cases (p.states.info == 1 && toldP p) <;> cases (p.states.info == 2 && toldP p) <;>
    cases (p.states.info != 2 || p.flags.updtInfo) <;> cases (p.is_ == 3 && p.clocks.rcvdInfo == 0 && !p.flags.rcvdMsg) <;> cases p.flags.rcvdMsg <;> rfl
theorem sel_fire (s : BS) : (selF s).2 = s.ps.any askP := by
  unfold selF
  split
  · rename_i h; rw [h]
  · rename_i h; simpa using h
def trFire (b : Bri) (ps : List Port) (k : Int) (p : Port) : Bool := p.flags.selected && !p.flags.updtInfo && ((rolesL b p).any (·.1) || (statesL (stE p) b ps k p).any (·.1))
theorem pick_no {l : List (Bool × TrR)} (hne : ∀ c, (c, TrR.no) ∉ l) : (∃ x, pick l = x ∧ x ≠ .no) ∨ l.any (·.1) = false := by
  induction l with
  | nil => exact .inr rfl
  | cons e r ih =>
    obtain ⟨c, x⟩ := e
    cases c with
    | true => exact .inl ⟨x, rfl, fun h => hne true (by rw [h]; exact List.mem_cons_self)⟩
    | false =>
      rcases ih (fun c h => hne c (List.mem_cons_of_mem _ h)) with ⟨y, h1, h2⟩ | h
      · exact .inl ⟨y, h1, h2⟩
      · exact .inr (by simpa using h)
theorem pick_none {l : List (Bool × TrR)} (h : l.any (·.1) = false) : pick l = .no := by
  induction l with
  | nil => rfl
  | cons e r ih =>
    obtain ⟨c, x⟩ := e
    simp only [List.any_cons, Bool.or_eq_false_iff] at h
    obtain ⟨rfl, h2⟩ := h
    exact ih h2
theorem roles_no (b : Bri) (p : Port) (c : Bool) : (c, TrR.no) ∉ rolesL b p := by simp [rolesL]
theorem states_no (e : Nat) (b : Bri) (ps : List Port) (k : Int) (p : Port) (c : Bool) : (c, TrR.no) ∉ statesL e b ps k p := by
  match e with
  | 0 | 1 | 4 => simp [statesL]
  | 2 => simp [statesL, trRootL, setsL]
  | 3 => simp [statesL, desL]
  | 5 => simp [statesL, altL, setsL]
  | n + 6 => simp [statesL]
theorem trX_fire (k : Int) (ps : List Port) (x : TrR) : (trX k ps x).2 = true ↔ x ≠ .no := by cases x <;> simp [trX]
theorem trans_fire (s : BS) (k : Int) : (transM s k).2 = trFire s.b s.ps k (s.ps.getD k.toNat Port.dflt) := by
  show (trX k s.ps (trR s.b s.ps k (s.ps.getD k.toNat Port.dflt))).2 = _
  generalize s.ps.getD k.toNat Port.dflt = p
  unfold trFire trR
  cases h1 : p.flags.selected <;> cases h2 : p.flags.updtInfo <;> try rfl
  simp only [Bool.not_true, Bool.or_self, Bool.false_eq_true, if_false, Bool.not_false, Bool.and_self, Bool.true_and]
  cases h : ((rolesL s.b p).any (·.1) || (statesL (stE p) s.b s.ps k p).any (·.1)) with
  | false =>
    rw [pick_none (by rw [List.any_append]; exact h)]
    rfl
  | true =>
    rw [trX_fire]
    rcases pick_no (l := rolesL s.b p ++ statesL (stE p) s.b s.ps k p) (fun c hm => by
      rcases List.mem_append.1 hm with hm | hm
      · exact roles_no _ _ _ hm
      · exact states_no _ _ _ _ _ _ hm) with ⟨x, hx, hn⟩ | hf
    · rw [hx]; exact hn
    · rw [List.any_append, h] at hf; cases hf
/-- does a step's owner step? -/
theorem stp_rx (s : BS) (k : Nat) : (stp (.m 0 k) s).2 = rxFire (ptAt s k) := rx_fire s.b _
theorem stp_mig (s : BS) (k : Nat) : (stp (.m 1 k) s).2 = migFire s.b.rst (ptAt s k) := mig_fire s.b _
theorem stp_edge (s : BS) (k : Nat) : (stp (.m 2 k) s).2 = edgeFire (ptAt s k) := edge_fire s.b _
theorem stp_info (s : BS) (k : Nat) : (stp (.m 3 k) s).2 = infoFire (ptAt s k) := info_fire s.b _
theorem stp_trans (s : BS) (k : Nat) : (stp (.m 4 k) s).2 = trFire s.b s.ps k (ptAt s k) := trans_fire s k
theorem stp_pass (s : BS) (k : Nat) : (stp (.m 5 k) s).2 = passFire (ptAt s k) := pass_fire s.b _
theorem stp_sel (s : BS) : (stp .sel s).2 = s.ps.any askP := sel_fire s

/-! ### what the first layer looks at -/
def proj1 (p : Port) : Port := { Port.dflt with
  enabled := p.enabled, is_ := p.is_,
  clocks := { Port.dflt.clocks with edgeDelay := (if p.enabled = true then 3 else p.clocks.edgeDelay), mdelay := p.clocks.mdelay, rcvdInfo := p.clocks.rcvdInfo },
  states := { Port.dflt.states with rx := p.states.rx, mig := p.states.mig, info := p.states.info },
  flags := { Port.dflt.flags with rcvdBpdu := p.flags.rcvdBpdu, rcvdMsg := p.flags.rcvdMsg, mcheck := p.flags.mcheck, rcvdRst := p.flags.rcvdRst, rcvdStp := p.flags.rcvdStp, sendRst := p.flags.sendRst, selected := p.flags.selected, updtInfo := p.flags.updtInfo, reselect := p.flags.reselect } }
theorem rxFire1 (p : Port) : rxFire (proj1 p) = rxFire p := by
  unfold rxFire proj1
  cases p.enabled <;> simp
theorem migFire1 (r : Bool) (p : Port) : migFire r (proj1 p) = migFire r p := rfl
theorem infoFire1 (p : Port) : infoFire (proj1 p) = infoFire p := rfl
theorem askP1 (p : Port) : askP (proj1 p) = askP p := rfl
/-- who is lowered has no information; who is to update has some -/
structure EInv (p : Port) : Prop where
  en : p.enabled = false → p.is_ = 0
  ui : p.flags.updtInfo = true → p.is_ ≠ 0
theorem EInv.of {p q : Port} (h : EInv p) (e : proj1 q = proj1 p) : EInv q := by
  have e1 : q.enabled = p.enabled := (congrArg Port.enabled e : (proj1 q).enabled = (proj1 p).enabled)
  have e2 : q.is_ = p.is_ := (congrArg Port.is_ e : (proj1 q).is_ = (proj1 p).is_)
  have e3 : q.flags.updtInfo = p.flags.updtInfo := (congrArg (fun x : Port => x.flags.updtInfo) e : (proj1 q).flags.updtInfo = (proj1 p).flags.updtInfo)
  exact ⟨fun h1 => by rw [e2]; exact h.en (by rw [← e1]; exact h1), fun h1 => by rw [e2]; exact h.ui (by rw [← e3]; exact h1)⟩
def Keep1 (p : Port) : TrR → Prop
  | .one q => proj1 q = proj1 p
  | .oneT q => proj1 q = proj1 p
  | _ => True
theorem trR_keep1 {b : Bri} {ps : List Port} {k : Nat} {p : Port} (h : PInv b k p) (he : EInv p) : Keep1 p (trR b ps k p) := by
  refine trR_cases trivial (fun _ _ x hx => ?_) (fun hs _ ha x hx => ?_)
  · simp only [rolesL, List.mem_cons, List.not_mem_nil, or_false, Prod.mk.injEq] at hx
    rcases hx with ⟨_, rfl⟩ | ⟨_, rfl⟩ | ⟨_, rfl⟩ | ⟨_, rfl⟩ <;> rfl
  · cases hE : stE p with
    | zero =>
      rw [hE] at hx
      simp only [statesL, List.mem_cons, List.not_mem_nil, or_false, Prod.mk.injEq] at hx
      obtain ⟨_, rfl⟩ := hx; rfl
    | succ e =>
      rw [hE] at hx
      match e, hE, hx with
      | 0, _, hx =>
        simp only [statesL, List.mem_cons, List.not_mem_nil, or_false, Prod.mk.injEq] at hx
        obtain ⟨_, rfl⟩ := hx; rfl
      | 1, _, hx =>
        simp only [statesL, trRootL, setsL, List.mem_cons, List.mem_append, List.not_mem_nil, or_false, Prod.mk.injEq] at hx
        rcases hx with (⟨_, rfl⟩ | ⟨_, rfl⟩) | ⟨_, rfl⟩ | ⟨_, rfl⟩ | ⟨_, rfl⟩ | ⟨_, rfl⟩ | ⟨_, rfl⟩ <;> first | trivial | rfl
      | 2, hE, hx =>
        have ht : p.states.trans = 3 := stE_trans hE (by decide)
        have hen : p.enabled = true := by
          cases hen : p.enabled with
          | true => rfl
          | false =>
            have h1 := h.is0 (he.en hen) hs
            have h2 := roles_eq h ha
            have h3 := h.tr.2.2.2 ht
            omega
        simp only [statesL, desL, List.mem_cons, List.not_mem_nil, or_false, Prod.mk.injEq] at hx
        rcases hx with ⟨_, rfl⟩ | ⟨_, rfl⟩ | ⟨_, rfl⟩ | ⟨_, rfl⟩ | ⟨_, rfl⟩ | ⟨_, rfl⟩
        · show proj1 _ = proj1 p
          unfold proj1
          simp only [hen, if_true]
        all_goals rfl
      | 3, _, hx =>
        simp only [statesL, List.mem_cons, List.not_mem_nil, or_false, Prod.mk.injEq] at hx
        obtain ⟨_, rfl⟩ := hx; rfl
      | 4, _, hx =>
        simp only [statesL, altL, setsL, List.mem_cons, List.mem_append, List.not_mem_nil, or_false, Prod.mk.injEq] at hx
        rcases hx with (⟨_, rfl⟩ | ⟨_, rfl⟩) | ⟨_, rfl⟩ | ⟨_, rfl⟩ <;> first | trivial | rfl
      | n + 5, _, hx => simp only [statesL, List.not_mem_nil] at hx
/-- what topo makes of its port, as far as others look at it -/
def KeepT {α : Type} (g : Port → α) (p : Port) : ToR → Prop
  | .one q => g q = g p
  | .told q => g q = g p
  | .both q => g q = g p
  | _ => True
theorem beg_keep {α : Type} {g : Port → α} {b : Bri} {p : Port} {f : Port → ToR} (h0 : KeepT g p (f p)) (h1 : KeepT g p (f (begA b p))) (h2 : KeepT g p (f (begB b p))) : KeepT g p (begT b p f).get := by
  simp only [begT, ToT.get]
  split
  · exact h0
  · split
    · exact h1
    · exact h2
theorem toT_keep {α : Type} {g : Port → α} {b : Bri} {p : Port} (hc : g (clearsP p) = g p) (hq : g (quietP p) = g p) (ha : g (ackP p) = g p) (hn : ∀ q, g (notesP q) = g q) (hp : ∀ q, g (propP q) = g q) (hA : g (begA b p) = g p) (hB : g (begB b p) = g p) : KeepT g p (toT b p).get := by
  simp only [toT, ToT.get]
  repeat' split
  all_goals first
    | trivial
    | exact hc
    | exact hq
    | exact ha
    | exact hn p
    | exact beg_keep rfl hA hB
    | exact beg_keep (hn p) ((hn _).trans hA) ((hn _).trans hB)
    | exact beg_keep (hp p) ((hp _).trans hA) ((hp _).trans hB)
theorem toT_keep1 (b : Bri) (p : Port) : KeepT proj1 p (toT b p).get := toT_keep rfl rfl rfl (fun _ => rfl) (fun _ => rfl) rfl rfl
/-- a step of topo, as far as others look at ports -/
theorem topo_map {α : Type} {g : Port → α} {s : BS} {k : Nat} (hk : k < s.ps.length) (h1 : KeepT g (ptAt s k) (toT s.b (ptAt s k)).get) (hp : ∀ q, g (tcP q) = g q) (ha : ∀ q, g (activeP (newsP q)) = g q) (hf : ∀ q : Port, g { q with flags := { q.flags with flush := false } } = g q) : (topoF s k).1.ps.map g = s.ps.map g := by
  refine map_ext g (stp_len (.m 6 k) s) fun j hj => ?_
  have hj' : j < s.ps.length := by rw [← stp_len (.m 6 k) s]; exact hj
  show g (ptAt (topoF s k).1 j) = g (ptAt s j)
  rw [topo_at s k j hk hj']
  cases hr : (toT s.b (ptAt s k)).get with
  | no => rfl
  | one q => rw [hr] at h1; unfold toAt; dsimp only; split; (rename_i e; subst e; exact h1); rfl
  | told q => rw [hr] at h1; unfold toAt; dsimp only; split; (rename_i e; subst e; exact h1); exact hp _
  | both q => rw [hr] at h1; unfold toAt; dsimp only; split; (rename_i e; subst e; exact (ha q).trans h1); exact hp _
  | flush => unfold toAt; dsimp only; split; (rename_i e; subst e; exact hf _); rfl
theorem tx_map {α : Type} {g : Port → α} {s : BS} {k : Nat} (hk : k < s.ps.length) (ha : ∀ q, g (txAsk s.b q) = g q) (hs : ∀ q a, g (txSent s.b q a) = g q) : (txF s k).1.ps.map g = s.ps.map g := by
  refine map_ext g (stp_len (.m 7 k) s) fun j hj => ?_
  show g (ptAt (txF s k).1 j) = g (ptAt s j)
  rw [tx_at s k j hk]
  have hp : ∀ m a d q, txPick s.b (ptAt s k) m a d = .one q → g q = g (ptAt s k) := by
    intro m a d q h
    unfold txPick at h
    split at h
    · cases h
    · split at h
      · injection h with h; rw [← h]; exact ha _
      · split at h <;> cases h
  cases hr : txR s.b k (ptAt s k) with
  | no => rfl
  | one q =>
    have hq : g q = g (ptAt s k) := by
      unfold txR at hr
      split at hr
      · exact hp _ _ _ _ hr
      · split at hr
        · exact hp _ _ _ _ hr
        · exact hp _ _ _ _ hr
    unfold txAt; dsimp only; split; (rename_i e; subst e; exact hq); rfl
  | send a d => unfold txAt; dsimp only; split; (rename_i e; subst e; exact hs _ _); rfl
theorem trans_map {α : Type} {g : Port → α} {s : BS} {k : Nat} (hk : k < s.ps.length) (h1 : match trR s.b s.ps k (ptAt s k) with | .one q => g q = g (ptAt s k) | .oneT q => g q = g (ptAt s k) | _ => True) (hs : ∀ q, g (syU 0 q) = g q) (hn : ∀ q, g (noProp q) = g q) (hr : ∀ q, g (rrU 0 q) = g q) : (transM s k).1.ps.map g = s.ps.map g := by
  refine map_ext g (stp_len (.m 4 k) s) fun j hj => ?_
  have hj' : j < s.ps.length := by rw [← stp_len (.m 4 k) s]; exact hj
  show g (ptAt (transM s k).1 j) = g (ptAt s j)
  rw [trans_at s k j hk hj']
  cases hR : trR s.b s.ps k (ptAt s k) with
  | no => rfl
  | one q => rw [hR] at h1; unfold trAt; dsimp only; split; (rename_i e; subst e; exact h1); rfl
  | oneT q => rw [hR] at h1; unfold trAt; dsimp only; split; (rename_i e; subst e; exact h1); rfl
  | syncs => unfold trAt; dsimp only; split; (rename_i e; subst e; exact (hn _).trans (hs _)); exact hs _
  | reRoots => exact hr _
theorem loc_map {α : Type} {g : Port → α} {s : BS} {k : Nat} {F : Bri → Port → Port × Bool} (hk : k < s.ps.length) (h : g (F s.b (ptAt s k)).1 = g (ptAt s k)) : (ofP F s k).1.ps.map g = s.ps.map g := by
  refine map_ext g (by rw [(ofP_mach F).len]) fun j hj => ?_
  show g (ptAt (ofP F s k).1 j) = g (ptAt s j)
  rw [ofP_at F s k j hk]
  split
  · rename_i e; subst e; exact h
  · rfl
theorem edge_keep {α : Type} {g : Port → α} {b : Bri} {p : Port} (h : ∀ e o, g (edgeP p e o) = g p) : g ((edgeT b p).get (p, false)).1 = g p := by
  simp only [edgeT, Out.get]
  repeat' split
  all_goals first | exact h _ _ | rfl
theorem pass_keep {α : Type} {g : Port → α} {b : Bri} {p : Port} (h : ∀ l f st, g (passP p l f st) = g p) : g ((passT b p).get (p, false)).1 = g p := by
  simp only [passT, Out.get]
  repeat' split
  all_goals first | exact h _ _ _ | rfl
end

section
open Go Go.RowKit

theorem EInv.rx {b : Bri} {p : Port} (h : EInv p) : EInv ((rxT b p).get (p, false)).1 := by
  have h1 : EInv (discardP p) := ⟨h.en, h.ui⟩
  have h2 : ∀ q : Port, EInv q → EInv (receiveP q) := fun q h => ⟨h.en, h.ui⟩
  have h3 : EInv ((receiveT p).get (p, false)).1 := by
    simp only [receiveT, Out.get]
    split
    · exact h2 _ ⟨h.en, h.ui⟩
    · exact h2 _ ⟨h.en, h.ui⟩
  simp only [rxT, Out.get]
  split
  · exact h1
  · split
    · exact h3
    · split
      · exact h3
      · exact h
theorem EInv.mig {b : Bri} {p : Port} (h : EInv p) : EInv ((migT b p).get (p, false)).1 := by
  have h1 : EInv (senseP p) := ⟨h.en, h.ui⟩
  have h2 : EInv (checkP b.rst p) := ⟨h.en, h.ui⟩
  have h3 : EInv (chooseP p) := ⟨h.en, h.ui⟩
  simp only [migT, Out.get]
  repeat' split
  all_goals first | exact h1 | exact h2 | exact h3 | exact h
theorem EInv.on {p : Port} (h : EInv p) (hi : p.is_ ≠ 0) : p.enabled = true := by
  cases he : p.enabled with
  | true => rfl
  | false => exact absurd (h.en he) hi
theorem supP_keep (r : Bool) (p : Port) : (superiorP r p).enabled = p.enabled ∧ (superiorP r p).is_ = 3 ∧ (superiorP r p).flags.updtInfo = p.flags.updtInfo := ⟨by kernel_rfl, by kernel_rfl, by kernel_rfl⟩
theorem supP_keep2 (r : Bool) (p : Port) : (superiorP r p).flags.rcvdBpdu = p.flags.rcvdBpdu ∧ (superiorP r p).clocks.edgeDelay = p.clocks.edgeDelay ∧ (superiorP r p).states.info = 2 ∧ (superiorP r p).states.mig = p.states.mig ∧ (superiorP r p).clocks.mdelay = p.clocks.mdelay ∧ (superiorP r p).flags.mcheck = p.flags.mcheck := ⟨by kernel_rfl, by kernel_rfl, by kernel_rfl, by kernel_rfl, by kernel_rfl, by kernel_rfl⟩
theorem repP_keep (r : Bool) (p : Port) : (repeatedP r p).enabled = p.enabled ∧ (repeatedP r p).is_ = p.is_ ∧ (repeatedP r p).flags.updtInfo = p.flags.updtInfo ∧ (repeatedP r p).flags.rcvdBpdu = p.flags.rcvdBpdu ∧ (repeatedP r p).clocks.edgeDelay = p.clocks.edgeDelay ∧ (repeatedP r p).states = p.states ∧ (repeatedP r p).clocks.mdelay = p.clocks.mdelay ∧ (repeatedP r p).flags.mcheck = p.flags.mcheck ∧ askP (repeatedP r p) = askP p := ⟨rfl, rfl, rfl, rfl, rfl, rfl, rfl, rfl, rfl⟩
theorem notP_keep (r : Bool) (p : Port) : (notDesP r p).enabled = p.enabled ∧ (notDesP r p).is_ = p.is_ ∧ (notDesP r p).flags.updtInfo = p.flags.updtInfo ∧ (notDesP r p).flags.rcvdBpdu = p.flags.rcvdBpdu ∧ (notDesP r p).clocks = p.clocks ∧ (notDesP r p).states = p.states ∧ (notDesP r p).flags.mcheck = p.flags.mcheck ∧ askP (notDesP r p) = askP p := ⟨rfl, rfl, rfl, rfl, rfl, rfl, rfl, rfl⟩
theorem hearP_is {r : Bool} {p : Port} : (hearP r p).enabled = p.enabled ∧ ((hearP r p).is_ = p.is_ ∨ (hearP r p).is_ = 3) ∧ (hearP r p).flags.updtInfo = p.flags.updtInfo := by
  unfold hearP
  split
  · have h := supP_keep r p; exact ⟨h.1, .inr h.2.1, h.2.2⟩
  · split
    · have h := repP_keep r p; exact ⟨h.1, .inl h.2.1, h.2.2.1⟩
    · split
      · split <;> exact ⟨rfl, .inl rfl, rfl⟩
      · split
        · have h := notP_keep r p; exact ⟨h.1, .inl h.2.1, h.2.2.1⟩
        · exact ⟨rfl, .inl rfl, rfl⟩
theorem EInv.info {b : Bri} {k : Nat} {p : Port} (hp : PInv b k p) (h : EInv p) : EInv (infoF b p).1 := by
  unfold infoF
  have hold : ∀ c : Int, c ≠ 0 → p.states.info = c → p.enabled = true := fun c hc e => h.on fun e0 => hc (by rw [← e]; exact hp.inf.1.2 e0)
  split
  · rename_i hc
    simp only [Bool.and_eq_true, Bool.not_eq_true', bne_iff_ne] at hc
    exact absurd (h.en hc.1) hc.2
  · split
    · rename_i hc
      simp only [Bool.and_eq_true, beq_iff_eq] at hc
      have : p.flags.updtInfo ≠ true := fun e => h.ui e (hp.inf.1.1 hc.1)
      exact ⟨fun _ => rfl, fun e => absurd e this⟩
    · split
      · rename_i hc
        simp only [Bool.and_eq_true, beq_iff_eq] at hc
        exact ⟨fun e => (by have e : p.enabled = false := e; rw [hc.2] at e; cases e), fun _ => of_decide_eq_false rfl⟩
      · split
        · rename_i hc
          simp only [Bool.and_eq_true, beq_iff_eq] at hc
          exact ⟨fun e => (by have e : p.enabled = false := e; rw [hold 1 (by decide) hc.1] at e; cases e), fun _ => of_decide_eq_false rfl⟩
        · split
          · rename_i hc
            simp only [Bool.and_eq_true, beq_iff_eq] at hc
            exact ⟨fun e => (by have e : p.enabled = false := e; rw [hold 2 (by decide) hc.1] at e; cases e), fun _ => of_decide_eq_false rfl⟩
          · split
            · exact h
            · rename_i hc
              simp only [Bool.or_eq_true, bne_iff_ne, ne_eq, not_or, Classical.not_not] at hc
              have hon := hold 2 (by decide) hc.1
              split
              · exact ⟨fun e => (by have e : p.enabled = false := e; rw [hon] at e; cases e), fun _ => of_decide_eq_false rfl⟩
              · split
                · obtain ⟨e1, e2, e3⟩ := hearP_is (r := b.rst) (p := p)
                  refine ⟨fun e => ?_, fun e => ?_⟩
                  · have e : (hearP b.rst p).enabled = false := e
                    rw [e1, hon] at e; cases e
                  · show (hearP b.rst p).is_ ≠ 0
                    have : p.is_ ≠ 0 := h.ui (by rw [← e3]; exact e)
                    rcases e2 with e2 | e2 <;> rw [e2]
                    · exact this
                    · decide
                · exact h
theorem roleF_keep (b : Bri) (i : Int) (p : Port) : (roleF b i p).enabled = p.enabled ∧ (roleF b i p).is_ = p.is_ ∧ (p.is_ = 0 → (roleF b i p).flags.updtInfo = p.flags.updtInfo) := by
  unfold roleF
  split
  · exact ⟨rfl, rfl, fun _ => rfl⟩
  · rename_i hc
    have hc : p.is_ ≠ 0 := by simpa using hc
    repeat' split
    all_goals exact ⟨rfl, rfl, fun e => absurd e hc⟩
theorem EInv.sel {b : Bri} {k : Nat} {p : Port} (h : EInv p) : EInv (stepP b k p) := by
  obtain ⟨e1, e2, e3⟩ := roleF_keep b k (baseP b p)
  refine ⟨fun e => ?_, fun e => ?_⟩
  · show (roleF b k (baseP b p)).is_ = 0
    rw [e2]
    exact h.en (by have e : (roleF b k (baseP b p)).enabled = false := e; rw [e1] at e; exact e)
  · show (roleF b k (baseP b p)).is_ ≠ 0
    rw [e2]
    intro h0
    have e : (roleF b k (baseP b p)).flags.updtInfo = true := e
    rw [e3 h0] at e
    exact h.ui e h0
/-- what is so in all rounds but the first -/
structure Inv2 (n : Nat) (s : BS) : Prop where
  i : Inv n s
  e : ∀ j, j < n → EInv (ptAt s j)
theorem all_of_map {P : Port → Prop} (hP : ∀ p q, proj1 q = proj1 p → P p → P q) {l l' : List Port} (h : l'.map proj1 = l.map proj1) {n : Nat} (hl : ∀ j, j < n → P (l.getD j Port.dflt)) : ∀ j, j < n → P (l'.getD j Port.dflt) :=
  fun j hj => hP _ _ (map_at h j) (hl j hj)
theorem high_keep1 {n : Nat} {s : BS} (h : Inv2 n s) {k : Nat} (hk : k < n) {i : Nat} (hi : i = 2 ∨ i = 4 ∨ i = 5 ∨ i = 6 ∨ i = 7) : (mach i s k).1.ps.map proj1 = s.ps.map proj1 := by
  have hkn : k < s.ps.length := by rw [h.i.len]; exact hk
  rcases hi with rfl | rfl | rfl | rfl | rfl
  · exact loc_map hkn (edge_keep fun _ _ => rfl)
  · refine trans_map hkn ?_ (fun _ => rfl) (fun _ => rfl) (fun _ => rfl)
    have := trR_keep1 (ps := s.ps) (h.i.p k hk) (h.e k hk)
    revert this
    cases trR s.b s.ps k (ptAt s k) <;> intro this <;> first | exact this | trivial
  · exact loc_map hkn (pass_keep fun _ _ _ => rfl)
  · exact topo_map hkn (toT_keep1 _ _) (fun _ => rfl) (fun _ => rfl) (fun _ => rfl)
  · exact tx_map hkn (fun _ => rfl) (fun _ _ => rfl)
theorem loc_all {P : Port → Prop} {s : BS} {n k : Nat} {F : Bri → Port → Port × Bool} (hn : s.ps.length = n) (hk : k < n) (h : ∀ j, j < n → P (ptAt s j)) (hF : P (F s.b (ptAt s k)).1) : ∀ j, j < n → P (ptAt (ofP F s k).1 j) := by
  intro j hj
  rw [ofP_at F s k j (by omega)]
  split
  · exact hF
  · exact h j hj
theorem Inv2.stp {n : Nat} {s : BS} (h : Inv2 n s) {o : Op} (ho : o ∈ ops n) : Inv2 n (stp o s).1 := by
  refine ⟨h.i.stp ho, ?_⟩
  have hi : ∀ {i k : Nat}, k < n → (i = 2 ∨ i = 4 ∨ i = 5 ∨ i = 6 ∨ i = 7) → ∀ j, j < n → EInv (ptAt (mach i s k).1 j) := fun hk hi => all_of_map (fun p q e hp => hp.of e) (high_keep1 h hk hi) h.e
  rcases ops_cases ho with rfl | ⟨k, hk, rfl | rfl | rfl | rfl | rfl | rfl | rfl | rfl⟩
  · intro j hj
    show EInv (ptAt (selF s).1 j)
    by_cases ha : s.ps.any askP = true
    · rw [sel_at ha j (by rw [h.i.len]; exact hj)]
      exact (h.e j hj).sel
    · rw [sel_no ha]; exact h.e j hj
  · exact loc_all h.i.len hk h.e (h.e k hk).rx
  · exact loc_all h.i.len hk h.e (h.e k hk).mig
  · exact hi hk (by simp)
  · exact loc_all h.i.len hk h.e (EInv.info (h.i.p k hk) (h.e k hk))
  · exact hi hk (by simp)
  · exact hi hk (by simp)
  · exact hi hk (by simp)
  · exact hi hk (by simp)

/-! ### how much there is to do in the first layer -/
def bn (c : Bool) (x : Nat) : Nat := if c = true then x else 0
theorem bn_le (c : Bool) (x : Nat) : bn c x ≤ x := by unfold bn; split <;> omega
def w1 (p : Port) : Nat := if p.enabled = true then (if p.states.info = 0 then 14 else if p.states.info = 2 ∧ p.is_ = 3 then 7 else 0) else (if p.is_ = 0 then 0 else 7)
def m1 (p : Port) : Nat := if p.states.mig = 0 then (if p.clocks.mdelay = 0 then 4 else if p.clocks.mdelay ≠ 3 ∧ p.enabled = false then 1 else 0) else if p.states.mig = 2 then 3 else if p.states.mig = 1 then (if p.clocks.mdelay = 0 ∨ p.enabled = false ∨ p.flags.mcheck = true then 4 else 0) else 0
def phi1 (p : Port) : Nat := bn p.flags.rcvdBpdu 21 + bn p.flags.rcvdMsg 14 + bn p.flags.updtInfo 1 + w1 p + bn (!p.enabled && p.clocks.edgeDelay != 3) 1 + m1 p
theorem w1_le (p : Port) : w1 p ≤ 14 := by unfold w1; repeat' split
                                           all_goals omega
theorem m1_le (p : Port) : m1 p ≤ 4 := by unfold m1; repeat' split
                                          all_goals omega
theorem phi1_le (p : Port) : phi1 p ≤ 55 := by
  have := bn_le p.flags.rcvdBpdu 21
  have := bn_le p.flags.rcvdMsg 14
  have := bn_le p.flags.updtInfo 1
  have := bn_le (!p.enabled && p.clocks.edgeDelay != 3) 1
  have := w1_le p
  have := m1_le p
  unfold phi1
  omega
theorem phi1_dep (p : Port) : phi1 (proj1 p) = phi1 p := by
  unfold phi1
  have : (!(proj1 p).enabled && (proj1 p).clocks.edgeDelay != 3) = (!p.enabled && p.clocks.edgeDelay != 3) := by
    show (!p.enabled && (if p.enabled = true then 3 else p.clocks.edgeDelay) != 3) = _
    cases p.enabled <;> simp
  rw [this]
  rfl
theorem bn_true {c : Bool} {x : Nat} (h : c = true) : bn c x = x := by unfold bn; rw [if_pos h]
theorem bn_false {c : Bool} {x : Nat} (h : c = false) : bn c x = 0 := by unfold bn; rw [h]; rfl
theorem phi1_rx {b : Bri} {p : Port} (h : rxFire p = true) : phi1 ((rxT b p).get (p, false)).1 < phi1 p ∧ askP ((rxT b p).get (p, false)).1 = askP p := by
  have hM := bn_le p.flags.rcvdMsg 14
  have hB := bn_le p.flags.rcvdBpdu 21
  have hE := bn_le (!p.enabled && p.clocks.edgeDelay != 3) 1
  have hr : ∀ q : Port, (q.flags.rcvdBpdu = true ∧ q.enabled = true) → phi1 (receiveP q) < phi1 q ∧ askP (receiveP q) = askP q := by
    intro q hq
    have hM := bn_le q.flags.rcvdMsg 14
    refine ⟨?_, rfl⟩
    unfold phi1
    rw [bn_true hq.1, bn_false (c := (receiveP q).flags.rcvdBpdu) rfl, bn_true (c := (receiveP q).flags.rcvdMsg) rfl, show w1 (receiveP q) = w1 q from rfl, show m1 (receiveP q) = m1 q from rfl, show (receiveP q).flags.updtInfo = q.flags.updtInfo from rfl,
      bn_false (c := (!(receiveP q).enabled && (receiveP q).clocks.edgeDelay != 3)) (by show (!q.enabled && (3 : Int) != 3) = false; simp), bn_false (c := (!q.enabled && q.clocks.edgeDelay != 3)) (by rw [hq.2]; rfl)]
    omega
  have hrr : (p.flags.rcvdBpdu = true ∧ p.enabled = true) → phi1 ((receiveT p).get (p, false)).1 < phi1 p ∧ askP ((receiveT p).get (p, false)).1 = askP p := by
    intro hq
    simp only [receiveT, Out.get]
    split
    · exact hr { p with flags := { p.flags with rcvdRst := true } } hq
    · exact hr { p with flags := { p.flags with rcvdStp := true } } hq
  unfold rxFire at h
  simp only [rxT, Out.get]
  split
  · rename_i hc
    refine ⟨?_, rfl⟩
    simp only [Bool.and_eq_true, Bool.or_eq_true, Bool.not_eq_true'] at hc
    unfold phi1
    rw [bn_false (c := (discardP p).flags.rcvdBpdu) rfl, bn_false (c := (discardP p).flags.rcvdMsg) rfl, show w1 (discardP p) = w1 p from rfl, show m1 (discardP p) = m1 p from rfl, show (discardP p).flags.updtInfo = p.flags.updtInfo from rfl,
      bn_false (c := (!(discardP p).enabled && (discardP p).clocks.edgeDelay != 3)) (by show (!p.enabled && (3 : Int) != 3) = false; simp)]
    rcases hc.2 with hc2 | hc2
    · rw [bn_true hc2]; omega
    · rw [bn_true (c := (!p.enabled && p.clocks.edgeDelay != 3)) (by rw [hc.1, hc2]; rfl)]; omega
  · rename_i hc
    split
    · rename_i hc2
      simp only [Bool.and_eq_true] at hc2
      exact hrr ⟨hc2.1.2, hc2.2⟩
    · rename_i hc2
      split
      · rename_i hc3
        simp only [Bool.and_eq_true] at hc3
        exact hrr ⟨hc3.1.1.2, hc3.1.2⟩
      · rename_i hc3
        simp only [Bool.or_eq_true] at h
        rcases h with (h | h) | h
        · exact absurd h hc
        · exact absurd h hc2
        · exact absurd h hc3
theorem phi1_mig {b : Bri} {p : Port} (h : migFire b.rst p = true) : phi1 ((migT b p).get (p, false)).1 < phi1 p ∧ askP ((migT b p).get (p, false)).1 = askP p := by
  have key : ∀ q : Port, bn q.flags.rcvdBpdu 21 = bn p.flags.rcvdBpdu 21 → bn q.flags.rcvdMsg 14 = bn p.flags.rcvdMsg 14 → bn q.flags.updtInfo 1 = bn p.flags.updtInfo 1 → w1 q = w1 p → bn (!q.enabled && q.clocks.edgeDelay != 3) 1 = bn (!p.enabled && p.clocks.edgeDelay != 3) 1 → m1 q < m1 p → phi1 q < phi1 p := by
    intro q e1 e2 e3 e4 e5 e6
    unfold phi1
    rw [e1, e2, e3, e4, e5]
    omega
  have hs : m1 (senseP p) = 3 := rfl
  have hk : m1 (checkP b.rst p) = 0 := by
    show (if (3 : Int) = 0 then 4 else if (3 : Int) ≠ 3 ∧ p.enabled = false then 1 else 0) = 0
    simp
  have hch : (p.enabled = true ∧ p.flags.mcheck = false) → m1 (chooseP p) = 0 := by
    rintro ⟨h1, h2⟩
    show (if (3 : Int) = 0 ∨ p.enabled = false ∨ p.flags.mcheck = true then 4 else 0) = 0
    rw [h1, h2]; simp
  simp only [migT, Out.get]
  split
  · rename_i hc
    simp only [Bool.and_eq_true, beq_iff_eq] at hc
    exact ⟨key _ rfl rfl rfl rfl rfl (by rw [hs]; unfold m1; rw [if_pos hc.1, if_pos hc.2]; decide), rfl⟩
  · rename_i hn1
    split
    · rename_i hc
      simp only [Bool.and_eq_true, beq_iff_eq, bne_iff_ne, Bool.not_eq_true'] at hc
      refine ⟨key _ rfl rfl rfl rfl rfl (by rw [hk]; unfold m1; rw [if_pos hc.1]; split; decide; rw [if_pos hc.2]; decide), rfl⟩
    · rename_i hn2
      split
      · rename_i hc
        simp only [Bool.and_eq_true, beq_iff_eq] at hc
        exact ⟨key _ rfl rfl rfl rfl rfl (by rw [hk]; unfold m1; simp [hc.1]), rfl⟩
      · rename_i hn3
        split
        · rename_i hc
          simp only [Bool.and_eq_true, beq_iff_eq] at hc
          have hq : p.enabled = true ∧ p.flags.mcheck = false := by
            simp only [hc.1, Bool.and_eq_true, beq_self_eq_true, true_and, Bool.or_eq_true, not_or] at hn3
            simpa using hn3.1
          exact ⟨key _ rfl rfl rfl rfl rfl (by rw [hch hq]; unfold m1; simp [hc.1]), rfl⟩
        · rename_i hn4
          split
          · rename_i hc
            simp only [Bool.and_eq_true, beq_iff_eq, Bool.or_eq_true, Bool.not_eq_true'] at hc
            have hor : p.clocks.mdelay = 0 ∨ p.enabled = false ∨ p.flags.mcheck = true := by
              rcases hc.2 with (h1 | h1) | h1
              · exact .inl h1
              · exact .inr (.inl h1)
              · exact .inr (.inr h1)
            exact ⟨key _ rfl rfl rfl rfl rfl (by rw [hs]; unfold m1; rw [if_pos hor]; simp [hc.1]), rfl⟩
          · rename_i hn5
            unfold migFire at h
            simp only [Bool.or_eq_true] at h
            rcases h with (((h | h) | h) | h) | h
            · exact absurd h hn1
            · exact absurd h hn2
            · exact absurd h hn3
            · exact absurd (by simpa using h) hn4
            · exact absurd (by simpa using h) hn5
theorem w1_of {p q : Port} (h1 : q.enabled = p.enabled) (h2 : q.is_ = p.is_) (h3 : q.states.info = p.states.info) : w1 q = w1 p := by unfold w1; rw [h1, h2, h3]
theorem m1_of {p q : Port} (h1 : q.enabled = p.enabled) (h2 : q.states.mig = p.states.mig) (h3 : q.clocks.mdelay = p.clocks.mdelay) (h4 : q.flags.mcheck = p.flags.mcheck) : m1 q = m1 p := by unfold m1; rw [h1, h2, h3, h4]
theorem hearP_w {r : Bool} {p : Port} : (hearP r p).flags.rcvdBpdu = p.flags.rcvdBpdu ∧ (hearP r p).clocks.edgeDelay = p.clocks.edgeDelay ∧ (hearP r p).enabled = p.enabled ∧ (hearP r p).flags.updtInfo = p.flags.updtInfo ∧ m1 (hearP r p) = m1 p ∧
    ((w1 (hearP r p) = w1 p ∧ askP (hearP r p) = askP p) ∨ (w1 (hearP r p) ≤ 7)) := by
  unfold hearP
  split
  · obtain ⟨a1, a2, a3⟩ := supP_keep r p
    obtain ⟨b1, b2, b3, b4, b5, b6⟩ := supP_keep2 r p
    refine ⟨b1, b2, a1, a3, m1_of a1 b4 b5 b6, .inr ?_⟩
    unfold w1
    rw [a1, a2, b3]
    split <;> simp
  · split
    · obtain ⟨a1, a2, a3, a4, a5, a6, a7, a8, a9⟩ := repP_keep r p
      exact ⟨a4, a5, a1, a3, m1_of a1 (by rw [a6]) a7 a8, .inl ⟨w1_of a1 a2 (by rw [a6]), a9⟩⟩
    · split
      · split <;> exact ⟨rfl, rfl, rfl, rfl, rfl, .inl ⟨rfl, rfl⟩⟩
      · split
        · obtain ⟨a1, a2, a3, a4, a5, a6, a7, a8⟩ := notP_keep r p
          exact ⟨a4, by rw [a5], a1, a3, m1_of a1 (by rw [a6]) (by rw [a5]) a7, .inl ⟨w1_of a1 a2 (by rw [a6]), a8⟩⟩
        · exact ⟨rfl, rfl, rfl, rfl, rfl, .inl ⟨rfl, rfl⟩⟩
theorem phi1_info {b : Bri} {k : Nat} {p : Port} (hp : PInv b k p) (he : EInv p) (h : infoFire p = true) : (phi1 (infoF b p).1 < phi1 p ∧ askP (infoF b p).1 = askP p) ∨ phi1 (infoF b p).1 + 6 < phi1 p := by
  have hU := bn_le p.flags.updtInfo 1
  unfold infoF
  split
  · rename_i hc
    simp only [Bool.and_eq_true, Bool.not_eq_true', bne_iff_ne] at hc
    exact absurd (he.en hc.1) hc.2
  · rename_i hn1
    split
    · rename_i hc
      simp only [Bool.and_eq_true, beq_iff_eq] at hc
      refine .inr ?_
      have hw : w1 (disableP p) = w1 p := by
        unfold w1
        rw [hc.1, hp.inf.1.1 hc.1]; rfl
      unfold phi1
      rw [hw, bn_true hc.2, bn_false (c := (disableP p).flags.rcvdMsg) rfl, show m1 (disableP p) = m1 p from rfl, show (disableP p).flags.rcvdBpdu = p.flags.rcvdBpdu from rfl, show (disableP p).flags.updtInfo = p.flags.updtInfo from rfl, show (!(disableP p).enabled && (disableP p).clocks.edgeDelay != 3) = (!p.enabled && p.clocks.edgeDelay != 3) from rfl]
      omega
    · rename_i hn2
      have aged : w1 p ≥ 7 → w1 (ageP p) = 0 → phi1 (ageP p) + 6 < phi1 p := by
        intro h1 h2
        unfold phi1
        rw [h2, show m1 (ageP p) = m1 p from rfl, show (ageP p).flags.rcvdBpdu = p.flags.rcvdBpdu from rfl, show (ageP p).flags.rcvdMsg = p.flags.rcvdMsg from rfl, show (ageP p).flags.updtInfo = p.flags.updtInfo from rfl, show (!(ageP p).enabled && (ageP p).clocks.edgeDelay != 3) = (!p.enabled && p.clocks.edgeDelay != 3) from rfl]
        omega
      have ag0 : p.enabled = true → w1 (ageP p) = 0 := by
        intro e
        show (if p.enabled = true then (if (1 : Int) = 0 then 14 else if (1 : Int) = 2 ∧ (1 : Int) = 3 then 7 else 0) else (if (1 : Int) = 0 then 0 else 7)) = 0
        rw [e]; decide
      split
      · rename_i hc
        simp only [Bool.and_eq_true, beq_iff_eq] at hc
        exact .inr (aged (by unfold w1; rw [if_pos hc.2, if_pos hc.1]; decide) (ag0 hc.2))
      · rename_i hn3
        have upd : p.flags.updtInfo = true → p.states.info ≠ 0 → phi1 (updateP p) < phi1 p ∧ askP (updateP p) = askP p := by
          intro hu hi
          refine ⟨?_, rfl⟩
          have hen := he.on (he.ui hu)
          have hw : w1 (updateP p) = 0 := by
            show (if p.enabled = true then (if (2 : Int) = 0 then 14 else if (2 : Int) = 2 ∧ (2 : Int) = 3 then 7 else 0) else (if (2 : Int) = 0 then 0 else 7)) = 0
            rw [hen]; decide
          unfold phi1
          rw [hw, bn_true hu, bn_false (c := (updateP p).flags.updtInfo) rfl, show m1 (updateP p) = m1 p from rfl, show (updateP p).flags.rcvdBpdu = p.flags.rcvdBpdu from rfl, show (updateP p).flags.rcvdMsg = p.flags.rcvdMsg from rfl, show (!(updateP p).enabled && (updateP p).clocks.edgeDelay != 3) = (!p.enabled && p.clocks.edgeDelay != 3) from rfl]
          omega
        split
        · rename_i hc
          simp only [toldP, Bool.and_eq_true, beq_iff_eq] at hc
          exact .inl (upd hc.2.2 (by omega))
        · rename_i hn4
          split
          · rename_i hc
            simp only [toldP, Bool.and_eq_true, beq_iff_eq] at hc
            exact .inl (upd hc.2.2 (by omega))
          · rename_i hn5
            split
            · rename_i hn6
              unfold infoFire at h
              simp only [Bool.or_eq_true] at h
              rcases h with ((((h | h) | h) | h) | h) | h
              · exact absurd h hn1
              · exact absurd h hn2
              · exact absurd h hn3
              · exact absurd h hn4
              · exact absurd h hn5
              · rw [hn6] at h; simp at h
            · rename_i hn6
              have h2 : p.states.info = 2 := by
                simp only [Bool.or_eq_true, bne_iff_ne, ne_eq, not_or, Classical.not_not] at hn6
                exact hn6.1
              have hen := he.on fun e => absurd (hp.inf.1.2 e) (by omega)
              split
              · rename_i hc
                simp only [Bool.and_eq_true, beq_iff_eq] at hc
                exact .inr (aged (by unfold w1; rw [if_pos hen, if_neg (by omega), if_pos ⟨h2, hc.1.1⟩]; decide) (ag0 hen))
              · rename_i hn7
                split
                · rename_i hc
                  obtain ⟨e1, e2, e3, e4, e5, e6⟩ := hearP_w (r := b.rst) (p := p)
                  have hq : phi1 (heardP (hearP b.rst p)) = bn p.flags.rcvdBpdu 21 + 0 + bn p.flags.updtInfo 1 + w1 (hearP b.rst p) + bn (!p.enabled && p.clocks.edgeDelay != 3) 1 + m1 p := by
                    unfold phi1
                    rw [show (heardP (hearP b.rst p)).flags.rcvdBpdu = p.flags.rcvdBpdu from e1, bn_false (c := (heardP (hearP b.rst p)).flags.rcvdMsg) rfl, show (heardP (hearP b.rst p)).flags.updtInfo = p.flags.updtInfo from e4, show w1 (heardP (hearP b.rst p)) = w1 (hearP b.rst p) from rfl,
                      show (heardP (hearP b.rst p)).enabled = p.enabled from e3, show (heardP (hearP b.rst p)).clocks.edgeDelay = p.clocks.edgeDelay from e2, show m1 (heardP (hearP b.rst p)) = m1 p from e5]
                  have hp0 : phi1 p = bn p.flags.rcvdBpdu 21 + 14 + bn p.flags.updtInfo 1 + w1 p + bn (!p.enabled && p.clocks.edgeDelay != 3) 1 + m1 p := by unfold phi1; rw [bn_true hc]
                  dsimp only
                  rw [hq, hp0]
                  rcases e6 with ⟨h1, h3⟩ | h1
                  · exact .inl ⟨by omega, h3⟩
                  · exact .inr (by omega)
                · rename_i hn8
                  unfold infoFire at h
                  simp only [Bool.or_eq_true, Bool.and_eq_true] at h
                  rcases h with ((((h | h) | h) | h) | h) | h
                  · exact absurd (by simpa using h) hn1
                  · exact absurd (by simpa using h) hn2
                  · exact absurd (by simpa using h) hn3
                  · exact absurd (by simpa using h) hn4
                  · exact absurd (by simpa using h) hn5
                  · rcases h.2 with h | h
                    · exact absurd (by simpa using h) hn7
                    · exact absurd h hn8
end

section
open Go Go.RowKit

def own1 : Op → Prop
  | .sel => True
  | .m i _ => i = 0 ∨ i = 1 ∨ i = 3
def low1 (_ : Op) : Prop := False
def view1 (s : BS) : Bri × List Port := (s.b, s.ps.map proj1)
def F1 (s : BS) : Nat := sumP phi1 s.ps + bn (s.ps.any askP) 6
theorem any_set {f : Port → Bool} : ∀ {l : List Port} {k : Nat} {q : Port}, k < l.length → f q = f (l.getD k Port.dflt) → (l.set k q).any f = l.any f
  | [], k, q, h, _ => absurd h (Nat.not_lt_zero _)
  | p :: r, 0, q, _, he => by
    simp only [List.set_cons_zero, List.any_cons]
    rw [he]; rfl
  | p :: r, k + 1, q, h, he => by
    simp only [List.set_cons_succ, List.any_cons]
    rw [any_set (l := r) (k := k) (by simpa using h) (by simpa using he)]
theorem any_mapI {f : Port → Bool} {g : Nat → Port → Port} (h : ∀ i p, f (g i p) = false) : ∀ (l : List Port) (i : Nat), (mapI g l i).any f = false
  | [], i => rfl
  | p :: r, i => by rw [mapI, List.any_cons, h, any_mapI h r]; rfl
theorem any_map1 {f : Port → Bool} {g : Port → Port} (h : ∀ p, f (g p) = f p) (l : List Port) : (l.map g).any f = l.any f := by
  rw [List.any_map]
  congr 1
  exact funext h
theorem stepP_phi (b : Bri) (i : Nat) (p : Port) : phi1 (stepP b i p) ≤ phi1 p + 1 ∧ askP (stepP b i p) = false := by
  have key : ∀ (r : Int) (u : Bool), phi1 { baseP b p with selected := r, flags := { (baseP b p).flags with updtInfo := u } } ≤ phi1 p + 1 := by
    intro r u
    have := bn_le u 1
    show bn p.flags.rcvdBpdu 21 + bn p.flags.rcvdMsg 14 + bn u 1 + w1 p + bn (!p.enabled && p.clocks.edgeDelay != 3) 1 + m1 p ≤ _
    unfold phi1
    omega
  unfold stepP roleF
  refine ⟨?_, ?_⟩
  · repeat' split
    all_goals first | exact key _ _ | exact key _ p.flags.updtInfo
  · repeat' split
    all_goals rfl
theorem dec_loc {n : Nat} {s : BS} {k : Nat} {F : Bri → Port → Port × Bool} (hn : s.ps.length = n) (hk : k < n) (h : (phi1 (F s.b (ptAt s k)).1 < phi1 (ptAt s k) ∧ askP (F s.b (ptAt s k)).1 = askP (ptAt s k)) ∨ phi1 (F s.b (ptAt s k)).1 + 6 < phi1 (ptAt s k)) : F1 (ofP F s k).1 < F1 s := by
  have hkn : k < s.ps.length := by omega
  have hs := sumP_set phi1 s.ps k (F s.b (ptAt s k)).1 hkn
  show sumP phi1 (s.ps.set k (F s.b (ptAt s k)).1) + bn ((s.ps.set k (F s.b (ptAt s k)).1).any askP) 6 < F1 s
  unfold F1
  rw [show s.ps.getD k Port.dflt = ptAt s k from rfl] at hs
  rcases h with ⟨h1, h2⟩ | h1
  · rw [any_set hkn h2]
    omega
  · have := bn_le ((s.ps.set k (F s.b (ptAt s k)).1).any askP) 6
    omega
theorem layer1 {n : Nat} (h5 : n ≤ 5) : Layer n (Inv2 n) low1 own1 (fun _ => ()) view1 F1 where
  inv s o hn ho hI := hI.stp ho
  v1k _ _ _ _ _ _ := rfl
  v1d _ _ _ _ _ _ h := h.elim
  v2k s o hn ho hI _ how := by
    rcases ops_cases ho with rfl | ⟨k, hk, rfl | rfl | rfl | rfl | rfl | rfl | rfl | rfl⟩
    · exact absurd trivial how
    · exact absurd (.inl rfl) how
    · exact absurd (.inr (.inl rfl)) how
    · exact Prod.ext (mach_b 2 s k) (high_keep1 hI hk (by simp))
    · exact absurd (.inr (.inr rfl)) how
    · exact Prod.ext (mach_b 4 s k) (high_keep1 hI hk (by simp))
    · exact Prod.ext (mach_b 5 s k) (high_keep1 hI hk (by simp))
    · exact Prod.ext (mach_b 6 s k) (high_keep1 hI hk (by simp))
    · exact Prod.ext (mach_b 7 s k) (high_keep1 hI hk (by simp))
  v2d s s' o hn hn' ho how hv := by
    have hb : s.b = s'.b := congrArg Prod.fst hv
    have hp : s.ps.map proj1 = s'.ps.map proj1 := congrArg Prod.snd hv
    have hat : ∀ k, proj1 (ptAt s k) = proj1 (ptAt s' k) := fun k => map_at hp k
    rcases ops_cases ho with rfl | ⟨k, hk, rfl | rfl | rfl | rfl | rfl | rfl | rfl | rfl⟩
    · rw [stp_sel, stp_sel, ← any_map1 askP1, hp, any_map1 askP1]
    · rw [stp_rx, stp_rx, ← rxFire1, hat, rxFire1]
    · rw [stp_mig, stp_mig, ← migFire1, hat, migFire1, hb]
    · rcases how with h | h | h <;> omega
    · rw [stp_info, stp_info, ← infoFire1, hat, infoFire1]
    · rcases how with h | h | h <;> omega
    · rcases how with h | h | h <;> omega
    · rcases how with h | h | h <;> omega
    · rcases how with h | h | h <;> omega
  dec s o hn ho hI _ how hf := by
    rcases ops_cases ho with rfl | ⟨k, hk, rfl | rfl | rfl | rfl | rfl | rfl | rfl | rfl⟩
    · rw [stp_sel] at hf
      have hl := sumP_bc phi1 (stepP (stepB s.b s.ps)) 1 (fun i p => (stepP_phi _ i p).1) s.ps 0
      show sumP phi1 (selF s).1.ps + bn ((selF s).1.ps.any askP) 6 < sumP phi1 s.ps + bn (s.ps.any askP) 6
      rw [sel_yes hf]
      show sumP phi1 (mapI (stepP (stepB s.b s.ps)) s.ps 0) + bn ((mapI (stepP (stepB s.b s.ps)) s.ps 0).any askP) 6 < sumP phi1 s.ps + bn (s.ps.any askP) 6
      rw [any_mapI (fun i p => (stepP_phi _ i p).2), hf, bn_true rfl, bn_false rfl]
      omega
    · rw [stp_rx] at hf; exact dec_loc hn hk (.inl (phi1_rx hf))
    · rw [stp_mig] at hf; exact dec_loc hn hk (.inl (phi1_mig hf))
    · rcases how with h | h | h <;> omega
    · rw [stp_info] at hf; exact dec_loc hn hk (phi1_info (hI.i.p k hk) (hI.e k hk) hf)
    · rcases how with h | h | h <;> omega
    · rcases how with h | h | h <;> omega
    · rcases how with h | h | h <;> omega
    · rcases how with h | h | h <;> omega
  dep s s' hv := by
    have hp : s.ps.map proj1 = s'.ps.map proj1 := congrArg Prod.snd hv
    unfold F1
    rw [sumP_map (w := phi1) (g := proj1) (fun p p' e => by rw [← phi1_dep p, e, phi1_dep]) hp, ← any_map1 askP1 s.ps, hp, any_map1 askP1]
theorem F1_le {n : Nat} (h5 : n ≤ 5) {s : BS} (hn : s.ps.length = n) : F1 s ≤ 281 := by
  have h1 := sumP_le phi1 55 phi1_le s.ps
  have h2 := bn_le (s.ps.any askP) 6
  unfold F1
  omega
end
end Go.Proofs.YtjemfkoamfnofaaGreat
