import Derived.Test.YtjemfkoamfnofaaGreatPn
import Derived.Test.YtjemfkoamfnofaaGreatCp
set_option linter.unusedVariables false
set_option maxRecDepth 100000
namespace Go.Proofs.YtjemfkoamfnofaaGreat
open Go Go.RowKit
def gV (p : Port) : (Bool × Int × Bool × Int) × (Bool × Bool × Bool × Bool × Int) × (Vec × Vec × Times × Msg × Int) := ((p.enabled, p.is_, p.flags.reselect, p.selected), (p.flags.rcvdMsg, p.flags.rcvdBpdu, p.flags.selected, p.flags.updtInfo, p.states.info), (p.vec, p.designated, p.times, p.msg, p.clocks.rcvdInfo))
def gW (p : Port) : ((Bool × Int × Bool × Int) × (Bool × Bool × Bool × Bool × Int) × (Vec × Vec × Times × Msg × Int)) × Int := (gV p, p.role)
theorem states_keepW {b : Bri} {ps : List Port} {k : Int} {p : Port} {c : Bool} {x : TrR} (hx : (c, x) ∈ statesL (stE p) b ps k p) : KeepG gW p x := by
 cases hE : stE p with
 | zero =>
   rw [hE] at hx
   simp only [statesL, List.mem_cons, List.not_mem_nil, or_false, Prod.mk.injEq] at hx
   obtain ⟨_, rfl⟩ := hx; rfl
 | succ e =>
   rw [hE] at hx
   match e, hE, hx with
   | 0, _, hx =>
     simp only [statesL, List.mem_cons, List.not_mem_nil, or_false, Prod.mk.injEq] at hx
     obtain ⟨_, rfl⟩ := hx; rfl
   | 1, _, hx =>
     simp only [statesL, trRootL, setsL, List.mem_cons, List.mem_append, List.not_mem_nil, or_false, Prod.mk.injEq] at hx
     rcases hx with (⟨_, rfl⟩ | ⟨_, rfl⟩) | ⟨_, rfl⟩ | ⟨_, rfl⟩ | ⟨_, rfl⟩ | ⟨_, rfl⟩ | ⟨_, rfl⟩ <;> first | trivial | rfl
   | 2, hE, hx =>
     simp only [statesL, desL, List.mem_cons, List.not_mem_nil, or_false, Prod.mk.injEq] at hx
     rcases hx with ⟨_, rfl⟩ | ⟨_, rfl⟩ | ⟨_, rfl⟩ | ⟨_, rfl⟩ | ⟨_, rfl⟩ | ⟨_, rfl⟩ <;> rfl
   | 3, _, hx =>
     simp only [statesL, List.mem_cons, List.not_mem_nil, or_false, Prod.mk.injEq] at hx
     obtain ⟨_, rfl⟩ := hx; rfl
   | 4, _, hx =>
     simp only [statesL, altL, setsL, List.mem_cons, List.mem_append, List.not_mem_nil, or_false, Prod.mk.injEq] at hx
     rcases hx with (⟨_, rfl⟩ | ⟨_, rfl⟩) | ⟨_, rfl⟩ | ⟨_, rfl⟩ <;> first | trivial | rfl
   | n + 5, _, hx => simp only [statesL, List.not_mem_nil] at hx
theorem trR_keepV {b : Bri} {ps : List Port} {k : Int} {p : Port} : KeepG gV p (trR b ps k p) := by
 refine trR_cases trivial (fun _ _ x hx => ?_) (fun hs _ ha x hx => (states_keepW hx).of fun x => x.1)
 simp only [rolesL, List.mem_cons, List.not_mem_nil, or_false, Prod.mk.injEq] at hx
 rcases hx with ⟨_, rfl⟩ | ⟨_, rfl⟩ | ⟨_, rfl⟩ | ⟨_, rfl⟩ <;> rfl
theorem stp_gV {s : BS} {i k : Nat} (hk : k < s.ps.length) (hi : i = 1 ∨ i = 2 ∨ i = 4 ∨ i = 5 ∨ i = 6 ∨ i = 7) : (stp (.m i k) s).1.ps.map gV = s.ps.map gV := by
 rcases hi with rfl | rfl | rfl | rfl | rfl | rfl
 · refine loc_map hk ?_
   simp only [migT, Out.get]
   repeat' split
   all_goals rfl
 · exact loc_map hk (edge_keep fun _ _ => rfl)
 · refine trans_map hk ?_ (fun _ => rfl) (fun _ => rfl) (fun _ => rfl)
   have := trR_keepV (b := s.b) (ps := s.ps) (k := k) (p := ptAt s k)
   revert this
   cases trR s.b s.ps k (ptAt s k) <;> intro this <;> first | exact this | trivial
 · exact loc_map hk (pass_keep fun _ _ _ => rfl)
 · exact topo_map hk (toT_keep rfl rfl rfl (fun _ => rfl) (fun _ => rfl) rfl rfl) (fun _ => rfl) (fun _ => rfl) (fun _ => rfl)
 · exact tx_map hk (fun _ => rfl) (fun _ _ => rfl)
structure SameV (p q : Port) : Prop where
 en : q.enabled = p.enabled
 is_ : q.is_ = p.is_
 res : q.flags.reselect = p.flags.reselect
 sel : q.selected = p.selected
 msg : q.flags.rcvdMsg = p.flags.rcvdMsg
 bpdu : q.flags.rcvdBpdu = p.flags.rcvdBpdu
 fs : q.flags.selected = p.flags.selected
 upd : q.flags.updtInfo = p.flags.updtInfo
 info : q.states.info = p.states.info
 vec : q.vec = p.vec
 des : q.designated = p.designated
 times : q.times = p.times
 m : q.msg = p.msg
 ri : q.clocks.rcvdInfo = p.clocks.rcvdInfo
theorem SameV.of {p q : Port} (h : gV q = gV p) : SameV p q := ⟨congrArg (fun x => x.1.1) h, congrArg (fun x => x.1.2.1) h, congrArg (fun x => x.1.2.2.1) h, congrArg (fun x => x.1.2.2.2) h, congrArg (fun x => x.2.1.1) h, congrArg (fun x => x.2.1.2.1) h, congrArg (fun x => x.2.1.2.2.1) h, congrArg (fun x => x.2.1.2.2.2.1) h, congrArg (fun x => x.2.1.2.2.2.2) h, congrArg (fun x => x.2.2.1) h, congrArg (fun x => x.2.2.2.1) h, congrArg (fun x => x.2.2.2.2.1) h, congrArg (fun x => x.2.2.2.2.2.1) h, congrArg (fun x => x.2.2.2.2.2.2) h⟩
theorem stp_same {s : BS} {i k : Nat} (hk : k < s.ps.length) (hi : i = 1 ∨ i = 2 ∨ i = 4 ∨ i = 5 ∨ i = 6 ∨ i = 7) (j : Nat) : SameV (ptAt s j) (ptAt (stp (.m i k) s).1 j) := .of (map_at (stp_gV hk hi) j)
structure NH (p : Port) : Prop where
 msg : p.flags.rcvdMsg = false
 bpdu : p.flags.rcvdBpdu = false
 is_ : p.is_ ≠ 3
 des : p.flags.updtInfo = true → p.designated.root = 7
 vec : p.is_ = 2 → p.vec.root = 7
def NoH (n : Nat) (s : BS) : Prop := ∀ j, j < n → NH (ptAt s j)
theorem NH.same {p q : Port} (h : NH p) (e : SameV p q) : NH q := ⟨e.msg.trans h.msg, e.bpdu.trans h.bpdu, by rw [e.is_]; exact h.is_, by rw [e.upd, e.des]; exact h.des, by rw [e.is_, e.vec]; exact h.vec⟩
theorem rootL_no3 (id : Int) : ∀ (l : List Port) (i : Nat) (x : Vec × Int), (∀ j, j < l.length → (l.getD j Port.dflt).is_ ≠ 3) → rootL id l i x = x
 | [], i, x, _ => rfl
 | p :: r, i, x, h => by
   have h0 : p.is_ ≠ 3 := h 0 (by simp)
   have hs : rootStep id i p x = x := by unfold rootStep; rw [if_pos (by simp [h0])]
   rw [rootL, hs]
   exact rootL_no3 id r (i + 1) x fun j hj => by have := h (j + 1) (by simpa using hj); simpa using this
theorem role_same (b : Bri) (i : Int) (p : Port) : (roleF b i p).enabled = p.enabled ∧ (roleF b i p).is_ = p.is_ ∧ (roleF b i p).flags.rcvdMsg = p.flags.rcvdMsg ∧ (roleF b i p).flags.rcvdBpdu = p.flags.rcvdBpdu ∧ (roleF b i p).vec = p.vec ∧ (roleF b i p).designated = p.designated ∧ (roleF b i p).times = p.times ∧ (roleF b i p).clocks.rcvdInfo = p.clocks.rcvdInfo := by
 unfold roleF
 repeat' split
 all_goals exact ⟨rfl, rfl, rfl, rfl, rfl, rfl, rfl, rfl⟩
theorem NH.rx {b : Bri} {p : Port} (h : NH p) : NH ((rxT b p).get (p, false)).1 := by
 have h1 : NH (discardP p) := ⟨rfl, rfl, h.is_, h.des, h.vec⟩
 simp only [rxT, Out.get, h.bpdu, Bool.and_false, Bool.false_and, Bool.false_eq_true, if_false]
 split
 · exact h1
 · exact h
theorem NH.info {b : Bri} {p : Port} (h : NH p) : NH (infoF b p).1 := by
 have hu : toldP p = true → NH (updateP p) := fun ht => by
   unfold toldP at ht
   simp only [Bool.and_eq_true] at ht
   exact ⟨h.msg, h.bpdu, by show (2 : Int) ≠ 3; decide, fun e => (by cases e), fun _ => h.des ht.2⟩
 have hd : NH (disableP p) := ⟨rfl, h.bpdu, by show (0 : Int) ≠ 3; decide, h.des, fun e => (by have e : (0 : Int) = 2 := e; omega)⟩
 have ha : NH (ageP p) := ⟨h.msg, h.bpdu, by show (1 : Int) ≠ 3; decide, h.des, fun e => (by have e : (1 : Int) = 2 := e; omega)⟩
 unfold infoF
 repeat' split
 · exact hd
 · exact hd
 · exact ha
 · rename_i e; simp only [Bool.and_eq_true] at e; exact hu e.2
 · rename_i e; simp only [Bool.and_eq_true] at e; exact hu e.2
 · exact h
 · exact ha
 · rename_i e; rw [h.msg] at e; cases e
 · exact h
theorem noH_stp {n : Nat} {s : BS} {o : Op} (hI : Inv n s) (ho : o ∈ ops n) (h : NoH n s) : NoH n (stp o s).1 := by
 have hl := hI.len
 intro j hj
 rcases ops_cases ho with rfl | ⟨k, hk, ho⟩
 · show NH (ptAt (selF s).1 j)
   by_cases ha : s.ps.any askP = true
   · have hr : rootF s.b.id s.ps = (ownOf s.b.id, -1) := rootL_no3 _ _ _ _ fun j hj => (h j (by omega)).is_
     have h7 : (stepB s.b s.ps).root.root = 7 := by
       show (rootF s.b.id s.ps).1.root = 7
       rw [hr]; exact hI.b.id
     rw [sel_at ha j (by omega)]
     obtain ⟨e1, e2, e3, e4, e5, e6, e7, e8⟩ := role_same (stepB s.b s.ps) j (baseP (stepB s.b s.ps) (ptAt s j))
     have hh := h j hj
     refine ⟨e3.trans hh.msg, e4.trans hh.bpdu, fun e => hh.is_ (e2.symm.trans e), fun _ => ?_, fun e => ?_⟩
     · show (roleF (stepB s.b s.ps) j (baseP (stepB s.b s.ps) (ptAt s j))).designated.root = 7
       rw [e6]; exact h7
     · show (roleF (stepB s.b s.ps) j (baseP (stepB s.b s.ps) (ptAt s j))).vec.root = 7
       rw [e5]; exact hh.vec (e2.symm.trans e)
   · rw [sel_no ha]; exact h j hj
 · have hkn : k < s.ps.length := by omega
   rcases ho with rfl | rfl | rfl | rfl | rfl | rfl | rfl | rfl
   · show NH (ptAt (ofP (fun b p => (rxT b p).get (p, false)) s k).1 j)
     rw [ofP_at _ s k j hkn]
     split
     · exact (h k hk).rx
     · exact h j hj
   · exact (h j hj).same (stp_same hkn (by decide) j)
   · exact (h j hj).same (stp_same hkn (by decide) j)
   · show NH (ptAt (ofP infoF s k).1 j)
     rw [ofP_at infoF s k j hkn]
     split
     · exact (h k hk).info
     · exact h j hj
   · exact (h j hj).same (stp_same hkn (by decide) j)
   · exact (h j hj).same (stp_same hkn (by decide) j)
   · exact (h j hj).same (stp_same hkn (by decide) j)
   · exact (h j hj).same (stp_same hkn (by decide) j)
theorem run_noH {n : Nat} (h5 : n ≤ 5) {s : BS} (h : Start n s) (hR : NoH n s) : NoH n (runF s).1 :=
 (run_keep h5 (P := fun s' => Inv n s' ∧ NoH n s') (fun s' o ho hl e => ⟨e.1.stp ho, noH_stp e.1 ho e.2⟩) h ⟨h.i, hR⟩).2
structure QA (M : Msg) (k j : Nat) (p : Port) : Prop where
 en : p.enabled = true
 is_ : p.is_ = 2
 res : p.flags.reselect = false
 upd : p.flags.updtInfo = false
 vec : p.vec.root = 7
 info : p.states.info = 2
 o : j ≠ k → p.flags.rcvdMsg = false ∧ p.flags.rcvdBpdu = false
 m : j = k → p.msg = M ∧ ((p.flags.rcvdBpdu = true ∧ p.flags.rcvdMsg = false) ∨ (p.flags.rcvdBpdu = false ∧ p.flags.rcvdMsg = true))
structure QO (p : Port) : Prop where
 en : p.enabled = true
 is_ : p.is_ = 2
 msg : p.flags.rcvdMsg = false
 bpdu : p.flags.rcvdBpdu = false
structure QK (r : Int) (p : Port) : Prop where
 en : p.enabled = true
 is_ : p.is_ = 3
 msg : p.flags.rcvdMsg = false
 bpdu : p.flags.rcvdBpdu = false
 upd : p.flags.updtInfo = false
 info : p.states.info = 2
 ri : p.clocks.rcvdInfo = 6
 root : p.vec.root = r
 br : p.vec.bridge = 9
 age : p.times.age = 1
def GoodS (n k : Nat) (r : Int) (s : BS) : Prop := (∃ j, j < n ∧ (ptAt s j).flags.reselect = true) ∨ (s.b.root.root = r ∧ s.b.rootPort = k ∧ s.b.rootT.age = 2 ∧ (ptAt s k).selected = 3 ∧
 ∀ j, j < n → j ≠ k → (ptAt s j).selected = 4 ∧ (ptAt s j).designated.root = r ∧ ((ptAt s j).flags.updtInfo = false → (ptAt s j).vec.root = r))
structure PC (n k : Nat) (r : Int) (s : BS) : Prop where
 o : ∀ j, j < n → j ≠ k → QO (ptAt s j)
 at_ : QK r (ptAt s k)
 g : GoodS n k r s
def PB (M : Msg) (n k : Nat) (r : Int) (s : BS) : Prop := (∀ j, j < n → QA M k j (ptAt s j)) ∨ PC n k r s
theorem QA.same {M : Msg} {k j : Nat} {p q : Port} (h : QA M k j p) (e : SameV p q) : QA M k j q := ⟨e.en.trans h.en, e.is_.trans h.is_, e.res.trans h.res, e.upd.trans h.upd, by rw [e.vec]; exact h.vec, e.info.trans h.info, fun hj => ⟨e.msg.trans (h.o hj).1, e.bpdu.trans (h.o hj).2⟩, fun hj => ⟨e.m.trans (h.m hj).1, by rw [e.bpdu, e.msg]; exact (h.m hj).2⟩⟩
theorem QO.same {p q : Port} (h : QO p) (e : SameV p q) : QO q := ⟨e.en.trans h.en, e.is_.trans h.is_, e.msg.trans h.msg, e.bpdu.trans h.bpdu⟩
theorem QK.same {r : Int} {p q : Port} (h : QK r p) (e : SameV p q) : QK r q := ⟨e.en.trans h.en, e.is_.trans h.is_, e.msg.trans h.msg, e.bpdu.trans h.bpdu, e.upd.trans h.upd, e.info.trans h.info, e.ri.trans h.ri, by rw [e.vec]; exact h.root, by rw [e.vec]; exact h.br, by rw [e.times]; exact h.age⟩
theorem PC.same {n k : Nat} {r : Int} {s s' : BS} (h : PC n k r s) (hb : s'.b = s.b) (e : ∀ j, SameV (ptAt s j) (ptAt s' j)) : PC n k r s' := by
 refine ⟨fun j hj hne => (h.o j hj hne).same (e j), h.at_.same (e k), ?_⟩
 rcases h.g with ⟨j, hj, hr⟩ | ⟨g1, g2, g3, g4, g5⟩
 · exact .inl ⟨j, hj, (e j).res.trans hr⟩
 · refine .inr ⟨by rw [hb]; exact g1, by rw [hb]; exact g2, by rw [hb]; exact g3, (e k).sel.trans g4, fun j hj hne => ?_⟩
   obtain ⟨a, b, c⟩ := g5 j hj hne
   exact ⟨(e j).sel.trans a, by rw [(e j).des]; exact b, by rw [(e j).upd, (e j).vec]; exact c⟩
theorem fourI_zero {a b : Vec} (h : fourI a b = 0) : a.root = b.root := by
 rcases Decidable.em (a.root = b.root) with e | e
 · exact e
 · unfold fourI at h
   rw [if_pos e] at h
   unfold cmpI at h
   split at h
   · cases h
   · split at h
     · cases h
     · omega
theorem fourI_less {a b : Vec} (h : a.root < b.root) : fourI a b = -1 := by
 unfold fourI cmpI
 rw [if_pos (by omega), if_pos h]
theorem rootL_one (id : Int) : ∀ (l : List Port) (i k : Nat) (x : Vec × Int), k < l.length → (∀ j, j < l.length → j ≠ k → (l.getD j Port.dflt).is_ ≠ 3) → (l.getD k Port.dflt).is_ = 3 → ownV id (l.getD k Port.dflt).vec = false →
   cmpV (thrV (l.getD k Port.dflt).vec (l.getD k Port.dflt).cost (l.getD k Port.dflt).id) x.1 < 0 → rootL id l i x = (thrV (l.getD k Port.dflt).vec (l.getD k Port.dflt).cost (l.getD k Port.dflt).id, ((i + k : Nat) : Int))
 | [], i, k, x, hk, _, _, _, _ => absurd hk (Nat.not_lt_zero _)
 | p :: r, i, 0, x, hk, ho, h3, hw, hc => by
   have h3 : p.is_ = 3 := h3
   have hw : ownV id p.vec = false := hw
   have hc : cmpV (thrV p.vec p.cost p.id) x.1 < 0 := hc
   have hs : rootStep id i p x = (thrV p.vec p.cost p.id, (i : Int)) := by
     unfold rootStep
     rw [if_neg (by simp [h3, hw]), if_pos (decide_eq_true hc)]
   rw [rootL, hs]
   exact rootL_no3 id r (i + 1) _ fun j hj => by have := ho (j + 1) (by simpa using hj) (by omega); simpa using this
 | p :: r, i, k + 1, x, hk, ho, h3, hw, hc => by
   have h0 : p.is_ ≠ 3 := ho 0 (by simp) (by omega)
   have hs : rootStep id i p x = x := by unfold rootStep; rw [if_pos (by simp [h0])]
   rw [rootL, hs]
   have := rootL_one id r (i + 1) k x (by simpa using hk) (fun j hj hne => by have := ho (j + 1) (by simpa using hj) (by omega); simpa using this) h3 hw hc
   rw [this, show i + 1 + k = i + (k + 1) from by omega]
   rfl
theorem class_sup {p : Port} (hk : p.msg.kind = 0) (h : p.msg.vec.root < p.vec.root) : classI p = 0 := by
 unfold classI supV tellsM
 rw [fourI_less h, hk]
 simp
theorem no_ask {n : Nat} {s : BS} (hl : s.ps.length = n) (h : ∀ j, j < n → (ptAt s j).flags.reselect = false) : ¬ s.ps.any askP = true := by
 intro ha
 obtain ⟨x, hx, hb⟩ := List.any_eq_true.1 ha
 obtain ⟨j, hj, e⟩ := List.getElem_of_mem hx
 have e2 : ptAt s j = x := by
   show s.ps.getD j Port.dflt = x
   rw [List.getD_eq_getElem?_getD, List.getElem?_eq_getElem hj]
   exact e
 have := h j (by omega)
 rw [e2, show x.flags.reselect = true from hb] at this
 cases this
theorem QA.still {M : Msg} {k j : Nat} {p : Port} (h : QA M k j p) (hm : p.flags.rcvdMsg = false) : infoFire p = false := by
 unfold infoFire toldP
 rw [h.en, h.is_, hm, h.upd, h.info]
 simp
theorem QA.rx {M : Msg} {k j : Nat} {b : Bri} {p : Port} (hM : M.kind = 0) (h : QA M k j p) : QA M k j ((rxT b p).get (p, false)).1 := by
 rcases Decidable.em (j = k) with hj | hj
 · have hm := (h.m hj).1
   have h2 : QA M k j (receiveP { p with flags := { p.flags with rcvdStp := true } }) := ⟨h.en, h.is_, h.res, h.upd, h.vec, h.info, fun hne => absurd hj hne, fun _ => ⟨hm, .inr ⟨rfl, rfl⟩⟩⟩
   have hk2 : (p.msg.kind == 2) = false := by rw [hm, hM]; rfl
   simp only [rxT, receiveT, Out.get, hk2, Bool.false_eq_true, if_false]
   split
   · rename_i e; rw [h.en] at e; simp at e
   · split
     · exact h2
     · split
       · exact h2
       · exact h
 · have hb := (h.o hj).2
   simp only [rxT, Out.get, hb, Bool.false_and, Bool.and_false, Bool.false_eq_true, if_false]
   split
   · rename_i e; rw [h.en] at e; simp at e
   · exact h
theorem sup_info {b : Bri} {p : Port} (en : p.enabled = true) (is2 : p.is_ = 2) (upd : p.flags.updtInfo = false) (info : p.states.info = 2) (hm : p.flags.rcvdMsg = true) (hc : classI p = 0) : (infoF b p).1 = heardP (superiorP b.rst p) := by
 unfold infoF toldP hearP
 rw [en, is2, upd, info, hm, hc]
 simp
theorem sup_keep (rst : Bool) (p : Port) : (heardP (superiorP rst p)).enabled = p.enabled ∧ (heardP (superiorP rst p)).flags.rcvdBpdu = p.flags.rcvdBpdu ∧ (heardP (superiorP rst p)).flags.updtInfo = p.flags.updtInfo ∧ (heardP (superiorP rst p)).vec = p.msg.vec ∧ (heardP (superiorP rst p)).times = p.msg.times ∧ (heardP (superiorP rst p)).clocks.rcvdInfo = waitsI p.msg.times := ⟨by kernel_rfl, by kernel_rfl, by kernel_rfl, by kernel_rfl, by kernel_rfl, by kernel_rfl⟩
theorem pb_sel {n k : Nat} {r : Int} {s : BS} (hI : Inv n s) (hk : k < n) (hr : r < 7) (h : PC n k r s) : PC n k r (selF s).1 := by
 have hl := hI.len
 by_cases ha : s.ps.any askP = true
 · have hK := h.at_
   have hkl : k < s.ps.length := by omega
   have hown : ownV s.b.id (s.ps.getD k Port.dflt).vec = false := by
     have e : (s.ps.getD k Port.dflt).vec.bridge = 9 := hK.br
     unfold ownV
     rw [e, hI.b.id]
     show (addrI 9 == addrI 7) = false
     decide
   have hcmp : cmpV (thrV (s.ps.getD k Port.dflt).vec (s.ps.getD k Port.dflt).cost (s.ps.getD k Port.dflt).id) (ownOf s.b.id, (-1 : Int)).1 < 0 := by
     have e : (s.ps.getD k Port.dflt).vec.root = r := hK.root
     have h1 : fourI (thrV (s.ps.getD k Port.dflt).vec (s.ps.getD k Port.dflt).cost (s.ps.getD k Port.dflt).id) (ownOf s.b.id) = -1 := fourI_less (by
       show (s.ps.getD k Port.dflt).vec.root < s.b.id
       rw [e, hI.b.id]; exact hr)
     show cmpV _ (ownOf s.b.id) < 0
     unfold cmpV
     rw [h1, if_pos (by decide)]
     decide
   have hroot : rootF s.b.id s.ps = (thrV (s.ps.getD k Port.dflt).vec (s.ps.getD k Port.dflt).cost (s.ps.getD k Port.dflt).id, ((0 + k : Nat) : Int)) :=
     rootL_one _ s.ps 0 k _ hkl (fun j hj hne => by have := (h.o j (by omega) hne).is_; show (ptAt s j).is_ ≠ 3; rw [this]; decide) hK.is_ hown hcmp
   rw [Nat.zero_add] at hroot
   have hb : (selF s).1.b = stepB s.b s.ps := by unfold selF; rw [if_pos ha]
   have b1 : (stepB s.b s.ps).root.root = r := by
     show (rootF s.b.id s.ps).1.root = r
     rw [hroot]; exact hK.root
   have b2 : (stepB s.b s.ps).rootPort = k := by
     show (rootF s.b.id s.ps).2 = k
     rw [hroot]
   have b3 : (stepB s.b s.ps).rootT.age = 2 := by
     show (if decide ((rootF s.b.id s.ps).2 ≥ 0) = true then { (s.ps.getD (rootF s.b.id s.ps).2.toNat Port.dflt).times with age := IntKind.i64.wrap ((s.ps.getD (rootF s.b.id s.ps).2.toNat Port.dflt).times.age + 1) } else s.b.times).age = 2
     rw [hroot]
     have e : (s.ps.getD ((k : Int)).toNat Port.dflt).times.age = 1 := hK.age
     rw [if_pos (decide_eq_true (by omega))]
     show IntKind.i64.wrap ((s.ps.getD ((k : Int)).toNat Port.dflt).times.age + 1) = 2
     rw [e]; rfl
   have hat := fun j (hj : j < n) => sel_at ha j (by omega)
   have hsame := fun j => role_same (stepB s.b s.ps) (j : Nat) (baseP (stepB s.b s.ps) (ptAt s j))
   have hkk : stepP (stepB s.b s.ps) k (ptAt s k) = setSel (baseP (stepB s.b s.ps) (ptAt s k)) 3 false := by
     have e : (baseP (stepB s.b s.ps) (ptAt s k)).is_ = 3 := hK.is_
     unfold stepP roleF
     rw [e, b2]
     simp
   have hjj : ∀ j, j < n → j ≠ k → stepP (stepB s.b s.ps) j (ptAt s j) = setSel (baseP (stepB s.b s.ps) (ptAt s j)) 4 ((ptAt s j).flags.updtInfo || differsP (baseP (stepB s.b s.ps) (ptAt s j))) := by
     intro j hj hne
     have e : (baseP (stepB s.b s.ps) (ptAt s j)).is_ = 2 := (h.o j hj hne).is_
     unfold stepP roleF
     rw [e]
     rfl
   refine ⟨fun j hj hne => ?_, ?_, .inr ⟨by rw [hb]; exact b1, by rw [hb]; exact b2, by rw [hb]; exact b3, ?_, fun j hj hne => ?_⟩⟩
   · rw [hat j hj, hjj j hj hne]
     have := h.o j hj hne
     exact ⟨this.en, this.is_, this.msg, this.bpdu⟩
   · rw [hat k hk, hkk]
     exact ⟨hK.en, hK.is_, hK.msg, hK.bpdu, rfl, hK.info, hK.ri, hK.root, hK.br, hK.age⟩
   · rw [hat k hk, hkk]; rfl
   · rw [hat j hj, hjj j hj hne]
     refine ⟨rfl, b1, fun hu => ?_⟩
     have hu : ((ptAt s j).flags.updtInfo || differsP (baseP (stepB s.b s.ps) (ptAt s j))) = false := hu
     rw [Bool.or_eq_false_iff] at hu
     have hd := hu.2
     unfold differsP at hd
     rw [Bool.or_eq_false_iff] at hd
     have h4 : fourI (baseP (stepB s.b s.ps) (ptAt s j)).vec (baseP (stepB s.b s.ps) (ptAt s j)).designated = 0 := by have := hd.1; simpa using this
     exact (fourI_zero h4).trans b1
 · rw [sel_no ha]; exact h
theorem rx_no {p : Port} (en : p.enabled = true) (hb : p.flags.rcvdBpdu = false) : rxFire p = false := by
 unfold rxFire
 rw [en, hb]
 simp
theorem QK.still {r : Int} {p : Port} (h : QK r p) : infoFire p = false := by
 unfold infoFire toldP
 rw [h.en, h.is_, h.msg, h.upd, h.info, h.ri]
 simp
theorem QO.info {b : Bri} {p : Port} (h : QO p) (hi : p.states.info ≠ 0) : (infoF b p).1 = p ∨ (infoF b p).1 = updateP p := by
 unfold infoF
 split
 · rename_i e; rw [h.en] at e; simp at e
 · split
   · rename_i e; rw [h.msg] at e; simp at e
   · split
     · rename_i e; simp [hi] at e
     · split
       · exact .inr rfl
       · split
         · exact .inr rfl
         · split
           · exact .inl rfl
           · split
             · rename_i e; rw [h.is_] at e; simp at e
             · split
               · rename_i e; rw [h.msg] at e; cases e
               · exact .inl rfl
theorem pb_stp {M : Msg} {n k : Nat} {r : Int} {s : BS} {o : Op} (hI : Inv n s) (hk : k < n) (hr : r < 7) (hM : M.kind = 0) (hMr : M.vec.root = r) (hMb : M.vec.bridge = 9) (hMt : M.times = ⟨1, 20, 2, 15⟩) (ho : o ∈ ops n) (h : PB M n k r s) : PB M n k r (stp o s).1 := by
 have hl := hI.len
 have ho' := ho
 rcases h with h | h
 · rcases ops_cases ho with rfl | ⟨i, hi, ho⟩
   · show PB M n k r (selF s).1
     rw [sel_no (no_ask hl fun j hj => (h j hj).res)]
     exact .inl h
   · have hil : i < s.ps.length := by omega
     have oth : ∀ m, (m = 1 ∨ m = 2 ∨ m = 4 ∨ m = 5 ∨ m = 6 ∨ m = 7) → PB M n k r (stp (.m m i) s).1 := fun m hm => .inl fun j hj => (h j hj).same (stp_same hil hm j)
     rcases ho with rfl | rfl | rfl | rfl | rfl | rfl | rfl | rfl
     · refine .inl fun j hj => ?_
       show QA M k j (ptAt (ofP (fun b p => (rxT b p).get (p, false)) s i).1 j)
       rw [ofP_at _ s i j hil]
       split
       · rename_i e; subst e; exact (h j hj).rx hM
       · exact h j hj
     · exact oth 1 (by decide)
     · exact oth 2 (by decide)
     · rcases Decidable.em (i = k) with hik | hik
       · subst hik
         have hq := h i hk
         cases hm : (ptAt s i).flags.rcvdMsg with
         | false => rw [lazy n s _ hl ho' (by rw [stp_info]; exact hq.still hm)]; exact .inl h
         | true =>
           obtain ⟨hmm, hbm⟩ := hq.m rfl
           have hb : (ptAt s i).flags.rcvdBpdu = false := by
             rcases hbm with ⟨_, h2⟩ | ⟨h1, _⟩
             · rw [hm] at h2; cases h2
             · exact h1
           have hc : classI (ptAt s i) = 0 := class_sup (by rw [hmm]; exact hM) (by rw [hmm, hMr, hq.vec]; exact hr)
           have hinf := sup_info (b := s.b) hq.en hq.is_ hq.upd hq.info hm hc
           obtain ⟨k1, k2, k3, k4, k5, k6⟩ := sup_keep s.b.rst (ptAt s i)
           have e : ∀ j, ptAt (ofP infoF s i).1 j = if j = i then heardP (superiorP s.b.rst (ptAt s i)) else ptAt s j := fun j => by rw [ofP_at infoF s i j hil, hinf]
           show PB M n i r (ofP infoF s i).1
           refine .inr ⟨fun j hj hne => ?_, ?_, .inl ⟨i, hk, ?_⟩⟩
           · rw [e j, if_neg hne]
             have := h j hj
             exact ⟨this.en, this.is_, (this.o hne).1, (this.o hne).2⟩
           · rw [e i, if_pos rfl]
             exact ⟨k1.trans hq.en, rfl, rfl, k2.trans hb, k3.trans hq.upd, rfl, by rw [k6, hmm, hMt]; rfl, by rw [k4, hmm]; exact hMr, by rw [k4, hmm]; exact hMb, by rw [k5, hmm, hMt]⟩
           · rw [e i, if_pos rfl]; rfl
       · have hq := h i hi
         rw [lazy n s _ hl ho' (by rw [stp_info]; exact hq.still (hq.o hik).1)]
         exact .inl h
     · exact oth 4 (by decide)
     · exact oth 5 (by decide)
     · exact oth 6 (by decide)
     · exact oth 7 (by decide)
 · rcases ops_cases ho with rfl | ⟨i, hi, ho⟩
   · exact .inr (pb_sel hI hk hr h)
   · have hil : i < s.ps.length := by omega
     have oth : ∀ m, (m = 1 ∨ m = 2 ∨ m = 4 ∨ m = 5 ∨ m = 6 ∨ m = 7) → PB M n k r (stp (.m m i) s).1 := fun m hm => .inr (h.same (stp_b (by omega)) fun j => stp_same hil hm j)
     rcases ho with rfl | rfl | rfl | rfl | rfl | rfl | rfl | rfl
     · have hno : rxFire (ptAt s i) = false := by
         rcases Decidable.em (i = k) with hik | hik
         · rw [hik]; exact rx_no h.at_.en h.at_.bpdu
         · exact rx_no (h.o i hi hik).en (h.o i hi hik).bpdu
       rw [lazy n s _ hl ho' (by rw [stp_rx]; exact hno)]
       exact .inr h
     · exact oth 1 (by decide)
     · exact oth 2 (by decide)
     · rcases Decidable.em (i = k) with hik | hik
       · rw [lazy n s _ hl ho' (by rw [stp_info, hik]; exact h.at_.still)]
         exact .inr h
       · have hq := h.o i hi hik
         have hi0 : (ptAt s i).states.info ≠ 0 := fun e => by have := (hI.p i hi).inf.1.1 e; rw [hq.is_] at this; omega
         show PB M n k r (ofP infoF s i).1
         rcases QO.info (b := s.b) hq hi0 with hinf | hinf
         · refine .inr (h.same rfl fun j => ?_)
           rw [ofP_at infoF s i j hil, hinf]
           split
           · rename_i e; subst e; exact .of rfl
           · exact .of rfl
         · have e : ∀ j, ptAt (ofP infoF s i).1 j = if j = i then updateP (ptAt s i) else ptAt s j := fun j => by rw [ofP_at infoF s i j hil, hinf]
           have hki : k ≠ i := fun e => hik e.symm
           refine .inr ⟨fun j hj hne => ?_, ?_, ?_⟩
           · rw [e j]
             split
             · exact ⟨hq.en, rfl, hq.msg, hq.bpdu⟩
             · exact h.o j hj hne
           · rw [e k, if_neg hki]; exact h.at_
           · rcases h.g with ⟨j, hj, hres⟩ | ⟨g1, g2, g3, g4, g5⟩
             · refine .inl ⟨j, hj, ?_⟩
               rw [e j]
               split
               · rename_i ej; subst ej; exact hres
               · exact hres
             · refine .inr ⟨g1, g2, g3, by rw [e k, if_neg hki]; exact g4, fun j hj hne => ?_⟩
               rw [e j]
               obtain ⟨a, b, c⟩ := g5 j hj hne
               split
               · rename_i ej; subst ej; exact ⟨a, b, fun _ => b⟩
               · exact ⟨a, b, c⟩
     · exact oth 4 (by decide)
     · exact oth 5 (by decide)
     · exact oth 6 (by decide)
     · exact oth 7 (by decide)
theorem enable_or {n : Nat} {s : BS} (hl : s.ps.length = n) {k : Int} (h0 : 0 ≤ k) (hk : k < n) (on : Bool) (j : Nat) : ptAt (enableF s k on).1 j = ptAt s j ∨ ptAt (enableF s k on).1 j = onP on (ptAt s j) := by
 have hkn : k.toNat < s.ps.length := by omega
 unfold enableF
 split
 · exact .inl rfl
 · have e : ptAt { s with ps := s.ps.set k.toNat (onP on (portAt s k)) } j = if j = k.toNat then onP on (portAt s k) else ptAt s j := getD_set hkn
   show ptAt { s with ps := s.ps.set k.toNat (onP on (portAt s k)) } j = _ ∨ ptAt { s with ps := s.ps.set k.toNat (onP on (portAt s k)) } j = _
   rw [e]
   split
   · rename_i ej; subst ej; exact .inr rfl
   · exact .inl rfl
structure Uped (n i : Nat) (s0 s : BS) : Prop where
 st : Start n s
 nh : NoH n s
 o : s.out = s0.out
 f : s.fl = s0.fl
 en : ∀ j, j < i → (ptAt s j).enabled = true
theorem up_all {n : Nat} {s0 : BS} : ∀ (m i : Nat) (s : BS), i + m = n → Uped n i s0 s → Uped n n s0 (upL m i s)
 | 0, i, s, e, h => by
   have : i = n := by omega
   subst this
   exact h
 | m + 1, i, s, e, h => by
   unfold upL
   have hi : (0 : Int) ≤ (i : Int) ∧ (i : Int) < n := by omega
   have hl := enable_len s i true
   refine up_all m (i + 1) _ (by omega) ⟨start_enable h.st hi.1 hi.2 _, fun j hj => ?_, hl.2.1.trans h.o, hl.2.2.trans h.f, fun j hj => ?_⟩
   · have hh := h.nh j hj
     rcases enable_or h.st.i.len hi.1 hi.2 true j with e | e
     · rw [e]; exact hh
     · rw [e]; exact ⟨hh.msg, hh.bpdu, hh.is_, hh.des, hh.vec⟩
   · rw [(enable_ps h.st.i.len hi.1 hi.2 true j).1]
     split
     · rfl
     · rename_i hne
       exact h.en j (by have : j ≠ i := fun e => hne (by rw [e]; rfl)
                        omega)
theorem noH_new (rst : Bool) (L : List Conf) (h : L.length ≤ 32) : NoH L.length (lvS0 rst L) := by
 have hn := lvN_eq (new_ok5 rst L h)
 have e : lvS0 rst L = ⟨newB 7 rst lvTm 6, newPs L rst lvTm, [], []⟩ := by unfold lvS0; rw [hn]
 rw [e]
 intro j hj
 have hat : ptAt ⟨newB 7 rst lvTm 6, newPs L rst lvTm, [], []⟩ j = newP (L.getD j Conf.dflt) rst lvTm := newPs_at L rst j hj
 rw [hat]
 have key : ∀ ed : Int, NH (newQ (L.getD j Conf.dflt) rst lvTm ed) := fun ed => ⟨rfl, rfl, by show (0 : Int) ≠ 3; decide, fun e => (by cases e), fun e => (by have e : (0 : Int) = 2 := e; omega)⟩
 unfold newP
 split
 · exact key 0
 · exact key 1
theorem root_rng {r : Int} (h : 0 ≤ r ∧ r < 256) : IntKind.u64.wrap (r.tmod 7) < 7 := by
 have h1 : 0 ≤ r.tmod 7 := Int.tmod_nonneg _ (by omega)
 have h2 : r.tmod 7 < 7 := Int.tmod_lt_of_pos _ (by omega)
 have h3 : r.tmod 7 = 0 ∨ r.tmod 7 = 1 ∨ r.tmod 7 = 2 ∨ r.tmod 7 = 3 ∨ r.tmod 7 = 4 ∨ r.tmod 7 = 5 ∨ r.tmod 7 = 6 := by omega
 rcases h3 with e | e | e | e | e | e | e <;> rw [e] <;> decide
theorem Rest.two {n : Nat} {s : BS} (h : Rest n s) (hN : NoH n s) {j : Nat} (hj : j < n) (he : (ptAt s j).enabled = true) : (ptAt s j).is_ = 2 ∧ (ptAt s j).states.info = 2 := by
 have q := h.quiet hj
 have hp := h.i.i.p j hj
 have a := hp.is_
 have b := hp.st.info
 have h0 : (ptAt s j).is_ ≠ 0 := fun e => by rw [q.off.2 e] at he; cases he
 have h1 : (ptAt s j).is_ ≠ 1 := fun e => q.info (hp.inf.2.2 e)
 have h3 := (hN j hj).is_
 have i0 : (ptAt s j).states.info ≠ 0 := fun e => h0 (hp.inf.1.1 e)
 have i1 := q.info
 exact ⟨by omega, by omega⟩
theorem qa_heard {M : Msg} {k : Nat} {p : Port} (en : p.enabled = true) (is2 : p.is_ = 2) (res : p.flags.reselect = false) (upd : p.flags.updtInfo = false) (vec : p.vec.root = 7) (info : p.states.info = 2) (msg : p.flags.rcvdMsg = false) : QA M k k (bpP (msgP M p)) := ⟨en, is2, res, upd, vec, info, fun hne => absurd rfl hne, fun _ => ⟨rfl, .inl ⟨rfl, msg⟩⟩⟩
theorem better_true (S : Stat) (y : BwP) (hxa : 0 ≤ y.a ∧ y.a < 256) (hxr : 0 ≤ y.r ∧ y.r < 256) : ∃ v, (bwW S y).sel = some v ∧ ∀ S' E, v.den S' E = .bool true := by
 cases hG : bwG y with
 | true => exact ⟨_, Out.way_sel (bw_far S y) (by rw [hG]), fun _ _ => rfl⟩
 | false =>
   have hG' := hG
   simp only [bwG, Bool.or_eq_false_iff, decide_eq_false_iff_not] at hG
   have h1 : 1 ≤ y.L.length := by omega
   have h5 : y.L.length ≤ 5 := by omega
   obtain ⟨r1, r2, r3, r4⟩ := live_rest (rst := y.rst) (A := []) h1 h5 (fun a ha => by cases ha) rfl
   have r2 : Rest y.L.length (bw0 y) := r2
   have r3 : (bw0 y).out.length ≤ 10000000 := r3
   have r4 : (bw0 y).fl.length ≤ 10000000 := r4
   have n0 : NoH y.L.length (bw0 y) := run_noH h5 (start_new y.rst y.L (by omega)) (noH_new y.rst y.L (by omega))
   have l0 : (bw0 y).ps.length = y.L.length := r2.i.i.len
   have hu := up_all (s0 := bw0 y) y.L.length 0 (bw0 y) (by omega) ⟨r2.start, n0, rfl, rfl, fun j hj => absurd hj (Nat.not_lt_zero _)⟩
   have hu : Uped y.L.length y.L.length (bw0 y) (bwU y) := hu
   have lu : (bwU y).ps.length = y.L.length := hu.st.i.len
   have luo : (bwU y).out.length ≤ 10000000 := by rw [hu.o]; exact r3
   have luf : (bwU y).fl.length ≤ 10000000 := by rw [hu.f]; exact r4
   obtain ⟨one, s1, _⟩ := hu.st.run h5
   have s1 : Rest y.L.length (bw1 y) := s1
   have n1 : NoH y.L.length (bw1 y) := run_noH h5 hu.st hu.nh
   have e1 : ∀ j, j < y.L.length → (ptAt (bw1 y) j).enabled = true := fun j hj => (run_en h5 hu.st hj).trans (hu.en j hj)
   have l1 : (bw1 y).ps.length = y.L.length := s1.i.i.len
   have l1r := runF_len (bwU y) (by omega)
   have l1o : (bw1 y).out.length ≤ 18000000 := by have : (bw1 y).out.length ≤ (bwU y).out.length + 8000000 := l1r.2.1; omega
   have l1f : (bw1 y).fl.length ≤ 18000000 := by have : (bw1 y).fl.length ≤ (bwU y).fl.length + 8000000 := l1r.2.2; omega
   have hk : 0 ≤ bwK y ∧ bwK y < y.L.length := byte_rng (by omega) hxa
   have hkn : (bwK y).toNat < y.L.length := by omega
   have hkc : ((bwK y).toNat : Int) = bwK y := by omega
   have qk := s1.quiet hkn
   have hcond : ((!(portAt (bw1 y) (bwK y)).enabled || (portAt (bw1 y) (bwK y)).flags.rcvdBpdu) || ((bwM y).kind == 2 && !(bw1 y).b.rst)) = false := by
     have a : (portAt (bw1 y) (bwK y)).enabled = true := e1 _ hkn
     have b : (portAt (bw1 y) (bwK y)).flags.rcvdBpdu = false := qk.bpdu
     rw [a, b]; rfl
   have hH : hearF (bw1 y) (bwK y) (bwM y) = ({ (bw1 y) with ps := modI (bwK y) bpP ((bw1 y).ps.set (bwK y).toNat (msgP (bwM y) (portAt (bw1 y) (bwK y)))) }, true) := by
     unfold hearF
     rw [hcond]
     rfl
   have hHs : bwH y = { (bw1 y) with ps := modI (bwK y) bpP ((bw1 y).ps.set (bwK y).toNat (msgP (bwM y) (portAt (bw1 y) (bwK y)))) } := by unfold bwH; rw [hH]
   have hat : ∀ j, ptAt (bwH y) j = if j = (bwK y).toNat then bpP (msgP (bwM y) (ptAt (bw1 y) (bwK y).toNat)) else ptAt (bw1 y) j := by
     intro j
     rw [hHs]
     show (((bw1 y).ps.set (bwK y).toNat (msgP (bwM y) (portAt (bw1 y) (bwK y)))).set (bwK y).toNat (bpP (((bw1 y).ps.set (bwK y).toNat (msgP (bwM y) (portAt (bw1 y) (bwK y)))).getD (bwK y).toNat Port.dflt))).getD j Port.dflt = _
     rw [getD_set (by rw [List.length_set]; omega), getD_set (by omega), getD_set (by omega), if_pos rfl]
     split
     · rfl
     · rfl
   have sH : Start y.L.length (bwH y) := start_hear s1.start hk.1 hk.2 ⟨of_decide_eq_true rfl, of_decide_eq_true rfl, of_decide_eq_true rfl, of_decide_eq_true rfl⟩
   have lH : (bwH y).ps.length = y.L.length := sH.i.len
   have lHo : (bwH y).out = (bw1 y).out := by rw [hHs]
   have lHf : (bwH y).fl = (bw1 y).fl := by rw [hHs]
   have hQ : ∀ j, j < y.L.length → QA (bwM y) (bwK y).toNat j (ptAt (bwH y) j) := by
     intro j hj
     have q := s1.quiet hj
     have t := s1.two n1 hj (e1 j hj)
     have nh := n1 j hj
     rw [hat j]
     split
     · rename_i ej
       subst ej
       exact qa_heard (e1 _ hj) t.1 q.res q.upd (nh.vec t.1) t.2 q.msg
     · rename_i hne
       exact ⟨e1 _ hj, t.1, q.res, q.upd, nh.vec t.1, t.2, fun _ => ⟨q.msg, q.bpdu⟩, fun e => absurd e hne⟩
   obtain ⟨two, s2, _⟩ := sH.run h5
   have s2 : Rest y.L.length (bw2 y) := s2
   have hr := root_rng hxr
   have hP := (run_keep h5 (P := fun s' => Inv y.L.length s' ∧ PB (bwM y) y.L.length (bwK y).toNat (IntKind.u64.wrap (y.r.tmod 7)) s') (fun s' o ho hl e => ⟨e.1.stp ho, pb_stp e.1 hkn hr rfl rfl rfl rfl ho e.2⟩) sH ⟨sH.i, .inl hQ⟩).2
   have hP : PB (bwM y) y.L.length (bwK y).toNat (IntKind.u64.wrap (y.r.tmod 7)) (bw2 y) := hP
   have l2 : (bw2 y).ps.length = y.L.length := s2.i.i.len
   have qk2 := s2.quiet hkn
   have hC : PC y.L.length (bwK y).toNat (IntKind.u64.wrap (y.r.tmod 7)) (bw2 y) := by
     rcases hP with h | h
     · rcases ((h _ hkn).m rfl).2 with ⟨h1, _⟩ | ⟨_, h1⟩
       · rw [qk2.bpdu] at h1; cases h1
       · rw [qk2.msg] at h1; cases h1
     · exact h
   have hGd : (bw2 y).b.root.root = IntKind.u64.wrap (y.r.tmod 7) ∧ (bw2 y).b.rootPort = ((bwK y).toNat : Int) ∧ (bw2 y).b.rootT.age = 2 ∧ (ptAt (bw2 y) (bwK y).toNat).selected = 3 ∧
       ∀ j, j < y.L.length → j ≠ (bwK y).toNat → (ptAt (bw2 y) j).selected = 4 ∧ (ptAt (bw2 y) j).designated.root = IntKind.u64.wrap (y.r.tmod 7) ∧ ((ptAt (bw2 y) j).flags.updtInfo = false → (ptAt (bw2 y) j).vec.root = IntKind.u64.wrap (y.r.tmod 7)) := by
     rcases hC.g with ⟨j, hj, h⟩ | h
     · rw [(s2.quiet hj).res] at h; cases h
     · exact h
   obtain ⟨g1, g2, g3, g4, g5⟩ := hGd
   have hbad : ∀ i, i < (bw2 y).ps.length → btBad y.r (bwK y) i ((bw2 y).ps.getD i Port.dflt) = false := by
     intro i hi
     have hi : i < y.L.length := by omega
     have q := s2.quiet hi
     show btBad y.r (bwK y) i (ptAt (bw2 y) i) = false
     unfold btBad
     rcases Decidable.em (i = (bwK y).toNat) with e | e
     · subst e
       rw [hkc, q.role, g4]
       simp
     · obtain ⟨a, b, c⟩ := g5 i hi e
       have hne : ((i : Int) == bwK y) = false := beq_eq_false_iff_ne.2 (by omega)
       have hne2 : ((i : Int) != bwK y) = true := by simp only [bne, hne]; rfl
       rw [hne, hne2, q.role, a, c q.upd]
       simp
   refine ⟨_, Out.way_sel (bw_end S y) ?_, fun S' E => ?_⟩
   · have c2 : lvOk y.rst y.L [] = true := by
       unfold lvOk
       rw [new_ok5 y.rst y.L (by omega), Bool.true_and]
       exact decide_eq_true ⟨h1, by omega, by simp, fun a ha => by cases ha⟩
     have hix : ixB (bw1 y) (bwK y) = true := by simp only [ixB, Bool.and_eq_true, decide_eq_true_eq]; omega
     have t4 : bsT (bwU y).ps.length (bwU y) (roomRun (bwU y)) (bw1 y).ps.length = true := bsT_true rfl (roomRun_true (by omega) luo luf) (by omega)
     have t6 : bsT (bwU y).ps.length (bw1 y) (ixB (bw1 y) (bwK y)) (bwH y).ps.length = true := bsT_true (by omega) hix (by omega)
     have t7 : bsT (bwU y).ps.length (bwH y) (roomRun (bwH y)) (bw2 y).ps.length = true := bsT_true (by omega) (decide_eq_true ⟨by omega, by rw [lHo]; omega, by rw [lHf]; omega⟩) (by omega)
     have c5 : ((y.L.length : Int) == 0) = false := beq_eq_false_iff_ne.2 (by omega)
     have c8 : (((bwU y).ps.length : Int) != y.L.length) = false := by rw [lu]; simp
     have two : (runF (bwH y)).2.2 = true := two
     have d1 : decide (y.L.length = y.L.length) = true := decide_eq_true rfl
     have d3 : decide (y.L.length = y.L.length ∧ (bw0 y).ps.length = (bw0 y).ps.length ∧ (bw0 y).out.length = (bw0 y).out.length ∧ (bw0 y).fl.length = (bw0 y).fl.length) = true := decide_eq_true ⟨rfl, rfl, rfl, rfl⟩
     have d4 : decide (y.L.length ≤ 1000 ∧ (bw0 y).ps.length = y.L.length) = true := decide_eq_true ⟨by omega, l0⟩
     have d9 : decide (y.L.length = (bw2 y).ps.length ∧ (bwU y).ps.length = (bw2 y).ps.length ∧ (bw2 y).ps.length ≤ 1000) = true := decide_eq_true ⟨by omega, by omega, by omega⟩
     have hh : (hearF (bw1 y) (bwK y) (bwM y)).2 = true := by rw [hH]
     rw [hG', c2, t4, t6, t7, c5, c8, r1, one, two, hh, d1, d3, d4, d9, decide_eq_true hbad]
     rfl
   · rw [g1, g2, g3, hkc]
     simp [SV.den]
end Go.Proofs.YtjemfkoamfnofaaGreat
