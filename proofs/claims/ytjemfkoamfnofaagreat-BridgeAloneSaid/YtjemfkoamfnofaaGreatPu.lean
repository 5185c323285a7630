import Derived.Test.YtjemfkoamfnofaaGreatPr
import Derived.Test.YtjemfkoamfnofaaGreatCr
set_option linter.unusedVariables false
set_option maxRecDepth 100000
namespace Go.Proofs.YtjemfkoamfnofaaGreat
open Go Go.RowKit
def gT (p : Port) : ((Bool × Int × Bool × Int) × (Bool × Bool × Bool × Bool × Int) × (Vec × Vec × Times × Msg × Int)) × (Int × Bool × Bool × Bool) × (Int × Bool × Bool × Int) := (gV p,(p.role,p.flags.sync,p.flags.reRoot,p.flags.disputed),(p.clocks.fd,p.flags.learn,p.flags.forward,p.states.trans))
theorem stp_gT {s : BS} {i k : Nat} (hk : k < s.ps.length) (hi : i = 1 ∨ i = 2 ∨ i = 5 ∨ i = 6 ∨ i = 7) : (stp (.m i k) s).1.ps.map gT = s.ps.map gT := by
 rcases hi with rfl | rfl | rfl | rfl | rfl
 · refine loc_map hk ?_
   simp only [migT,Out.get]
   repeat' split
   all_goals rfl
 · exact loc_map hk (edge_keep fun _ _ => rfl)
 · exact loc_map hk (pass_keep fun _ _ _ => rfl)
 · exact topo_map hk (toT_keep rfl rfl rfl (fun _ => rfl) (fun _ => rfl) rfl rfl) (fun _ => rfl) (fun _ => rfl) (fun _ => rfl)
 · exact tx_map hk (fun _ => rfl) (fun _ _ => rfl)
def gP (p : Port) : Bool × Bool × Int := (p.flags.learning,p.flags.forwarding,p.states.pass)
theorem stp_gP {s : BS} {i k : Nat} (hk : k < s.ps.length) (hi : i = 1 ∨ i = 2 ∨ i = 6 ∨ i = 7) : (stp (.m i k) s).1.ps.map gP = s.ps.map gP := by
 rcases hi with rfl | rfl | rfl | rfl
 · refine loc_map hk ?_
   simp only [migT,Out.get]
   repeat' split
   all_goals rfl
 · exact loc_map hk (edge_keep fun _ _ => rfl)
 · exact topo_map hk (toT_keep rfl rfl rfl (fun _ => rfl) (fun _ => rfl) rfl rfl) (fun _ => rfl) (fun _ => rfl) (fun _ => rfl)
 · exact tx_map hk (fun _ => rfl) (fun _ _ => rfl)
structure TP (p : Port) : Prop where
 cl : (p.flags.sync = false ∧ p.flags.reRoot = false) ∨ (p.states.trans = 0 ∧ p.is_ = 0 ∧ p.enabled = false ∧ p.selected = 0 ∧ p.role = 0)
 dis : p.flags.disputed = false
 sel : p.selected = 0 ∨ p.selected = 4
 role : p.role = 0 ∨ p.role = 4
 fd : p.clocks.fd ≤ 20
 lf : p.flags.learn = true → p.clocks.fd ≤ 15
 fl : p.flags.forward = true → p.flags.learn = true
 p1 : p.states.pass = 1 → p.flags.learning = true
 p2 : p.states.pass = 2 → p.flags.learning = true ∧ p.flags.forwarding = true
structure SameT (p q : Port) : Prop where
 v : SameV p q
 role : q.role = p.role
 sync : q.flags.sync = p.flags.sync
 rr : q.flags.reRoot = p.flags.reRoot
 dis : q.flags.disputed = p.flags.disputed
 fd : q.clocks.fd = p.clocks.fd
 learn : q.flags.learn = p.flags.learn
 fwd : q.flags.forward = p.flags.forward
 trans : q.states.trans = p.states.trans
theorem SameT.of {p q : Port} (h : gT q = gT p) : SameT p q := ⟨.of (congrArg (fun x => x.1) h),congrArg (fun x => x.2.1.1) h,congrArg (fun x => x.2.1.2.1) h,congrArg (fun x => x.2.1.2.2.1) h,congrArg (fun x => x.2.1.2.2.2) h,congrArg (fun x => x.2.2.1) h,congrArg (fun x => x.2.2.2.1) h,congrArg (fun x => x.2.2.2.2.1) h,congrArg (fun x => x.2.2.2.2.2) h⟩
theorem TP.same {p q : Port} (h : TP p) (e : SameT p q) (e2 : gP q = gP p) : TP q := ⟨by rw [e.sync,e.rr,e.trans,e.v.is_,e.v.en,e.v.sel,e.role]; exact h.cl,e.dis.trans h.dis,by rw [e.v.sel]; exact h.sel,by rw [e.role]; exact h.role,by rw [e.fd]; exact h.fd,by rw [e.learn,e.fd]; exact h.lf,by rw [e.fwd,e.learn]; exact h.fl,by rw [show q.states.pass = p.states.pass from congrArg (fun x => x.2.2) e2,show q.flags.learning = p.flags.learning from congrArg (fun x => x.1) e2]; exact h.p1,by rw [show q.states.pass = p.states.pass from congrArg (fun x => x.2.2) e2,show q.flags.learning = p.flags.learning from congrArg (fun x => x.1) e2,show q.flags.forwarding = p.flags.forwarding from congrArg (fun x => x.2.1) e2]; exact h.p2⟩
theorem TP.clean {p : Port} (h : TP p) (he : p.enabled = true) : p.flags.sync = false ∧ p.flags.reRoot = false := by
 rcases h.cl with c | ⟨_,_,c,_⟩
 · exact c
 · rw [he] at c; cases c
structure MB (t : Int) (p : Port) : Prop where
 en : p.enabled = true
 is_ : p.is_ = 2
 sel : p.selected = 4
 role : p.role = 4
 m : p.flags.forward = true ∨ (p.flags.forward = false ∧ p.flags.learn = true ∧ p.clocks.fd ≤ t) ∨ (p.flags.forward = false ∧ p.flags.learn = false ∧ p.clocks.fd + 15 ≤ t)
theorem MB.same {t : Int} {p q : Port} (h : MB t p) (e : SameT p q) : MB t q := ⟨e.v.en.trans h.en,e.v.is_.trans h.is_,e.v.sel.trans h.sel,e.role.trans h.role,by rw [e.fwd,e.learn,e.fd]; exact h.m⟩
def TrP (P : Port → Prop) : TrR → Prop
 | .no => True
 | .one q => P q
 | .oneT q => P q
 | _ => False
theorem fwd_le15 {b : Bri} (hb : b.times = lawT) (p : Port) : fwdI b p ≤ 15 := by
 unfold fwdI
 rw [hb]
 split <;> decide
theorem tr_TP {b : Bri} {ps : List Port} {k : Nat} {p : Port} (hb : b.times = lawT) (hp : PInv b k p) (h : TP p) : TrP TP (trR b ps k p) := by
 refine trR_cases trivial (fun _ _ x hx => ?_) (fun hs _ ha x hx => ?_)
 · have h1 := h.sel
   simp only [rolesL,List.mem_cons,List.not_mem_nil,or_false,Prod.mk.injEq] at hx
   rcases hx with ⟨c,rfl⟩ | ⟨c,rfl⟩ | ⟨c,rfl⟩ | ⟨c,rfl⟩
   · have hc : p.flags.sync = false ∧ p.flags.reRoot = false := by
       rcases h.cl with c2 | ⟨_,_,_,c2,c3⟩
       · exact c2
       · rw [c2,c3] at c; simp at c
     exact ⟨.inl hc,h.dis,h.sel,h.sel,h.fd,fun e => (by cases e),fun e => (by cases e),h.p1,h.p2⟩
   · have c := c.symm; simp only [Bool.and_eq_true,beq_iff_eq] at c; omega
   · have hc : p.flags.sync = false ∧ p.flags.reRoot = false := by
       rcases h.cl with c2 | ⟨_,_,_,c2,c3⟩
       · exact c2
       · rw [c2,c3] at c; simp at c
     exact ⟨.inl hc,h.dis,h.sel,h.sel,h.fd,h.lf,h.fl,h.p1,h.p2⟩
   · have c := c.symm; simp only [Bool.and_eq_true,Bool.or_eq_true,beq_iff_eq] at c; omega
 · have hro := h.role
   have htr := hp.tr
   cases hE : stE p with
   | zero =>
     rw [hE] at hx
     simp only [statesL,List.mem_cons,List.not_mem_nil,or_false,Prod.mk.injEq] at hx
     obtain ⟨_,rfl⟩ := hx
     have ht : p.states.trans = 0 := by unfold stE at hE; split at hE <;> first | assumption | (repeat' split at hE) <;> omega
     have hl := hp.lf (by omega) (by omega)
     exact ⟨.inl ⟨rfl,rfl⟩,h.dis,h.sel,h.role,by show b.times.max ≤ 20; rw [hb]; decide,fun e => (by rw [show (restP p 1 b.times.max).flags.learn = p.flags.learn from rfl,hl.1] at e; cases e),fun e => (by rw [show (restP p 1 b.times.max).flags.forward = p.flags.forward from rfl,hl.2] at e; cases e),h.p1,h.p2⟩
   | succ e =>
     rw [hE] at hx
     match e,hE,hx with
     | 0,hE,hx =>
       simp only [statesL,List.mem_cons,List.not_mem_nil,or_false,Prod.mk.injEq] at hx
       obtain ⟨_,rfl⟩ := hx
       have ht : p.states.trans = 1 := stE_trans hE (by decide)
       have hl := hp.lf (by omega) (by omega)
       exact ⟨.inl ⟨rfl,rfl⟩,h.dis,h.sel,h.role,by show b.times.max ≤ 20; rw [hb]; decide,fun e => (by rw [show (restP p 1 b.times.max).flags.learn = p.flags.learn from rfl,hl.1] at e; cases e),fun e => (by rw [show (restP p 1 b.times.max).flags.forward = p.flags.forward from rfl,hl.2] at e; cases e),h.p1,h.p2⟩
     | 1,hE,hx =>
       have ht : p.states.trans = 2 := stE_trans hE (by decide)
       have := htr.2.2.1 ht
       omega
     | 2,hE,hx =>
       have ht : p.states.trans = 3 := stE_trans hE (by decide)
       have hc : p.flags.sync = false ∧ p.flags.reRoot = false := by
         rcases h.cl with c2 | ⟨c2,_⟩
         · exact c2
         · omega
       simp only [statesL,desL,List.mem_cons,List.not_mem_nil,or_false,Prod.mk.injEq] at hx
       rcases hx with ⟨_,rfl⟩ | ⟨_,rfl⟩ | ⟨_,rfl⟩ | ⟨_,rfl⟩ | ⟨_,rfl⟩ | ⟨c,rfl⟩
       · exact ⟨.inl hc,h.dis,h.sel,h.role,h.fd,h.lf,h.fl,h.p1,h.p2⟩
       · exact ⟨.inl ⟨rfl,hc.2⟩,h.dis,h.sel,h.role,h.fd,h.lf,h.fl,h.p1,h.p2⟩
       · exact ⟨.inl ⟨hc.1,rfl⟩,h.dis,h.sel,h.role,h.fd,h.lf,h.fl,h.p1,h.p2⟩
       · exact ⟨.inl hc,rfl,h.sel,h.role,by have := fwd_le15 hb p; show fwdI b p ≤ 20; omega,fun e => (by cases e),fun e => (by cases e),h.p1,h.p2⟩
       · exact ⟨.inl hc,h.dis,h.sel,h.role,by have := fwd_le15 hb p; show fwdI b p ≤ 20; omega,fun _ => fwd_le15 hb p,fun _ => rfl,h.p1,h.p2⟩
       · have c := c.symm
         simp only [Bool.and_eq_true] at c
         exact ⟨.inl hc,h.dis,h.sel,h.role,by show (0 : Int) ≤ 20; decide,fun _ => by show (0 : Int) ≤ 15; decide,fun _ => c.1.2,h.p1,h.p2⟩
     | 3,hE,hx =>
       have ht : p.states.trans = 4 := stE_trans hE (by decide)
       have := htr.2.1 (.inl ht)
       omega
     | 4,hE,hx =>
       have ht : p.states.trans = 5 := stE_trans hE (by decide)
       have := htr.2.1 (.inr ht)
       omega
     | n + 5,_,hx => simp only [statesL,List.not_mem_nil] at hx
theorem tr_MB {b : Bri} {ps : List Port} {k : Nat} {p : Port} {t : Int} (hb : b.times = lawT) (hp : PInv b k p) (h : TP p) (hm : MB t p) : TrP (MB t) (trR b ps k p) := by
 refine trR_cases trivial (fun _ _ x hx => ?_) (fun hs _ ha x hx => ?_)
 · have hne : (p.role != p.selected) = false := by rw [hm.role,hm.sel]; rfl
   simp only [rolesL,hne,Bool.false_and,List.mem_cons,List.not_mem_nil,or_false,Prod.mk.injEq] at hx
   simp at hx
 · have hro := hm.role
   have htr := hp.tr
   have hst := hp.st.trans
   have h3 : p.states.trans = 3 := by
     have a0 : ¬ p.states.trans = 0 := fun e => by have := htr.1 (.inl e); omega
     have a1 : ¬ p.states.trans = 1 := fun e => by have := htr.1 (.inr e); omega
     have a2 : ¬ p.states.trans = 2 := fun e => by have := htr.2.2.1 e; omega
     have a4 : ¬ p.states.trans = 4 := fun e => by have := htr.2.1 (.inl e); omega
     have a5 : ¬ p.states.trans = 5 := fun e => by have := htr.2.1 (.inr e); omega
     omega
   have hE : stE p = 3 := by unfold stE; rw [h3]; rfl
   rw [hE] at hx
   simp only [statesL,desL,List.mem_cons,List.not_mem_nil,or_false,Prod.mk.injEq] at hx
   have hfd := hp.ck.fd
   rcases hx with ⟨_,rfl⟩ | ⟨_,rfl⟩ | ⟨_,rfl⟩ | ⟨c,rfl⟩ | ⟨c,rfl⟩ | ⟨c,rfl⟩
   · exact ⟨hm.en,hm.is_,hm.sel,hm.role,hm.m⟩
   · exact ⟨hm.en,hm.is_,hm.sel,hm.role,hm.m⟩
   · exact ⟨hm.en,hm.is_,hm.sel,hm.role,hm.m⟩
   · have hc := h.clean hm.en
     rw [hc.1,hc.2,h.dis] at c
     simp at c
   · have c := c.symm
     simp only [Bool.and_eq_true,Bool.not_eq_true'] at c
     have hl := c.2
     have hf : p.flags.forward = false := by
       cases hf : p.flags.forward with
       | false => rfl
       | true => rw [h.fl hf] at hl; cases hl
     have h15 := fwd_le15 hb p
     refine ⟨hm.en,hm.is_,hm.sel,hm.role,.inr (.inl ⟨hf,rfl,?_⟩)⟩
     show fwdI b p ≤ t
     rcases hm.m with h1 | ⟨_,h1,_⟩ | ⟨_,_,h1⟩
     · rw [hf] at h1; cases h1
     · rw [hl] at h1; cases h1
     · omega
   · exact ⟨hm.en,hm.is_,hm.sel,hm.role,.inl rfl⟩
theorem TP.rx {b : Bri} {p : Port} (hn : NH p) (h : TP p) : TP ((rxT b p).get (p,false)).1 := by
 have h1 : TP (discardP p) := ⟨h.cl,h.dis,h.sel,h.role,h.fd,h.lf,h.fl,h.p1,h.p2⟩
 simp only [rxT,Out.get,hn.bpdu,Bool.and_false,Bool.false_and,Bool.false_eq_true,if_false]
 split
 · exact h1
 · exact h
theorem MB.rx {b : Bri} {p : Port} {t : Int} (hn : NH p) (h : MB t p) : MB t ((rxT b p).get (p,false)).1 := by
 have h1 : MB t (discardP p) := ⟨h.en,h.is_,h.sel,h.role,h.m⟩
 simp only [rxT,Out.get,hn.bpdu,Bool.and_false,Bool.false_and,Bool.false_eq_true,if_false]
 split
 · exact h1
 · exact h
theorem TP.info {b : Bri} {p : Port} (hn : NH p) (hi : p.is_ = 0 → p.states.info = 0) (h : TP p) : TP (infoF b p).1 := by
 have hu : p.states.info ≠ 0 → TP (updateP p) := fun h0 => by
   have hc : p.flags.sync = false ∧ p.flags.reRoot = false := by
     rcases h.cl with c | ⟨_,c,_⟩
     · exact c
     · exact absurd (hi c) h0
   exact ⟨.inl hc,h.dis,h.sel,h.role,h.fd,h.lf,h.fl,h.p1,h.p2⟩
 have hd : TP (disableP p) := ⟨h.cl.imp (fun c => c) (fun ⟨a,_,c,d,e⟩ => ⟨a,rfl,c,d,e⟩),h.dis,h.sel,h.role,h.fd,h.lf,h.fl,h.p1,h.p2⟩
 have ha : p.enabled = true ∨ p.is_ = 3 → TP (ageP p) := fun h0 => by
   have hc : p.flags.sync = false ∧ p.flags.reRoot = false := by
     rcases h.cl with c | ⟨_,c,c2,_⟩
     · exact c
     · rcases h0 with h0 | h0
       · rw [h0] at c2; cases c2
       · exact absurd h0 hn.is_
   exact ⟨.inl hc,h.dis,h.sel,h.role,h.fd,h.lf,h.fl,h.p1,h.p2⟩
 unfold infoF
 repeat' split
 · exact hd
 · exact hd
 · rename_i e; simp only [Bool.and_eq_true] at e; exact ha (.inl e.2)
 · rename_i e; simp only [Bool.and_eq_true,beq_iff_eq] at e; exact hu (by omega)
 · rename_i e; simp only [Bool.and_eq_true,beq_iff_eq] at e; exact hu (by omega)
 · exact h
 · rename_i e; simp only [Bool.and_eq_true,beq_iff_eq] at e; exact ha (.inr e.1.1)
 · rename_i e; rw [hn.msg] at e; cases e
 · exact h
theorem MB.info {b : Bri} {p : Port} {t : Int} (hn : NH p) (hi : p.states.info ≠ 0) (h : MB t p) : MB t (infoF b p).1 := by
 rcases QO.info (b := b) (p := p) ⟨h.en,h.is_,hn.msg,hn.bpdu⟩ hi with e | e
 · rw [e]; exact h
 · rw [e]; exact ⟨h.en,rfl,h.sel,h.role,h.m⟩
theorem TP.pass {b : Bri} {p : Port} (h : TP p) : TP ((passT b p).get (p,false)).1 := by
 have off : TP (passP p false false 0) := ⟨h.cl,h.dis,h.sel,h.role,h.fd,h.lf,h.fl,fun e => (by have e : (0 : Int) = 1 := e; omega),fun e => (by have e : (0 : Int) = 2 := e; omega)⟩
 simp only [passT,Out.get]
 split
 · exact ⟨h.cl,h.dis,h.sel,h.role,h.fd,h.lf,h.fl,fun _ => rfl,fun e => (by have e : (1 : Int) = 2 := e; omega)⟩
 · split
   · exact off
   · split
     · rename_i e
       simp only [Bool.and_eq_true,beq_iff_eq] at e
       exact ⟨h.cl,h.dis,h.sel,h.role,h.fd,h.lf,h.fl,fun e => (by have e : (2 : Int) = 1 := e; omega),fun _ => ⟨h.p1 e.1,rfl⟩⟩
     · split
       · exact off
       · exact h
theorem sel_role {b : Bri} {i : Int} {p : Port} (h3 : p.is_ ≠ 3) : (roleF b i p).selected = 0 ∧ p.is_ = 0 ∨ (roleF b i p).selected = 4 ∨ (roleF b i p) = p := by
 unfold roleF
 split
 · rename_i e; exact .inl ⟨rfl,by simpa using e⟩
 · split
   · rename_i e; simp [h3] at e
   · split
     · rename_i e; simp [h3] at e
     · split
       · exact .inr (.inl rfl)
       · split
         · exact .inr (.inl rfl)
         · exact .inr (.inr rfl)
theorem role_same2 (b : Bri) (i : Int) (p : Port) : (roleF b i p).role = p.role ∧ (roleF b i p).flags.sync = p.flags.sync ∧ (roleF b i p).flags.reRoot = p.flags.reRoot ∧ (roleF b i p).flags.disputed = p.flags.disputed ∧ (roleF b i p).clocks.fd = p.clocks.fd ∧ (roleF b i p).flags.learn = p.flags.learn ∧ (roleF b i p).flags.forward = p.flags.forward := by
 unfold roleF
 repeat' split
 all_goals exact ⟨rfl,rfl,rfl,rfl,rfl,rfl,rfl⟩
theorem role_same3 (b : Bri) (i : Int) (p : Port) : gP (roleF b i p) = gP p := by
 unfold roleF
 repeat' split
 all_goals rfl
theorem TP.step {b : Bri} {i : Nat} {p : Port} (hn : NH p) (h : TP p) : TP (stepP b i p) := by
 obtain ⟨e1,e2,e3,e4,e5,e6,e7⟩ := role_same2 b i (baseP b p)
 have hs : (stepP b i p).selected = 0 ∨ (stepP b i p).selected = 4 := by
   rcases sel_role (b := b) (i := i) (p := baseP b p) hn.is_ with e | e | e
   · exact .inl e.1
   · exact .inr e
   · have : (stepP b i p).selected = p.selected := (congrArg Port.selected e : (roleF b i (baseP b p)).selected = (baseP b p).selected)
     rw [this]; exact h.sel
 have hcl : ((stepP b i p).flags.sync = false ∧ (stepP b i p).flags.reRoot = false) ∨ ((stepP b i p).states.trans = 0 ∧ (stepP b i p).is_ = 0 ∧ (stepP b i p).enabled = false ∧ (stepP b i p).selected = 0 ∧ (stepP b i p).role = 0) := by
   rcases h.cl with c | ⟨c1,c2,c3,c4,c5⟩
   · exact .inl ⟨e2.trans c.1,e3.trans c.2⟩
   · have e : stepP b i p = { baseP b p with selected := 0 } := by
       have c2' : (baseP b p).is_ = 0 := c2
       unfold stepP roleF
       rw [if_pos (by rw [c2']; rfl)]
     rw [e]
     exact .inr ⟨c1,c2,c3,rfl,c5⟩
 exact ⟨hcl,e4.trans h.dis,hs,by rw [show (stepP b i p).role = p.role from e1]; exact h.role,by rw [show (stepP b i p).clocks.fd = p.clocks.fd from e5]; exact h.fd,
   by rw [show (stepP b i p).flags.learn = p.flags.learn from e6,show (stepP b i p).clocks.fd = p.clocks.fd from e5]; exact h.lf,by rw [show (stepP b i p).flags.forward = p.flags.forward from e7,show (stepP b i p).flags.learn = p.flags.learn from e6]; exact h.fl,
   by rw [show (stepP b i p).states.pass = p.states.pass from congrArg (fun x => x.2.2) (role_same3 b i (baseP b p)),show (stepP b i p).flags.learning = p.flags.learning from congrArg (fun x => x.1) (role_same3 b i (baseP b p))]; exact h.p1,
   by rw [show (stepP b i p).states.pass = p.states.pass from congrArg (fun x => x.2.2) (role_same3 b i (baseP b p)),show (stepP b i p).flags.learning = p.flags.learning from congrArg (fun x => x.1) (role_same3 b i (baseP b p)),show (stepP b i p).flags.forwarding = p.flags.forwarding from congrArg (fun x => x.2.1) (role_same3 b i (baseP b p))]; exact h.p2⟩
theorem MB.step {b : Bri} {i : Nat} {p : Port} {t : Int} (hn : NH p) (h : MB t p) : MB t (stepP b i p) := by
 obtain ⟨e1,e2,e3,e4,e5,e6,e7⟩ := role_same2 b i (baseP b p)
 have hk := step_keep b i p
 have hs : (stepP b i p).selected = 4 := by
   rcases sel_role (b := b) (i := i) (p := baseP b p) hn.is_ with e | e | e
   · have : p.is_ = 0 := e.2
     rw [h.is_] at this; cases this
   · exact e
   · have : (stepP b i p).selected = p.selected := (congrArg Port.selected e : (roleF b i (baseP b p)).selected = (baseP b p).selected)
     rw [this]; exact h.sel
 exact ⟨hk.1.trans h.en,hk.2.trans h.is_,hs,(show (stepP b i p).role = p.role from e1).trans h.role,by rw [show (stepP b i p).flags.forward = p.flags.forward from e7,show (stepP b i p).flags.learn = p.flags.learn from e6,show (stepP b i p).clocks.fd = p.clocks.fd from e5]; exact h.m⟩
structure AI (n : Nat) (s : BS) : Prop where
 i : Inv n s
 nh : NoH n s
 tp : ∀ j,j < n → TP (ptAt s j)
 root : s.b.root = ⟨7,0,7,0,0⟩ ∧ s.b.rootPort = -1
theorem trP_at {P : Port → Prop} {s : BS} {n k : Nat} (hl : s.ps.length = n) (hk : k < n) (h : ∀ j,j < n → P (ptAt s j)) (hT : TrP P (trR s.b s.ps k (ptAt s k))) : ∀ j,j < n → P (ptAt (transM s k).1 j) := by
 intro j hj
 rw [trans_at s k j (by omega) (by omega)]
 revert hT
 cases trR s.b s.ps k (ptAt s k) with
 | no => intro _; exact h j hj
 | one q => intro hT; unfold trAt; dsimp only; split; exact hT; exact h j hj
 | oneT q => intro hT; unfold trAt; dsimp only; split; exact hT; exact h j hj
 | syncs => intro hT; exact hT.elim
 | reRoots => intro hT; exact hT.elim
theorem ai_stp {n : Nat} {s : BS} {o : Op} (ho : o ∈ ops n) (h : AI n s) : AI n (stp o s).1 := by
 have hl := h.i.len
 refine ⟨h.i.stp ho,noH_stp h.i ho h.nh,?_,?_⟩
 · rcases ops_cases ho with rfl | ⟨k,hk,ho⟩
   · intro j hj
     show TP (ptAt (selF s).1 j)
     by_cases ha : s.ps.any askP = true
     · rw [sel_at ha j (by omega)]; exact (h.tp j hj).step (h.nh j hj)
     · rw [sel_no ha]; exact h.tp j hj
   · have hkn : k < s.ps.length := by omega
     have oth : ∀ i,(i = 1 ∨ i = 2 ∨ i = 6 ∨ i = 7) → ∀ j,j < n → TP (ptAt (stp (.m i k) s).1 j) := fun i hi j hj => (h.tp j hj).same (.of (map_at (stp_gT hkn (by omega)) j)) (map_at (stp_gP hkn hi) j)
     rcases ho with rfl | rfl | rfl | rfl | rfl | rfl | rfl | rfl
     · exact loc_all hl hk h.tp ((h.tp k hk).rx (h.nh k hk))
     · exact oth 1 (by decide)
     · exact oth 2 (by decide)
     · exact loc_all hl hk h.tp ((h.tp k hk).info (h.nh k hk) (h.i.p k hk).inf.1.2)
     · exact trP_at hl hk h.tp (tr_TP h.i.b.times (h.i.p k hk) (h.tp k hk))
     · exact loc_all hl hk h.tp (h.tp k hk).pass
     · exact oth 6 (by decide)
     · exact oth 7 (by decide)
 · rcases ops_cases ho with rfl | ⟨k,hk,ho⟩
   · show (selF s).1.b.root = _ ∧ (selF s).1.b.rootPort = -1
     by_cases ha : s.ps.any askP = true
     · have hr : rootF s.b.id s.ps = (ownOf s.b.id,-1) := rootL_no3 _ _ _ _ fun j hj => (h.nh j (by omega)).is_
       have hb : (selF s).1.b = stepB s.b s.ps := by unfold selF; rw [if_pos ha]
       rw [hb]
       refine ⟨?_,?_⟩
       · show (rootF s.b.id s.ps).1 = _
         rw [hr,h.i.b.id]; rfl
       · show (rootF s.b.id s.ps).2 = -1
         rw [hr]
     · rw [sel_no ha]; exact h.root
   · have hb : (stp o s).1.b = s.b := by
       rcases ho with rfl | rfl | rfl | rfl | rfl | rfl | rfl | rfl <;> exact stp_b (by decide)
     rw [hb]; exact h.root
theorem mb_stp {n : Nat} {s : BS} {o : Op} (ho : o ∈ ops n) (h : AI n s) {U : Nat → Bool} {t : Int} (hm : ∀ j,j < n → U j = true → MB t (ptAt s j)) : ∀ j,j < n → U j = true → MB t (ptAt (stp o s).1 j) := by
 have hl := h.i.len
 intro j hj hu
 have hmj := hm j hj hu
 rcases ops_cases ho with rfl | ⟨k,hk,ho⟩
 · show MB t (ptAt (selF s).1 j)
   by_cases ha : s.ps.any askP = true
   · rw [sel_at ha j (by omega)]; exact hmj.step (h.nh j hj)
   · rw [sel_no ha]; exact hmj
 · have hkn : k < s.ps.length := by omega
   have oth : ∀ i,(i = 1 ∨ i = 2 ∨ i = 5 ∨ i = 6 ∨ i = 7) → MB t (ptAt (stp (.m i k) s).1 j) := fun i hi => hmj.same (.of (map_at (stp_gT hkn hi) j))
   rcases ho with rfl | rfl | rfl | rfl | rfl | rfl | rfl | rfl
   · show MB t (ptAt (ofP (fun b p => (rxT b p).get (p,false)) s k).1 j)
     rw [ofP_at _ s k j hkn]
     split
     · rename_i e; subst e; exact hmj.rx (h.nh j hj)
     · exact hmj
   · exact oth 1 (by decide)
   · exact oth 2 (by decide)
   · show MB t (ptAt (ofP infoF s k).1 j)
     rw [ofP_at infoF s k j hkn]
     split
     · rename_i e
       subst e
       exact hmj.info (h.nh j hj) fun e => by have := (h.i.p j hj).inf.1.1 e; rw [hmj.is_] at this; cases this
     · exact hmj
   · show MB t (ptAt (transM s k).1 j)
     rw [trans_at s k j hkn (by omega)]
     have tp := tr_TP (ps := s.ps) h.i.b.times (h.i.p k hk) (h.tp k hk)
     rcases Decidable.em (j = k) with e | e
     · subst e
       have hT := tr_MB (ps := s.ps) h.i.b.times (h.i.p j hj) (h.tp j hj) hmj
       revert hT
       cases trR s.b s.ps j (ptAt s j) with
       | no => intro _; exact hmj
       | one q => intro hT; unfold trAt; dsimp only; rw [if_pos rfl]; exact hT
       | oneT q => intro hT; unfold trAt; dsimp only; rw [if_pos rfl]; exact hT
       | syncs => intro hT; exact hT.elim
       | reRoots => intro hT; exact hT.elim
     · revert tp
       cases trR s.b s.ps k (ptAt s k) with
       | no => intro _; exact hmj
       | one q => intro hT; unfold trAt; dsimp only; rw [if_neg e]; exact hmj
       | oneT q => intro hT; unfold trAt; dsimp only; rw [if_neg e]; exact hmj
       | syncs => intro hT; exact hT.elim
       | reRoots => intro hT; exact hT.elim
   · exact oth 5 (by decide)
   · exact oth 6 (by decide)
   · exact oth 7 (by decide)
theorem run_ai {n : Nat} (h5 : n ≤ 5) {s : BS} (h : Start n s) (ha : AI n s) : AI n (runF s).1 := run_keep h5 (fun s' o ho hl e => ai_stp ho e) h ha
theorem run_mb {n : Nat} (h5 : n ≤ 5) {s : BS} (h : Start n s) (ha : AI n s) {U : Nat → Bool} {t : Int} (hm : ∀ j,j < n → U j = true → MB t (ptAt s j)) : ∀ j,j < n → U j = true → MB t (ptAt (runF s).1 j) :=
 (run_keep h5 (P := fun s' => AI n s' ∧ ∀ j,j < n → U j = true → MB t (ptAt s' j)) (fun s' o ho hl e => ⟨ai_stp ho e.1,mb_stp ho e.1 e.2⟩) h ⟨ha,hm⟩).2
theorem rest_mb {n : Nat} {s : BS} (h : Rest n s) (ha : AI n s) {j : Nat} (hj : j < n) (he : (ptAt s j).enabled = true) : MB 35 (ptAt s j) := by
 have q := h.quiet hj
 have t := h.two ha.nh hj he
 have tp := ha.tp j hj
 have hr : (ptAt s j).role = 4 := by
   have h0 := q.on.1 he
   rcases tp.role with e | e
   · exact absurd e h0
   · exact e
 have hfd := tp.fd
 refine ⟨he,t.1,q.role.symm.trans hr,hr,?_⟩
 cases hf : (ptAt s j).flags.forward with
 | true => exact .inl rfl
 | false =>
   cases hl : (ptAt s j).flags.learn with
   | true => exact .inr (.inl ⟨rfl,rfl,by omega⟩)
   | false => exact .inr (.inr ⟨rfl,rfl,by omega⟩)
theorem downI_pos {x : Int} (h : 1 ≤ x ∧ x ≤ 1000) : downI x = x - 1 := by
 unfold downI
 rw [wrap_small (by omega) (by omega)]
 split <;> omega
theorem des_rest {n : Nat} {s : BS} (h : Rest n s) {j : Nat} (hj : j < n) (tp : TP (ptAt s j)) {t : Int} (hm : MB t (ptAt s j)) (h0 : (ptAt s j).clocks.fd = 0) : (ptAt s j).flags.forward = true := by
 have q := h.quiet hj
 have hp := h.i.i.p j hj
 have htr := hp.tr
 have hro := hm.role
 have h3 : (ptAt s j).states.trans = 3 := by
   have hst := hp.st.trans
   have a0 : ¬ (ptAt s j).states.trans = 0 := fun e => by have := htr.1 (.inl e); omega
   have a1 : ¬ (ptAt s j).states.trans = 1 := fun e => by have := htr.1 (.inr e); omega
   have a2 : ¬ (ptAt s j).states.trans = 2 := fun e => by have := htr.2.2.1 e; omega
   have a4 : ¬ (ptAt s j).states.trans = 4 := fun e => by have := htr.2.1 (.inl e); omega
   have a5 : ¬ (ptAt s j).states.trans = 5 := fun e => by have := htr.2.1 (.inr e); omega
   omega
 have hE : stE (ptAt s j) = 3 := by unfold stE; rw [h3]; rfl
 have ht := h.trans hj
 unfold trFire at ht
 rw [q.sel,q.upd,hE] at ht
 simp only [Bool.not_false,Bool.and_self,Bool.true_and,Bool.or_eq_false_iff] at ht
 have hd := ht.2
 have hon : onDes (ptAt s j) = true := by unfold onDes; rw [h0,(tp.clean hm.en).2,(tp.clean hm.en).1]; rfl
 simp only [statesL,desL,List.any_cons,Bool.or_eq_false_iff,hon,Bool.true_and] at hd
 obtain ⟨_,_,_,_,d5,d6,_⟩ := hd
 cases hf : (ptAt s j).flags.forward with
 | true => rfl
 | false =>
   rw [hf] at d6
   cases hl : (ptAt s j).flags.learn with
   | true => rw [hl] at d6; cases d6
   | false => rw [hl] at d5; cases d5
theorem tick_TP {p : Port} (hp : 0 ≤ p.clocks.fd) (h : TP p) : TP (tickP p) := by
 have h1 := h.fd
 have e : downI p.clocks.fd ≤ p.clocks.fd := by
   rcases Int.lt_or_le p.clocks.fd 1 with h | h
   · have : p.clocks.fd = 0 := by omega
     rw [this]; decide
   · rw [downI_pos ⟨h,by omega⟩]; omega
 exact ⟨h.cl,h.dis,h.sel,h.role,Int.le_trans e h.fd,fun hl => Int.le_trans e (h.lf hl),h.fl,h.p1,h.p2⟩
theorem tick_ai {n : Nat} {s : BS} (hs : Start n s) (h : AI n s) : AI n (tickF s) := by
 have hat : ∀ j,j < n → ptAt (tickF s) j = tickP (ptAt s j) := fun j hj => getD_map tickP s.ps j (by rw [h.i.len]; exact hj)
 refine ⟨(start_tick hs).i,fun j hj => ?_,fun j hj => ?_,h.root⟩
 · rw [hat j hj]
   have := h.nh j hj
   exact ⟨this.msg,this.bpdu,this.is_,this.des,this.vec⟩
 · rw [hat j hj]
   exact tick_TP (h.i.p j hj).ck.fd.1 (h.tp j hj)
theorem tick_mb {n : Nat} {s : BS} (h : Rest n s) (ha : AI n s) {U : Nat → Bool} {t : Int} (hm : ∀ j,j < n → U j = true → MB t (ptAt s j)) : ∀ j,j < n → U j = true → MB (t - 1) (ptAt (tickF s) j) := by
 intro j hj hu
 have hmj := hm j hj hu
 have hat : ptAt (tickF s) j = tickP (ptAt s j) := getD_map tickP s.ps j (by rw [h.i.i.len]; exact hj)
 rw [hat]
 have hfd := (h.i.i.p j hj).ck.fd
 have pos : (ptAt s j).flags.forward = false → (tickP (ptAt s j)).clocks.fd = (ptAt s j).clocks.fd - 1 := fun hf => by
   refine downI_pos ⟨?_,hfd.2⟩
   rcases Int.lt_or_le (ptAt s j).clocks.fd 1 with h1 | h1
   · have := des_rest h hj (ha.tp j hj) hmj (by omega)
     rw [hf] at this; cases this
   · exact h1
 refine ⟨hmj.en,hmj.is_,hmj.sel,hmj.role,?_⟩
 rcases hmj.m with h1 | ⟨h1,h2,h3⟩ | ⟨h1,h2,h3⟩
 · exact .inl h1
 · exact .inr (.inl ⟨h1,h2,by rw [pos h1]; omega⟩)
 · exact .inr (.inr ⟨h1,h2,by rw [pos h1]; omega⟩)
structure Sec (n : Nat) (U : Nat → Bool) (t : Int) (f : Nat) (s : BS) : Prop where
 st : Start n s
 ai : AI n s
 en : ∀ j,j < n → (ptAt s j).enabled = U j
 mb : ∀ j,j < n → U j = true → MB t (ptAt s j)
 o : s.out.length ≤ 10000000
 f : s.fl.length ≤ f
theorem rnd_sec {n : Nat} (h5 : n ≤ 5) {U : Nat → Bool} {t : Int} {f : Nat} {s : BS} (st : Start n s) (ai : AI n s) (en : ∀ j,j < n → (ptAt s j).enabled = U j) (hf : s.fl.length ≤ f) (mb : ∀ j,j < n → U j = true → MB t (ptAt (runF s).1 j)) : Sec n U (t - 1) (f + 40000) (rndF s) := by
 obtain ⟨_,s1,_⟩ := st.run h5
 have a1 := run_ai h5 st ai
 have s2 := start_tick s1.start
 have a2 := tick_ai s1.start a1
 have hl := runF_len5 s (by rw [st.i.len]; exact h5)
 refine ⟨⟨⟨s2.i.len,s2.i.b,s2.i.p⟩,s2.u,s2.r⟩,⟨⟨a2.i.len,a2.i.b,a2.i.p⟩,a2.nh,a2.tp,a2.root⟩,fun j hj => ?_,tick_mb s1 a1 mb,Nat.zero_le _,?_⟩
 · have hat : ptAt (rndF s) j = tickP (ptAt (runF s).1 j) := getD_map tickP (runF s).1.ps j (by rw [s1.i.i.len]; exact hj)
   rw [hat]
   exact (run_en h5 st hj).trans (en j hj)
 · show (runF s).1.fl.length ≤ f + 40000
   omega
theorem secs {n : Nat} (h5 : n ≤ 5) {U : Nat → Bool} : ∀ (m : Nat) (t : Int) (f : Nat) (s : BS),Sec n U t f s → (runT m (s,true)).2 = true ∧ Sec n U (t - m) (f + m * 40000) (runT m (s,true)).1
 | 0,t,f,s,h => by
   rw [runT_zero]
   refine ⟨rfl,?_⟩
   rw [show t - ((0 : Nat) : Int) = t from by omega,Nat.zero_mul]
   exact h
 | m + 1,t,f,s,h => by
   have hr := (h.st.run h5).1
   have h1 := rnd_sec h5 h.st h.ai h.en h.f (run_mb h5 h.st h.ai h.mb)
   obtain ⟨a,b⟩ := secs h5 m (t - 1) (f + 40000) (rndF s) h1
   rw [runT_succ,hr]
   refine ⟨a,?_⟩
   rw [show t - ((m + 1 : Nat) : Int) = t - 1 - (m : Int) from by push_cast; omega,show f + (m + 1) * 40000 = f + 40000 + m * 40000 from by omega]
   exact b
structure Seted (n i : Nat) (U : List Bool) (s0 s : BS) : Prop where
 st : Start n s
 cl : ∀ j,j < n → (ptAt s j).flags.sync = false ∧ (ptAt s j).flags.reRoot = false
 ai : AI n s
 o : s.out = s0.out
 f : s.fl = s0.fl
 en : ∀ j,j < i → (ptAt s j).enabled = U.getD j false
theorem set_all {n : Nat} {U : List Bool} {s0 : BS} : ∀ (m i : Nat) (s : BS),i + m = n → Seted n i U s0 s → Seted n n U s0 (setUL U m i s)
 | 0,i,s,e,h => by
   have : i = n := by omega
   subst this
   exact h
 | m + 1,i,s,e,h => by
   unfold setUL
   have hi : (0 : Int) ≤ (i : Int) ∧ (i : Int) < n := by omega
   have hl := enable_len s i (U.getD i false)
   have st := start_enable h.st hi.1 hi.2 (U.getD i false)
   have hb : (enableF s i (U.getD i false)).1.b = s.b := by unfold enableF; split <;> rfl
   refine set_all m (i + 1) _ (by omega) ⟨st,fun j hj => ?_,⟨st.i,fun j hj => ?_,fun j hj => ?_,by rw [hb]; exact h.ai.root⟩,hl.2.1.trans h.o,hl.2.2.trans h.f,fun j hj => ?_⟩
   · rcases enable_or h.st.i.len hi.1 hi.2 (U.getD i false) j with e | e
     · rw [e]; exact h.cl j hj
     · rw [e]; exact h.cl j hj
   · have hh := h.ai.nh j hj
     rcases enable_or h.st.i.len hi.1 hi.2 (U.getD i false) j with e | e
     · rw [e]; exact hh
     · rw [e]; exact ⟨hh.msg,hh.bpdu,hh.is_,hh.des,hh.vec⟩
   · have hh := h.ai.tp j hj
     rcases enable_or h.st.i.len hi.1 hi.2 (U.getD i false) j with e | e
     · rw [e]; exact hh
     · rw [e]; exact ⟨.inl (h.cl j hj),hh.dis,hh.sel,hh.role,hh.fd,hh.lf,hh.fl,hh.p1,hh.p2⟩
   · rw [(enable_ps h.st.i.len hi.1 hi.2 (U.getD i false) j).1]
     split
     · rename_i ej; rw [ej]; rfl
     · rename_i hne
       exact h.en j (by have : j ≠ i := fun e => hne (by rw [e]; rfl)
                        omega)
theorem ai_new (rst : Bool) (L : List Conf) (h : L.length ≤ 32) : AI L.length (lvS0 rst L) := by
 refine ⟨(start_new rst L h).i,noH_new rst L h,?_,?_⟩
 · have hn := lvN_eq (new_ok5 rst L h)
   have e : lvS0 rst L = ⟨newB 7 rst lvTm 6,newPs L rst lvTm,[],[]⟩ := by unfold lvS0; rw [hn]
   rw [e]
   intro j hj
   have hat : ptAt ⟨newB 7 rst lvTm 6,newPs L rst lvTm,[],[]⟩ j = newP (L.getD j Conf.dflt) rst lvTm := newPs_at L rst j hj
   rw [hat]
   have key : ∀ ed : Int,TP (newQ (L.getD j Conf.dflt) rst lvTm ed) := fun ed => ⟨.inr ⟨rfl,rfl,rfl,rfl,rfl⟩,rfl,.inl rfl,.inl rfl,of_decide_eq_true rfl,fun e => (by cases e),fun e => (by cases e),fun e => (by have e : (0 : Int) = 1 := e; omega),fun e => (by have e : (0 : Int) = 2 := e; omega)⟩
   unfold newP
   split
   · exact key 0
   · exact key 1
 · have hn := lvN_eq (new_ok5 rst L h)
   have e : lvS0 rst L = ⟨newB 7 rst lvTm 6,newPs L rst lvTm,[],[]⟩ := by unfold lvS0; rw [hn]
   rw [e]
   exact ⟨rfl,rfl⟩
theorem rest_clean {n : Nat} {s : BS} (h : Rest n s) (ha : AI n s) {j : Nat} (hj : j < n) : (ptAt s j).flags.sync = false ∧ (ptAt s j).flags.reRoot = false := by
 rcases (ha.tp j hj).cl with c | ⟨c1,_,_,_,c5⟩
 · exact c
 · have q := h.quiet hj
   have hE : stE (ptAt s j) = 0 := by unfold stE; rw [if_pos c1]
   have ht := h.trans hj
   unfold trFire at ht
   rw [q.sel,q.upd,hE] at ht
   simp only [Bool.not_false,Bool.and_self,Bool.true_and,Bool.or_eq_false_iff] at ht
   have hf := h.fwd hj (by rw [c5]; decide)
   have hd := ht.2
   simp only [statesL,List.any_cons,List.any_nil,hf.2.2.1,hf.2.2.2] at hd
   cases hd
theorem fwd_rest {n : Nat} {s : BS} (h : Rest n s) {j : Nat} (hj : j < n) (tp : TP (ptAt s j)) (hf : (ptAt s j).flags.forward = true) : (ptAt s j).flags.learning = true ∧ (ptAt s j).flags.forwarding = true := by
 have hp := h.i.i.p j hj
 have hq := h.quiet hj
 have hl := tp.fl hf
 have hfire := hq.pass
 unfold passFire at hfire
 rw [hl,hf] at hfire
 have hr := hp.st.pass
 have h2 : (ptAt s j).states.pass = 2 := by
   have a : ¬ (ptAt s j).states.pass = 0 := fun e => by rw [e] at hfire; cases hfire
   have b : ¬ (ptAt s j).states.pass = 1 := fun e => by rw [e] at hfire; cases hfire
   omega
 exact tp.p2 h2
theorem alone_true (S : Stat) (y : AwP) : ∃ v,(awW S y).sel = some v ∧ ∀ S' E,v.den S' E = .bool true := by
 cases hG : awG y with
 | true => exact ⟨_,Out.way_sel (aw_far S y) (by rw [hG]),fun _ _ => rfl⟩
 | false =>
   have hG' := hG
   simp only [awG,Bool.or_eq_false_iff,decide_eq_false_iff_not] at hG
   have h1 : 1 ≤ y.L.length := by omega
   have h5 : y.L.length ≤ 5 := by omega
   have hUl : y.L.length ≤ y.U.length := by omega
   obtain ⟨r1,r2,r3,r4⟩ := live_rest (rst := y.rst) (A := []) h1 h5 (fun a ha => by cases ha) rfl
   have r2 : Rest y.L.length (aw0 y) := r2
   have r3 : (aw0 y).out.length ≤ 10000000 := r3
   have r4 : (aw0 y).fl.length ≤ 10000000 := r4
   have a0 : AI y.L.length (aw0 y) := run_ai h5 (start_new y.rst y.L (by omega)) (ai_new y.rst y.L (by omega))
   have l0 : (aw0 y).ps.length = y.L.length := r2.i.i.len
   have hs := set_all (s0 := aw0 y) (U := y.U) y.L.length 0 (aw0 y) (by omega) ⟨r2.start,fun j hj => rest_clean r2 a0 hj,a0,rfl,rfl,fun j hj => absurd hj (Nat.not_lt_zero _)⟩
   have hs : Seted y.L.length y.L.length y.U (aw0 y) (awS y) := hs
   have ls : (awS y).ps.length = y.L.length := hs.st.i.len
   have lso : (awS y).out.length ≤ 10000000 := by rw [hs.o]; exact r3
   have lsf : (awS y).fl.length ≤ 10000000 := by rw [hs.f]; exact r4
   -- the first second
   obtain ⟨q1,q2,_⟩ := hs.st.run h5
   have qa := run_ai h5 hs.st hs.ai
   have qe : ∀ j,j < y.L.length → (ptAt (runF (awS y)).1 j).enabled = y.U.getD j false := fun j hj => (run_en h5 hs.st hj).trans (hs.en j hj)
   have hb := rnd_sec h5 (U := fun j => y.U.getD j false) (t := 35) hs.st hs.ai hs.en lsf (fun j hj hu => rest_mb q2 qa hj ((qe j hj).trans hu))
   obtain ⟨t1,t2⟩ := secs h5 37 (35 - 1) (10000000 + 40000) (rndF (awS y)) hb
   have e1 : aw1 y = runT 37 (rndF (awS y),true) := by
     show runT (37 + 1) (awS y,true) = _
     rw [runT_succ,q1]
   rw [← e1] at t1 t2
   -- at the end
   obtain ⟨u1,u2,_⟩ := t2.st.run h5
   have u2 : Rest y.L.length (aw2 y) := u2
   have ua : AI y.L.length (aw2 y) := run_ai h5 t2.st t2.ai
   have um := run_mb h5 t2.st t2.ai t2.mb
   have ue : ∀ j,j < y.L.length → (ptAt (aw2 y) j).enabled = y.U.getD j false := fun j hj => (run_en h5 t2.st hj).trans (t2.en j hj)
   have l1 : (aw1 y).1.ps.length = y.L.length := t2.st.i.len
   have l2 : (aw2 y).ps.length = y.L.length := u2.i.i.len
   have hgood : ∀ i,i < (aw2 y).ps.length → afBad (afW (y.U.getD i false)) (y.U.getD i false) ((aw2 y).ps.getD i Port.dflt) = false := by
     intro i hi
     have hi : i < y.L.length := by omega
     show afBad (afW (y.U.getD i false)) (y.U.getD i false) (ptAt (aw2 y) i) = false
     have hp := u2.i.i.p i hi
     have hen := ue i hi
     cases hu : y.U.getD i false with
     | true =>
       have hm : MB _ (ptAt (aw2 y) i) := um i hi hu
       have hf : (ptAt (aw2 y) i).flags.forward = true := by
         have hfd := hp.ck.fd
         rcases hm.m with h | ⟨_,_,h⟩ | ⟨_,_,h⟩
         · exact h
         · omega
         · omega
       obtain ⟨f1,f2⟩ := fwd_rest u2 hi (ua.tp i hi) hf
       unfold afBad
       rw [hm.role,f1,f2]
       rfl
     | false =>
       rw [hu] at hen
       have hlow := u2.low hi hen
       have hfw := u2.fwd hi (by rw [hlow.role]; decide)
       unfold afBad
       rw [hlow.role,hfw.2.2.1,hfw.2.2.2]
       rfl
   refine ⟨_,Out.way_sel (aw_end S y) ?_,fun S' E => ?_⟩
   · have c2 : lvOk y.rst y.L [] = true := by
       unfold lvOk
       rw [new_ok5 y.rst y.L (by omega),Bool.true_and]
       exact decide_eq_true ⟨h1,by omega,by simp,fun a ha => by cases ha⟩
     have f1 := t2.f
     have o1 := t2.o
     have hT : bsT (aw1 y).1.ps.length (aw1 y).1 (roomRun (aw1 y).1) (aw2 y).ps.length = true := bsT_true rfl (decide_eq_true ⟨by omega,by omega,by omega⟩) (by omega)
     have c8 : (((aw1 y).1.ps.length : Int) != y.L.length) = false := by rw [l1]; simp
     have d1 : decide (y.L.length = y.L.length) = true := decide_eq_true rfl
     have d3 : decide (y.L.length = y.L.length ∧ y.U.length = y.U.length ∧ (aw0 y).ps.length = (aw0 y).ps.length ∧ (aw0 y).out.length = (aw0 y).out.length ∧ (aw0 y).fl.length = (aw0 y).fl.length) = true := decide_eq_true ⟨rfl,rfl,rfl,rfl,rfl⟩
     have d4 : decide ((liveF y.rst y.L []).2 = true ∧ y.L.length ≤ 1000 ∧ y.L.length ≤ y.U.length ∧ (aw0 y).ps.length = y.L.length) = true := decide_eq_true ⟨r1,by omega,hUl,l0⟩
     have d5 : decide (y.L.length = y.L.length ∧ y.U.length = y.U.length ∧ (awS y).ps.length = (awS y).ps.length ∧ (awS y).out.length = (awS y).out.length ∧ (awS y).fl.length = (awS y).fl.length) = true := decide_eq_true ⟨rfl,rfl,rfl,rfl,rfl⟩
     have d6 : decide ((awS y).ps.length ≤ 5 ∧ (awS y).out.length ≤ 50000000 ∧ (awS y).fl.length ≤ 50000000) = true := decide_eq_true ⟨by omega,by omega,by omega⟩
     have d7 : decide (y.L.length = (aw2 y).ps.length ∧ y.U.length = y.U.length ∧ (aw1 y).1.ps.length = (aw2 y).ps.length ∧ (aw2 y).ps.length ≤ 1000 ∧ (aw2 y).ps.length ≤ y.U.length) = true := decide_eq_true ⟨by omega,rfl,by omega,by omega,by omega⟩
     rw [hG',c2,hT,c8,t1,u1,d3,d4,d5,d6,d7,decide_eq_true hgood,d1]
     rfl
   · rw [ua.root.1,ua.root.2]
     rfl
end Go.Proofs.YtjemfkoamfnofaaGreat
