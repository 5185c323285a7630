import Derived.Test.YtjemfkoamfnofaaGreatPn
set_option linter.unusedVariables false
set_option maxRecDepth 100000
namespace Go.Proofs.YtjemfkoamfnofaaGreat
open Go Go.RowKit
def gV (p : Port) : (Bool × Int × Bool × Int) × (Bool × Bool × Bool × Bool × Int) × (Vec × Vec × Times × Msg × Int) := ((p.enabled,p.is_,p.flags.reselect,p.selected),(p.flags.rcvdMsg,p.flags.rcvdBpdu,p.flags.selected,p.flags.updtInfo,p.states.info),(p.vec,p.designated,p.times,p.msg,p.clocks.rcvdInfo))
def gW (p : Port) : ((Bool × Int × Bool × Int) × (Bool × Bool × Bool × Bool × Int) × (Vec × Vec × Times × Msg × Int)) × Int := (gV p,p.role)
theorem states_keepW {b : Bri} {ps : List Port} {k : Int} {p : Port} {c : Bool} {x : TrR} (hx : (c,x) ∈ statesL (stE p) b ps k p) : KeepG gW p x := by
 cases hE : stE p with
 | zero =>
   rw [hE] at hx
   simp only [statesL,List.mem_cons,List.not_mem_nil,or_false,Prod.mk.injEq] at hx
   obtain ⟨_,rfl⟩ := hx; rfl
 | succ e =>
   rw [hE] at hx
   match e,hE,hx with
   | 0,_,hx =>
     simp only [statesL,List.mem_cons,List.not_mem_nil,or_false,Prod.mk.injEq] at hx
     obtain ⟨_,rfl⟩ := hx; rfl
   | 1,_,hx =>
     simp only [statesL,trRootL,setsL,List.mem_cons,List.mem_append,List.not_mem_nil,or_false,Prod.mk.injEq] at hx
     rcases hx with (⟨_,rfl⟩ | ⟨_,rfl⟩) | ⟨_,rfl⟩ | ⟨_,rfl⟩ | ⟨_,rfl⟩ | ⟨_,rfl⟩ | ⟨_,rfl⟩ <;> first | trivial | rfl
   | 2,hE,hx =>
     simp only [statesL,desL,List.mem_cons,List.not_mem_nil,or_false,Prod.mk.injEq] at hx
     rcases hx with ⟨_,rfl⟩ | ⟨_,rfl⟩ | ⟨_,rfl⟩ | ⟨_,rfl⟩ | ⟨_,rfl⟩ | ⟨_,rfl⟩ <;> rfl
   | 3,_,hx =>
     simp only [statesL,List.mem_cons,List.not_mem_nil,or_false,Prod.mk.injEq] at hx
     obtain ⟨_,rfl⟩ := hx; rfl
   | 4,_,hx =>
     simp only [statesL,altL,setsL,List.mem_cons,List.mem_append,List.not_mem_nil,or_false,Prod.mk.injEq] at hx
     rcases hx with (⟨_,rfl⟩ | ⟨_,rfl⟩) | ⟨_,rfl⟩ | ⟨_,rfl⟩ <;> first | trivial | rfl
   | n + 5,_,hx => simp only [statesL,List.not_mem_nil] at hx
theorem trR_keepV {b : Bri} {ps : List Port} {k : Int} {p : Port} : KeepG gV p (trR b ps k p) := by
 refine trR_cases trivial (fun _ _ x hx => ?_) (fun hs _ ha x hx => (states_keepW hx).of fun x => x.1)
 simp only [rolesL,List.mem_cons,List.not_mem_nil,or_false,Prod.mk.injEq] at hx
 rcases hx with ⟨_,rfl⟩ | ⟨_,rfl⟩ | ⟨_,rfl⟩ | ⟨_,rfl⟩ <;> rfl
theorem stp_gV {s : BS} {i k : Nat} (hk : k < s.ps.length) (hi : i = 1 ∨ i = 2 ∨ i = 4 ∨ i = 5 ∨ i = 6 ∨ i = 7) : (stp (.m i k) s).1.ps.map gV = s.ps.map gV := by
 rcases hi with rfl | rfl | rfl | rfl | rfl | rfl
 · refine loc_map hk ?_
   simp only [migT,Out.get]
   repeat' split
   all_goals rfl
 · exact loc_map hk (edge_keep fun _ _ => rfl)
 · refine trans_map hk ?_ (fun _ => rfl) (fun _ => rfl) (fun _ => rfl)
   have := trR_keepV (b := s.b) (ps := s.ps) (k := k) (p := ptAt s k)
   revert this
   cases trR s.b s.ps k (ptAt s k) <;> intro this <;> first | exact this | trivial
 · exact loc_map hk (pass_keep fun _ _ _ => rfl)
 · exact topo_map hk (toT_keep rfl rfl rfl (fun _ => rfl) (fun _ => rfl) rfl rfl) (fun _ => rfl) (fun _ => rfl) (fun _ => rfl)
 · exact tx_map hk (fun _ => rfl) (fun _ _ => rfl)
structure SameV (p q : Port) : Prop where
 en : q.enabled = p.enabled
 is_ : q.is_ = p.is_
 res : q.flags.reselect = p.flags.reselect
 sel : q.selected = p.selected
 msg : q.flags.rcvdMsg = p.flags.rcvdMsg
 bpdu : q.flags.rcvdBpdu = p.flags.rcvdBpdu
 fs : q.flags.selected = p.flags.selected
 upd : q.flags.updtInfo = p.flags.updtInfo
 info : q.states.info = p.states.info
 vec : q.vec = p.vec
 des : q.designated = p.designated
 times : q.times = p.times
 m : q.msg = p.msg
 ri : q.clocks.rcvdInfo = p.clocks.rcvdInfo
theorem SameV.of {p q : Port} (h : gV q = gV p) : SameV p q := ⟨congrArg (fun x => x.1.1) h,congrArg (fun x => x.1.2.1) h,congrArg (fun x => x.1.2.2.1) h,congrArg (fun x => x.1.2.2.2) h,congrArg (fun x => x.2.1.1) h,congrArg (fun x => x.2.1.2.1) h,congrArg (fun x => x.2.1.2.2.1) h,congrArg (fun x => x.2.1.2.2.2.1) h,congrArg (fun x => x.2.1.2.2.2.2) h,congrArg (fun x => x.2.2.1) h,congrArg (fun x => x.2.2.2.1) h,congrArg (fun x => x.2.2.2.2.1) h,congrArg (fun x => x.2.2.2.2.2.1) h,congrArg (fun x => x.2.2.2.2.2.2) h⟩
theorem stp_same {s : BS} {i k : Nat} (hk : k < s.ps.length) (hi : i = 1 ∨ i = 2 ∨ i = 4 ∨ i = 5 ∨ i = 6 ∨ i = 7) (j : Nat) : SameV (ptAt s j) (ptAt (stp (.m i k) s).1 j) := .of (map_at (stp_gV hk hi) j)
structure NH (p : Port) : Prop where
 msg : p.flags.rcvdMsg = false
 bpdu : p.flags.rcvdBpdu = false
 is_ : p.is_ ≠ 3
 des : p.flags.updtInfo = true → p.designated.root = 7
 vec : p.is_ = 2 → p.vec.root = 7
def NoH (n : Nat) (s : BS) : Prop := ∀ j,j < n → NH (ptAt s j)
theorem NH.same {p q : Port} (h : NH p) (e : SameV p q) : NH q := ⟨e.msg.trans h.msg,e.bpdu.trans h.bpdu,by rw [e.is_]; exact h.is_,by rw [e.upd,e.des]; exact h.des,by rw [e.is_,e.vec]; exact h.vec⟩
theorem rootL_no3 (id : Int) : ∀ (l : List Port) (i : Nat) (x : Vec × Int),(∀ j,j < l.length → (l.getD j Port.dflt).is_ ≠ 3) → rootL id l i x = x
 | [],i,x,_ => rfl
 | p :: r,i,x,h => by
   have h0 : p.is_ ≠ 3 := h 0 (by simp)
   have hs : rootStep id i p x = x := by unfold rootStep; rw [if_pos (by simp [h0])]
   rw [rootL,hs]
   exact rootL_no3 id r (i + 1) x fun j hj => by have := h (j + 1) (by simpa using hj); simpa using this
theorem role_same (b : Bri) (i : Int) (p : Port) : (roleF b i p).enabled = p.enabled ∧ (roleF b i p).is_ = p.is_ ∧ (roleF b i p).flags.rcvdMsg = p.flags.rcvdMsg ∧ (roleF b i p).flags.rcvdBpdu = p.flags.rcvdBpdu ∧ (roleF b i p).vec = p.vec ∧ (roleF b i p).designated = p.designated ∧ (roleF b i p).times = p.times ∧ (roleF b i p).clocks.rcvdInfo = p.clocks.rcvdInfo := by
 unfold roleF
 repeat' split
 all_goals exact ⟨rfl,rfl,rfl,rfl,rfl,rfl,rfl,rfl⟩
theorem NH.rx {b : Bri} {p : Port} (h : NH p) : NH ((rxT b p).get (p,false)).1 := by
 have h1 : NH (discardP p) := ⟨rfl,rfl,h.is_,h.des,h.vec⟩
 simp only [rxT,Out.get,h.bpdu,Bool.and_false,Bool.false_and,Bool.false_eq_true,if_false]
 split
 · exact h1
 · exact h
theorem NH.info {b : Bri} {p : Port} (h : NH p) : NH (infoF b p).1 := by
 have hu : toldP p = true → NH (updateP p) := fun ht => by
   unfold toldP at ht
   simp only [Bool.and_eq_true] at ht
   exact ⟨h.msg,h.bpdu,by show (2 : Int) ≠ 3; decide,fun e => (by cases e),fun _ => h.des ht.2⟩
 have hd : NH (disableP p) := ⟨rfl,h.bpdu,by show (0 : Int) ≠ 3; decide,h.des,fun e => (by have e : (0 : Int) = 2 := e; omega)⟩
 have ha : NH (ageP p) := ⟨h.msg,h.bpdu,by show (1 : Int) ≠ 3; decide,h.des,fun e => (by have e : (1 : Int) = 2 := e; omega)⟩
 unfold infoF
 repeat' split
 · exact hd
 · exact hd
 · exact ha
 · rename_i e; simp only [Bool.and_eq_true] at e; exact hu e.2
 · rename_i e; simp only [Bool.and_eq_true] at e; exact hu e.2
 · exact h
 · exact ha
 · rename_i e; rw [h.msg] at e; cases e
 · exact h
theorem noH_stp {n : Nat} {s : BS} {o : Op} (hI : Inv n s) (ho : o ∈ ops n) (h : NoH n s) : NoH n (stp o s).1 := by
 have hl := hI.len
 intro j hj
 rcases ops_cases ho with rfl | ⟨k,hk,ho⟩
 · show NH (ptAt (selF s).1 j)
   by_cases ha : s.ps.any askP = true
   · have hr : rootF s.b.id s.ps = (ownOf s.b.id,-1) := rootL_no3 _ _ _ _ fun j hj => (h j (by omega)).is_
     have h7 : (stepB s.b s.ps).root.root = 7 := by
       show (rootF s.b.id s.ps).1.root = 7
       rw [hr]; exact hI.b.id
     rw [sel_at ha j (by omega)]
     obtain ⟨e1,e2,e3,e4,e5,e6,e7,e8⟩ := role_same (stepB s.b s.ps) j (baseP (stepB s.b s.ps) (ptAt s j))
     have hh := h j hj
     refine ⟨e3.trans hh.msg,e4.trans hh.bpdu,fun e => hh.is_ (e2.symm.trans e),fun _ => ?_,fun e => ?_⟩
     · show (roleF (stepB s.b s.ps) j (baseP (stepB s.b s.ps) (ptAt s j))).designated.root = 7
       rw [e6]; exact h7
     · show (roleF (stepB s.b s.ps) j (baseP (stepB s.b s.ps) (ptAt s j))).vec.root = 7
       rw [e5]; exact hh.vec (e2.symm.trans e)
   · rw [sel_no ha]; exact h j hj
 · have hkn : k < s.ps.length := by omega
   rcases ho with rfl | rfl | rfl | rfl | rfl | rfl | rfl | rfl
   · show NH (ptAt (ofP (fun b p => (rxT b p).get (p,false)) s k).1 j)
     rw [ofP_at _ s k j hkn]
     split
     · exact (h k hk).rx
     · exact h j hj
   · exact (h j hj).same (stp_same hkn (by decide) j)
   · exact (h j hj).same (stp_same hkn (by decide) j)
   · show NH (ptAt (ofP infoF s k).1 j)
     rw [ofP_at infoF s k j hkn]
     split
     · exact (h k hk).info
     · exact h j hj
   · exact (h j hj).same (stp_same hkn (by decide) j)
   · exact (h j hj).same (stp_same hkn (by decide) j)
   · exact (h j hj).same (stp_same hkn (by decide) j)
   · exact (h j hj).same (stp_same hkn (by decide) j)
theorem enable_or {n : Nat} {s : BS} (hl : s.ps.length = n) {k : Int} (h0 : 0 ≤ k) (hk : k < n) (on : Bool) (j : Nat) : ptAt (enableF s k on).1 j = ptAt s j ∨ ptAt (enableF s k on).1 j = onP on (ptAt s j) := by
 have hkn : k.toNat < s.ps.length := by omega
 unfold enableF
 split
 · exact .inl rfl
 · have e : ptAt { s with ps := s.ps.set k.toNat (onP on (portAt s k)) } j = if j = k.toNat then onP on (portAt s k) else ptAt s j := getD_set hkn
   show ptAt { s with ps := s.ps.set k.toNat (onP on (portAt s k)) } j = _ ∨ ptAt { s with ps := s.ps.set k.toNat (onP on (portAt s k)) } j = _
   rw [e]
   split
   · rename_i ej; subst ej; exact .inr rfl
   · exact .inl rfl
theorem noH_new (rst : Bool) (L : List Conf) (h : L.length ≤ 32) : NoH L.length (lvS0 rst L) := by
 have hn := lvN_eq (new_ok5 rst L h)
 have e : lvS0 rst L = ⟨newB 7 rst lvTm 6,newPs L rst lvTm,[],[]⟩ := by unfold lvS0; rw [hn]
 rw [e]
 intro j hj
 have hat : ptAt ⟨newB 7 rst lvTm 6,newPs L rst lvTm,[],[]⟩ j = newP (L.getD j Conf.dflt) rst lvTm := newPs_at L rst j hj
 rw [hat]
 have key : ∀ ed : Int,NH (newQ (L.getD j Conf.dflt) rst lvTm ed) := fun ed => ⟨rfl,rfl,by show (0 : Int) ≠ 3; decide,fun e => (by cases e),fun e => (by have e : (0 : Int) = 2 := e; omega)⟩
 unfold newP
 split
 · exact key 0
 · exact key 1
theorem Rest.two {n : Nat} {s : BS} (h : Rest n s) (hN : NoH n s) {j : Nat} (hj : j < n) (he : (ptAt s j).enabled = true) : (ptAt s j).is_ = 2 ∧ (ptAt s j).states.info = 2 := by
 have q := h.quiet hj
 have hp := h.i.i.p j hj
 have a := hp.is_
 have b := hp.st.info
 have h0 : (ptAt s j).is_ ≠ 0 := fun e => by rw [q.off.2 e] at he; cases he
 have h1 : (ptAt s j).is_ ≠ 1 := fun e => q.info (hp.inf.2.2 e)
 have h3 := (hN j hj).is_
 have i0 : (ptAt s j).states.info ≠ 0 := fun e => h0 (hp.inf.1.1 e)
 have i1 := q.info
 exact ⟨by omega,by omega⟩
structure QO (p : Port) : Prop where
 en : p.enabled = true
 is_ : p.is_ = 2
 msg : p.flags.rcvdMsg = false
 bpdu : p.flags.rcvdBpdu = false
theorem QO.info {b : Bri} {p : Port} (h : QO p) (hi : p.states.info ≠ 0) : (infoF b p).1 = p ∨ (infoF b p).1 = updateP p := by
 unfold infoF
 split
 · rename_i e; rw [h.en] at e; simp at e
 · split
   · rename_i e; rw [h.msg] at e; simp at e
   · split
     · rename_i e; simp [hi] at e
     · split
       · exact .inr rfl
       · split
         · exact .inr rfl
         · split
           · exact .inl rfl
           · split
             · rename_i e; rw [h.is_] at e; simp at e
             · split
               · rename_i e; rw [h.msg] at e; cases e
               · exact .inl rfl
end Go.Proofs.YtjemfkoamfnofaaGreat
