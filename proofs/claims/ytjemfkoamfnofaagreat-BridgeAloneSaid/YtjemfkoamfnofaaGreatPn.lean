import Derived.Test.YtjemfkoamfnofaaGreatPl
set_option linter.unusedVariables false
set_option maxRecDepth 100000
namespace Go.Proofs.YtjemfkoamfnofaaGreat
open Go Go.RowKit
def gD (p : Port) : (Bool × Int × Bool × Int) × (Bool × Bool × Bool × Bool × Int) := ((p.enabled,p.is_,p.flags.reselect,p.selected),(p.flags.rcvdMsg,p.flags.rcvdBpdu,p.flags.selected,p.flags.updtInfo,p.states.info))
def gL (p : Port) : ((Bool × Int × Bool × Int) × (Bool × Bool × Bool × Bool × Int)) × Int := (gD p,p.role)
def g5 (p : Port) : Bool × Int × Bool := (p.enabled,p.is_,p.flags.reselect)
def KeepG {α : Type} (g : Port → α) (p : Port) : TrR → Prop
 | .one q => g q = g p
 | .oneT q => g q = g p
 | _ => True
theorem states_keepL {b : Bri} {ps : List Port} {k : Int} {p : Port} {c : Bool} {x : TrR} (hx : (c,x) ∈ statesL (stE p) b ps k p) : KeepG gL p x := by
 cases hE : stE p with
 | zero =>
   rw [hE] at hx
   simp only [statesL,List.mem_cons,List.not_mem_nil,or_false,Prod.mk.injEq] at hx
   obtain ⟨_,rfl⟩ := hx; rfl
 | succ e =>
   rw [hE] at hx
   match e,hE,hx with
   | 0,_,hx =>
     simp only [statesL,List.mem_cons,List.not_mem_nil,or_false,Prod.mk.injEq] at hx
     obtain ⟨_,rfl⟩ := hx; rfl
   | 1,_,hx =>
     simp only [statesL,trRootL,setsL,List.mem_cons,List.mem_append,List.not_mem_nil,or_false,Prod.mk.injEq] at hx
     rcases hx with (⟨_,rfl⟩ | ⟨_,rfl⟩) | ⟨_,rfl⟩ | ⟨_,rfl⟩ | ⟨_,rfl⟩ | ⟨_,rfl⟩ | ⟨_,rfl⟩ <;> first | trivial | rfl
   | 2,hE,hx =>
     simp only [statesL,desL,List.mem_cons,List.not_mem_nil,or_false,Prod.mk.injEq] at hx
     rcases hx with ⟨_,rfl⟩ | ⟨_,rfl⟩ | ⟨_,rfl⟩ | ⟨_,rfl⟩ | ⟨_,rfl⟩ | ⟨_,rfl⟩ <;> rfl
   | 3,_,hx =>
     simp only [statesL,List.mem_cons,List.not_mem_nil,or_false,Prod.mk.injEq] at hx
     obtain ⟨_,rfl⟩ := hx; rfl
   | 4,_,hx =>
     simp only [statesL,altL,setsL,List.mem_cons,List.mem_append,List.not_mem_nil,or_false,Prod.mk.injEq] at hx
     rcases hx with (⟨_,rfl⟩ | ⟨_,rfl⟩) | ⟨_,rfl⟩ | ⟨_,rfl⟩ <;> first | trivial | rfl
   | n + 5,_,hx => simp only [statesL,List.not_mem_nil] at hx
theorem KeepG.of {α β : Type} {g : Port → α} {p : Port} {x : TrR} (f : α → β) (h : KeepG g p x) : KeepG (fun q => f (g q)) p x := by
 cases x with
 | one q => exact congrArg f h
 | oneT q => exact congrArg f h
 | _ => trivial
theorem trR_keepD {b : Bri} {ps : List Port} {k : Int} {p : Port} : KeepG gD p (trR b ps k p) := by
 refine trR_cases trivial (fun _ _ x hx => ?_) (fun hs _ ha x hx => (states_keepL hx).of fun x => x.1)
 simp only [rolesL,List.mem_cons,List.not_mem_nil,or_false,Prod.mk.injEq] at hx
 rcases hx with ⟨_,rfl⟩ | ⟨_,rfl⟩ | ⟨_,rfl⟩ | ⟨_,rfl⟩ <;> rfl
theorem stp_gD {s : BS} {i k : Nat} (hk : k < s.ps.length) (hi : i = 1 ∨ i = 2 ∨ i = 4 ∨ i = 5 ∨ i = 6 ∨ i = 7) : (stp (.m i k) s).1.ps.map gD = s.ps.map gD := by
 rcases hi with rfl | rfl | rfl | rfl | rfl | rfl
 · refine loc_map hk ?_
   simp only [migT,Out.get]
   repeat' split
   all_goals rfl
 · exact loc_map hk (edge_keep fun _ _ => rfl)
 · refine trans_map hk ?_ (fun _ => rfl) (fun _ => rfl) (fun _ => rfl)
   have := trR_keepD (b := s.b) (ps := s.ps) (k := k) (p := ptAt s k)
   revert this
   cases trR s.b s.ps k (ptAt s k) <;> intro this <;> first | exact this | trivial
 · exact loc_map hk (pass_keep fun _ _ _ => rfl)
 · exact topo_map hk (toT_keep rfl rfl rfl (fun _ => rfl) (fun _ => rfl) rfl rfl) (fun _ => rfl) (fun _ => rfl) (fun _ => rfl)
 · exact tx_map hk (fun _ => rfl) (fun _ _ => rfl)
theorem map5 {l l' : List Port} (h : l.map gD = l'.map gD) : l.map g5 = l'.map g5 := by
 have := congrArg (List.map fun x : (Bool × Int × Bool × Int) × (Bool × Bool × Bool × Bool × Int) => (x.1.1,x.1.2.1,x.1.2.2.1)) h
 rw [List.map_map,List.map_map] at this
 exact this
theorem topo_bo (s : BS) (k : Int) : (topoF s k).1.b = s.b ∧ (topoF s k).1.out = s.out := by
 unfold topoF
 cases (toT s.b (s.ps.getD k.toNat Port.dflt)).get <;> exact ⟨rfl,rfl⟩
theorem tx_bb (s : BS) (k : Int) : (txF s k).1.b = s.b := by
 unfold txF
 cases txR s.b k (s.ps.getD k.toNat Port.dflt) <;> rfl
theorem stp_b {s : BS} {i k : Nat} (hi : i < 8) : (stp (.m i k) s).1.b = s.b := by
 match i,hi with
 | 0,_ | 1,_ | 2,_ | 3,_ | 4,_ | 5,_ => rfl
 | 6,_ => exact (topo_bo s k).1
 | 7,_ => exact tx_bb s k
theorem stp_g5 {s : BS} {i k : Nat} (hk : k < s.ps.length) (hi : i ≠ 3) (hi8 : i < 8) : (stp (.m i k) s).1.ps.map g5 = s.ps.map g5 := by
 rcases Nat.eq_zero_or_pos i with rfl | h0
 · refine loc_map hk ?_
   simp only [rxT,receiveT,Out.get]
   repeat' split
   all_goals rfl
 · exact map5 (stp_gD hk (by omega))
theorem hearP_res (r : Bool) (p : Port) (h : p.flags.reselect = true) : (hearP r p).flags.reselect = true := by
 unfold hearP
 split
 · rfl
 · split
   · have e : (repeatedP r p).flags.reselect = p.flags.reselect := by kernel_rfl
     exact e.trans h
   · split
     · split <;> exact h
     · split
       · have e : (notDesP r p).flags.reselect = p.flags.reselect := by kernel_rfl
         exact e.trans h
       · exact h
theorem info_keep (b : Bri) (p : Port) : (infoF b p).1.enabled = p.enabled ∧ (p.flags.reselect = true → (infoF b p).1.flags.reselect = true) ∧ (p.is_ ≠ 0 → (infoF b p).1.is_ ≠ 0 ∨ (infoF b p).1.flags.reselect = true) := by
 unfold infoF
 repeat' split
 · exact ⟨rfl,fun _ => rfl,fun _ => .inr rfl⟩
 · exact ⟨rfl,fun _ => rfl,fun _ => .inr rfl⟩
 · exact ⟨rfl,fun _ => rfl,fun _ => .inr rfl⟩
 · exact ⟨rfl,fun h => h,fun _ => .inl (by show (2 : Int) ≠ 0; decide)⟩
 · exact ⟨rfl,fun h => h,fun _ => .inl (by show (2 : Int) ≠ 0; decide)⟩
 · exact ⟨rfl,fun h => h,fun h => .inl h⟩
 · exact ⟨rfl,fun _ => rfl,fun _ => .inr rfl⟩
 · obtain ⟨e1,e2,e3⟩ := hearP_is (r := b.rst) (p := p)
   refine ⟨e1,fun h => hearP_res b.rst p h,fun h => .inl ?_⟩
   show (hearP b.rst p).is_ ≠ 0
   rcases e2 with e2 | e2 <;> rw [e2]
   · exact h
   · decide
 · exact ⟨rfl,fun h => h,fun h => .inl h⟩
theorem role_keep (b : Bri) (i : Int) (p : Port) : (roleF b i p).enabled = p.enabled ∧ (roleF b i p).is_ = p.is_ := by
 unfold roleF
 repeat' split
 all_goals exact ⟨rfl,rfl⟩
theorem step_keep (b : Bri) (i : Nat) (p : Port) : (stepP b i p).enabled = p.enabled ∧ (stepP b i p).is_ = p.is_ := role_keep b i (baseP b p)
def RI (n : Nat) (s : BS) : Prop := (∃ j,j < n ∧ (ptAt s j).flags.reselect = true) ∨ (∃ j,j < n ∧ (ptAt s j).is_ ≠ 0) ∨ (s.b.rootPort = -1 ∧ s.b.root.root = 7)
theorem rootL_none (id : Int) : ∀ (l : List Port) (i : Nat) (x : Vec × Int),(∀ j,j < l.length → (l.getD j Port.dflt).is_ = 0) → rootL id l i x = x
 | [],i,x,_ => rfl
 | p :: r,i,x,h => by
   have h0 : p.is_ = 0 := h 0 (by simp)
   have hs : rootStep id i p x = x := by unfold rootStep; rw [h0]; rfl
   rw [rootL,hs]
   exact rootL_none id r (i + 1) x fun j hj => by have := h (j + 1) (by simpa using hj); simpa using this
theorem stp_en {n : Nat} {s : BS} {o : Op} (hl : s.ps.length = n) (ho : o ∈ ops n) {j : Nat} (hj : j < n) : (ptAt (stp o s).1 j).enabled = (ptAt s j).enabled := by
 rcases ops_cases ho with rfl | ⟨k,hk,ho⟩
 · show (ptAt (selF s).1 j).enabled = _
   by_cases ha : s.ps.any askP = true
   · rw [sel_at ha j (by omega)]; exact (step_keep _ _ _).1
   · rw [sel_no ha]
 · have hkn : k < s.ps.length := by omega
   have key : ∀ i,i ≠ 3 → i < 8 → (ptAt (stp (.m i k) s).1 j).enabled = (ptAt s j).enabled := fun i hi h8 => congrArg (fun x => x.1) (map_at (stp_g5 hkn hi h8) j)
   rcases ho with rfl | rfl | rfl | rfl | rfl | rfl | rfl | rfl
   · exact key 0 (by decide) (by decide)
   · exact key 1 (by decide) (by decide)
   · exact key 2 (by decide) (by decide)
   · show (ptAt (ofP infoF s k).1 j).enabled = _
     rw [ofP_at infoF s k j hkn]
     split
     · rename_i e; subst e; exact (info_keep _ _).1
     · rfl
   · exact key 4 (by decide) (by decide)
   · exact key 5 (by decide) (by decide)
   · exact key 6 (by decide) (by decide)
   · exact key 7 (by decide) (by decide)
theorem iter_keep {n : Nat} {P : BS → Prop} (hs : ∀ s o,o ∈ ops n → s.ps.length = n → P s → P (stp o s).1) : ∀ (j : Nat) (s : BS),s.ps.length = n → P s → P (iter j s)
 | 0,s,_,h => h
 | j + 1,s,hl,h => by
   have kf : ∀ (l : List Op) (s : BS),(∀ o ∈ l,o ∈ ops n) → s.ps.length = n → P s → P (fold l s) := by
     intro l
     induction l with
     | nil => intro s _ _ h; exact h
     | cons o r ih => intro s hm hl h; exact ih _ (fun o' ho => hm o' (List.mem_cons_of_mem _ ho)) (by rw [stp_len]; exact hl) (hs s o (hm o List.mem_cons_self) hl h)
   rw [iter]
   exact iter_keep hs j _ (by rw [fold_len]; exact hl) (kf _ s (fun o ho => by rw [hl] at ho; exact ho) hl h)
theorem run_keep {n : Nat} (h5 : n ≤ 5) {P : BS → Prop} (hs : ∀ s o,o ∈ ops n → s.ps.length = n → P s → P (stp o s).1) {s : BS} (h : Start n s) (hP : P s) : P (runF s).1 := by
 obtain ⟨_,_,j,e⟩ := h.run h5
 rw [e]
 exact iter_keep hs j s h.i.len hP
theorem run_en {n : Nat} (h5 : n ≤ 5) {s : BS} (h : Start n s) {j : Nat} (hj : j < n) : (ptAt (runF s).1 j).enabled = (ptAt s j).enabled :=
 run_keep h5 (P := fun s' => (ptAt s' j).enabled = (ptAt s j).enabled) (fun s' o ho hl e => (stp_en hl ho hj).trans e) h rfl
def lowC : ((Bool × Int × Bool × Int) × (Bool × Bool × Bool × Bool × Int)) × Int := (((false,0,false,0),(false,false,true,false,0)),0)
structure Low (n : Nat) (b : Bri) (s : BS) : Prop where
 b : s.b = b
 o : s.out = []
 p : ∀ j,j < n → gL (ptAt s j) = lowC
structure LowP (p : Port) : Prop where
 en : p.enabled = false
 is_ : p.is_ = 0
 res : p.flags.reselect = false
 sel : p.selected = 0
 msg : p.flags.rcvdMsg = false
 bpdu : p.flags.rcvdBpdu = false
 fs : p.flags.selected = true
 upd : p.flags.updtInfo = false
 info : p.states.info = 0
 role : p.role = 0
theorem enable_ps {n : Nat} {s : BS} (hl : s.ps.length = n) {k : Int} (h0 : 0 ≤ k) (hk : k < n) (on : Bool) (j : Nat) : (ptAt (enableF s k on).1 j).enabled = (if j = k.toNat then on else (ptAt s j).enabled) ∧ (ptAt (enableF s k on).1 j).is_ = (ptAt s j).is_ ∧ (ptAt (enableF s k on).1 j).flags.reselect = (ptAt s j).flags.reselect := by
 have hkn : k.toNat < s.ps.length := by omega
 unfold enableF
 split
 · rename_i he
   refine ⟨?_,rfl,rfl⟩
   split
   · rename_i ej; subst ej; exact eq_of_beq he
   · rfl
 · have e : ptAt { s with ps := s.ps.set k.toNat (onP on (portAt s k)) } j = if j = k.toNat then onP on (portAt s k) else ptAt s j := getD_set hkn
   show (ptAt { s with ps := s.ps.set k.toNat (onP on (portAt s k)) } j).enabled = _ ∧ (ptAt { s with ps := s.ps.set k.toNat (onP on (portAt s k)) } j).is_ = _ ∧ (ptAt { s with ps := s.ps.set k.toNat (onP on (portAt s k)) } j).flags.reselect = _
   rw [e]
   split
   · rename_i ej; subst ej; exact ⟨rfl,rfl,rfl⟩
   · exact ⟨rfl,rfl,rfl⟩
theorem Rest.low {n : Nat} {s : BS} (h : Rest n s) {j : Nat} (hj : j < n) (he : (ptAt s j).enabled = false) : LowP (ptAt s j) := by
 have q := h.quiet hj
 have hp := h.i.i.p j hj
 have hz := q.off.1 he
 have hr : (ptAt s j).role = 0 := by
   rcases Decidable.em ((ptAt s j).role = 0) with h0 | h0
   · exact h0
   · rw [q.on.2 h0] at he; cases he
 exact ⟨he,hz,q.res,by rw [← q.role]; exact hr,q.msg,q.bpdu,q.sel,q.upd,hp.inf.1.2 hz,hr⟩
end Go.Proofs.YtjemfkoamfnofaaGreat
