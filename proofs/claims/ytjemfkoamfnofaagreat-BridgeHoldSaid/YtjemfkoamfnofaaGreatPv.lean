import Derived.Test.YtjemfkoamfnofaaGreatPn
set_option linter.unusedVariables false
set_option maxRecDepth 100000
namespace Go.Proofs.YtjemfkoamfnofaaGreat
open Go Go.RowKit
def gC (p : Port) : Int := p.clocks.txCount
theorem states_keepC {b : Bri} {ps : List Port} {k : Int} {p : Port} {c : Bool} {x : TrR} (hx : (c, x) ∈ statesL (stE p) b ps k p) : KeepG gC p x := by
 cases hE : stE p with
 | zero =>
   rw [hE] at hx
   simp only [statesL, List.mem_cons, List.not_mem_nil, or_false, Prod.mk.injEq] at hx
   obtain ⟨_, rfl⟩ := hx; rfl
 | succ e =>
   rw [hE] at hx
   match e, hE, hx with
   | 0, _, hx =>
     simp only [statesL, List.mem_cons, List.not_mem_nil, or_false, Prod.mk.injEq] at hx
     obtain ⟨_, rfl⟩ := hx; rfl
   | 1, _, hx =>
     simp only [statesL, trRootL, setsL, List.mem_cons, List.mem_append, List.not_mem_nil, or_false, Prod.mk.injEq] at hx
     rcases hx with (⟨_, rfl⟩ | ⟨_, rfl⟩) | ⟨_, rfl⟩ | ⟨_, rfl⟩ | ⟨_, rfl⟩ | ⟨_, rfl⟩ | ⟨_, rfl⟩ <;> first | trivial | rfl
   | 2, hE, hx =>
     simp only [statesL, desL, List.mem_cons, List.not_mem_nil, or_false, Prod.mk.injEq] at hx
     rcases hx with ⟨_, rfl⟩ | ⟨_, rfl⟩ | ⟨_, rfl⟩ | ⟨_, rfl⟩ | ⟨_, rfl⟩ | ⟨_, rfl⟩ <;> rfl
   | 3, _, hx =>
     simp only [statesL, List.mem_cons, List.not_mem_nil, or_false, Prod.mk.injEq] at hx
     obtain ⟨_, rfl⟩ := hx; rfl
   | 4, _, hx =>
     simp only [statesL, altL, setsL, List.mem_cons, List.mem_append, List.not_mem_nil, or_false, Prod.mk.injEq] at hx
     rcases hx with (⟨_, rfl⟩ | ⟨_, rfl⟩) | ⟨_, rfl⟩ | ⟨_, rfl⟩ <;> first | trivial | rfl
   | n + 5, _, hx => simp only [statesL, List.not_mem_nil] at hx
theorem trR_keepC {b : Bri} {ps : List Port} {k : Int} {p : Port} : KeepG gC p (trR b ps k p) := by
 refine trR_cases trivial (fun _ _ x hx => ?_) (fun hs _ ha x hx => states_keepC hx)
 simp only [rolesL, List.mem_cons, List.not_mem_nil, or_false, Prod.mk.injEq] at hx
 rcases hx with ⟨_, rfl⟩ | ⟨_, rfl⟩ | ⟨_, rfl⟩ | ⟨_, rfl⟩ <;> rfl
theorem sup_keepC (r : Bool) (p : Port) : gC (superiorP r p) = gC p := by kernel_rfl
theorem rep_keepC (r : Bool) (p : Port) : gC (repeatedP r p) = gC p := by kernel_rfl
theorem not_keepC (r : Bool) (p : Port) : gC (notDesP r p) = gC p := by kernel_rfl
theorem hear_keepC (r : Bool) (p : Port) : gC (hearP r p) = gC p := by
 unfold hearP
 split
 · exact sup_keepC r p
 · split
   · exact rep_keepC r p
   · split
     · split <;> rfl
     · split
       · exact not_keepC r p
       · rfl
theorem info_keepC (b : Bri) (p : Port) : gC (infoF b p).1 = gC p := by
 unfold infoF
 repeat' split
 · rfl
 · rfl
 · rfl
 · rfl
 · rfl
 · rfl
 · rfl
 · exact hear_keepC b.rst p
 · rfl
theorem stp_gC {s : BS} {i k : Nat} (hk : k < s.ps.length) (hi : i < 7) : (stp (.m i k) s).1.ps.map gC = s.ps.map gC := by
 match i, hi with
 | 0, _ =>
   refine loc_map hk ?_
   simp only [rxT, receiveT, Out.get]
   repeat' split
   all_goals rfl
 | 1, _ =>
   refine loc_map hk ?_
   simp only [migT, Out.get]
   repeat' split
   all_goals rfl
 | 2, _ => exact loc_map hk (edge_keep fun _ _ => rfl)
 | 3, _ => exact loc_map hk (info_keepC _ _)
 | 4, _ =>
   refine trans_map hk ?_ (fun _ => rfl) (fun _ => rfl) (fun _ => rfl)
   have := trR_keepC (b := s.b) (ps := s.ps) (k := k) (p := ptAt s k)
   revert this
   cases trR s.b s.ps k (ptAt s k) <;> intro this <;> first | exact this | trivial
 | 5, _ => exact loc_map hk (pass_keep fun _ _ _ => rfl)
 | 6, _ => exact topo_map hk (toT_keep rfl rfl rfl (fun _ => rfl) (fun _ => rfl) rfl rfl) (fun _ => rfl) (fun _ => rfl) (fun _ => rfl)
theorem role_keepC (b : Bri) (i : Int) (p : Port) : gC (roleF b i p) = gC p := by
 unfold roleF
 repeat' split
 all_goals rfl
theorem stp_out {s : BS} {i k : Nat} (hi : i < 7) : (stp (.m i k) s).1.out = s.out := by
 match i, hi with
 | 0, _ | 1, _ | 2, _ | 3, _ | 4, _ | 5, _ => rfl
 | 6, _ => exact (topo_bo s k).2
theorem sel_out (s : BS) : (selF s).1.out = s.out := by
 unfold selF
 split <;> rfl
def cntS (k : Nat) (l : List Sent) : Nat := (l.filter fun x => x.port == (k : Int)).length
theorem cntS_append (k : Nat) (l : List Sent) (x : Sent) : cntS k (l ++ [x]) = cntS k l + (if x.port = k then 1 else 0) := by
 unfold cntS
 rw [List.filter_append, List.length_append]
 congr 1
 by_cases h : x.port = k
 · simp [h]
 · simp [h]
structure HI (n : Nat) (c : Nat → Nat) (s : BS) : Prop where
 c : ∀ k, k < n → ((c k + cntS k s.out : Nat) : Int) ≤ gC (ptAt s k)
 o : ∀ x ∈ s.out, 0 ≤ x.port ∧ x.port < n
theorem HI.same {n : Nat} {c : Nat → Nat} {s s' : BS} (h : HI n c s) (ho : s'.out = s.out) (hm : s'.ps.map gC = s.ps.map gC) : HI n c s' :=
 ⟨fun k hk => by rw [ho]; exact Int.le_trans (h.c k hk) (Int.le_of_eq (map_at hm k).symm), by rw [ho]; exact h.o⟩
theorem tx_hi {n : Nat} {c : Nat → Nat} {s : BS} (hI : Inv n s) (h : HI n c s) {k : Nat} (hk : k < n) : HI n c (txF s k).1 := by
 have hkn : k < s.ps.length := by rw [hI.len]; exact hk
 have hat : ∀ q j, (s.ps.set k q).getD j Port.dflt = if j = k then q else ptAt s j := fun q j => getD_set hkn
 have hold := hI.b.hold
 have hck := (hI.p k hk).ck.tx
 unfold txF
 have key : ∀ m a d, d.port = (k : Int) → HI n c (txX s k (ptAt s k) (txPick s.b (ptAt s k) m a d)).1 := by
   intro m a d hd
   unfold txPick
   split
   · exact h
   · split
     · refine ⟨fun j hj => ?_, h.o⟩
       refine Int.le_trans (h.c j hj) (Int.le_of_eq ?_)
       show _ = gC ((s.ps.set k (txAsk s.b (ptAt s k))).getD j Port.dflt)
       rw [hat]
       split
       · rename_i e; subst e; rfl
       · rfl
     · split
       · exact h
       · rename_i hno
         simp only [Bool.or_eq_true, decide_eq_true_eq, not_or] at hno
         have hlt : (ptAt s k).clocks.txCount < 6 := by have := hno.1.2; rw [hold] at this; omega
         have hcl : gC (txSent s.b (ptAt s k) a) = gC (ptAt s k) + 1 := by
           show IntKind.i64.wrap ((ptAt s k).clocks.txCount + 1) = _
           rw [wrap_small (by have := hck.1; omega) (by omega)]; rfl
         refine ⟨fun j hj => ?_, fun x hx => ?_⟩
         · show ((c j + cntS j (s.out ++ [d]) : Nat) : Int) ≤ gC ((s.ps.set k (txSent s.b (ptAt s k) a)).getD j Port.dflt)
           rw [hat, cntS_append]
           have := h.c j hj
           by_cases e : j = k
           · subst e
             rw [if_pos rfl, hcl, if_pos hd]
             omega
           · rw [if_neg e, if_neg (by rw [hd]; omega)]
             exact this
         · rcases List.mem_append.1 hx with hx | hx
           · exact h.o x hx
           · rw [List.mem_singleton.1 hx, hd]; omega
 show HI n c (txX s k (ptAt s k) (txR s.b k (ptAt s k))).1
 unfold txR
 split
 · exact key _ _ _ rfl
 · split <;> exact key _ _ _ rfl
theorem stp_hi {n : Nat} {c : Nat → Nat} {s : BS} {o : Op} (hI : Inv n s) (ho : o ∈ ops n) (h : HI n c s) : HI n c (stp o s).1 := by
 have hl := hI.len
 rcases ops_cases ho with rfl | ⟨k, hk, ho⟩
 · show HI n c (selF s).1
   by_cases ha : s.ps.any askP = true
   · refine ⟨fun k hk => ?_, by rw [sel_out]; exact h.o⟩
     rw [sel_out, sel_at ha k (by omega)]
     exact Int.le_trans (h.c k hk) (Int.le_of_eq (role_keepC _ _ (baseP _ _)).symm)
   · rw [sel_no ha]; exact h
 · have hkn : k < s.ps.length := by omega
   rcases ho with rfl | rfl | rfl | rfl | rfl | rfl | rfl | rfl
   · exact h.same (stp_out (by decide)) (stp_gC hkn (by decide))
   · exact h.same (stp_out (by decide)) (stp_gC hkn (by decide))
   · exact h.same (stp_out (by decide)) (stp_gC hkn (by decide))
   · exact h.same (stp_out (by decide)) (stp_gC hkn (by decide))
   · exact h.same (stp_out (by decide)) (stp_gC hkn (by decide))
   · exact h.same (stp_out (by decide)) (stp_gC hkn (by decide))
   · exact h.same (stp_out (by decide)) (stp_gC hkn (by decide))
   · exact tx_hi hI h hk
theorem run_hi {n : Nat} (h5 : n ≤ 5) {c : Nat → Nat} {s : BS} (h : Start n s) (hR : HI n c s) : HI n c (runF s).1 :=
 (run_keep h5 (P := fun s' => Inv n s' ∧ HI n c s') (fun s' o ho hl e => ⟨e.1.stp ho, stp_hi e.1 ho e.2⟩) h ⟨h.i, hR⟩).2
def bump : List Int → List Sent → List Int
 | x, [] => x
 | x, d :: r => bump (x.set d.port.toNat (IntKind.i64.wrap (x.getD d.port.toNat 0 + 1))) r
theorem bump_len : ∀ (l : List Sent) (x : List Int), (bump x l).length = x.length
 | [], x => rfl
 | d :: r, x => by rw [bump, bump_len r]; simp
theorem bump_at : ∀ (l : List Sent) (x : List Int) (c : Nat → Nat) (N : Nat), (∀ d ∈ l, 0 ≤ d.port ∧ d.port < x.length) → (∀ k, k < x.length → x.getD k 0 = (c k : Int)) → (∀ k, c k ≤ N) → N + l.length ≤ 1000000000 → ∀ k, k < x.length → (bump x l).getD k 0 = ((c k + cntS k l : Nat) : Int)
 | [], x, c, N, _, hx, _, _, k, hk => by rw [bump, hx k hk]; rfl
 | d :: r, x, c, N, hd, hx, hc, hN, k, hk => by
   have h0 := hd d List.mem_cons_self
   have hlt : d.port.toNat < x.length := by omega
   have hcd := hc d.port.toNat
   simp only [List.length_cons] at hN
   have hset : ∀ j, (x.set d.port.toNat (IntKind.i64.wrap (x.getD d.port.toNat 0 + 1))).getD j 0 = if j = d.port.toNat then ((c j + 1 : Nat) : Int) else x.getD j 0 := by
     intro j
     rw [List.getD_eq_getElem?_getD, List.getElem?_set]
     by_cases e : j = d.port.toNat
     · subst e
       rw [if_pos rfl, if_pos rfl, if_pos hlt, hx _ hlt, Option.getD_some, wrap_small (by omega) (by omega)]
       omega
     · rw [if_neg (fun h => e h.symm), if_neg e, List.getD_eq_getElem?_getD]
   rw [bump, bump_at r _ (fun j => if j = d.port.toNat then c j + 1 else c j) (N + 1) (fun y hy => by rw [List.length_set]; exact hd y (List.mem_cons_of_mem _ hy)) (fun j hj => ?_) (fun j => ?_) (by omega) k (by simpa using hk)]
   · have e : cntS k (d :: r) = (if k = d.port.toNat then 1 else 0) + cntS k r := by
       unfold cntS
       rw [List.filter_cons]
       by_cases e : k = d.port.toNat
       · subst e
         rw [if_pos (by simp; omega), if_pos rfl]
         simp; omega
       · rw [if_neg (by simp; omega), if_neg e]; simp
     rw [e]
     split <;> omega
   · rw [List.length_set] at hj
     rw [hset]
     split
     · rfl
     · exact hx j hj
   · have := hc j
     split <;> omega
end Go.Proofs.YtjemfkoamfnofaaGreat
