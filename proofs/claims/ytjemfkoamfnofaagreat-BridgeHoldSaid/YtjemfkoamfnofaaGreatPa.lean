import Derived.Test.YtjemfkoamfnofaaGreatBq
set_option linter.unusedVariables false
set_option maxRecDepth 100000
namespace Go.Proofs.YtjemfkoamfnofaaGreat
section
section
open Go Go.RowKit
inductive Op where
 | sel
 | m (i k : Nat)
def mach : Nat → BS → Int → BS × Bool
 | 0 => rxM
 | 1 => migM
 | 2 => edgeM
 | 3 => infoM
 | 4 => transM
 | 5 => passM
 | 6 => topoF
 | _ => txF
def stp : Op → BS → BS × Bool
 | .sel, s => selF s
 | .m i k, s => mach i s (k : Int)
def fold : List Op → BS → BS
 | [], s => s
 | o :: r, s => fold r (stp o s).1
def fired : List Op → BS → Bool
 | [], _ => false
 | o :: r, s => (stp o s).2 || fired r (stp o s).1
def cnt : List Op → BS → Nat
 | [], _ => 0
 | o :: r, s => (if (stp o s).2 = true then 1 else 0) + cnt r (stp o s).1
theorem cnt_fired : ∀ (l : List Op) (s : BS), fired l s = false ↔ cnt l s = 0
 | [], s => by simp [fired, cnt]
 | o :: r, s => by
   have := cnt_fired r (stp o s).1
   unfold fired cnt
   cases (stp o s).2 <;> simp [this]
theorem cnt_le : ∀ (l : List Op) (s : BS), cnt l s ≤ l.length
 | [], s => Nat.le_refl _
 | o :: r, s => by
   have := cnt_le r (stp o s).1
   unfold cnt
   simp only [List.length_cons]
   split <;> omega
theorem fold_app : ∀ (l r : List Op) (s : BS), fold (l ++ r) s = fold r (fold l s)
 | [], r, s => rfl
 | o :: l, r, s => fold_app l r (stp o s).1
theorem cnt_app : ∀ (l r : List Op) (s : BS), cnt (l ++ r) s = cnt l s + cnt r (fold l s)
 | [], r, s => by simp [cnt, fold]
 | o :: l, r, s => by
   have := cnt_app l r (stp o s).1
   simp only [List.cons_append, cnt, fold]
   omega
def portOps (k : Nat) : List Op := [.m 0 k, .m 1 k, .m 2 k, .m 3 k, .m 4 k, .m 5 k, .m 6 k, .m 7 k]
def opsN : Nat → Nat → List Op
 | 0, _ => []
 | n + 1, i => portOps i ++ opsN n (i + 1)
def ops (n : Nat) : List Op := .sel :: opsN n 0
theorem opsN_mem : ∀ {n i : Nat} {o : Op}, o ∈ opsN n i → ∃ j k, o = .m j k ∧ j < 8 ∧ i ≤ k ∧ k < i + n
 | 0, i, o, h => by cases h
 | n + 1, i, o, h => by
   unfold opsN at h
   rcases List.mem_append.1 h with h | h
   · simp only [portOps, List.mem_cons, List.not_mem_nil, or_false] at h
     rcases h with rfl | rfl | rfl | rfl | rfl | rfl | rfl | rfl <;> exact ⟨_, _, rfl, by decide, Nat.le_refl _, by omega⟩
   · obtain ⟨j, k, h1, h2, h3, h4⟩ := opsN_mem h
     exact ⟨j, k, h1, h2, by omega, by omega⟩
theorem opsN_of : ∀ {n i j k : Nat}, j < 8 → i ≤ k → k < i + n → Op.m j k ∈ opsN n i
 | 0, i, j, k, _, h1, h2 => by omega
 | n + 1, i, j, k, hj, h1, h2 => by
   unfold opsN
   rcases Nat.eq_or_lt_of_le h1 with h | h
   · subst h
     refine List.mem_append_left _ ?_
     match j, hj with
     | 0, _ | 1, _ | 2, _ | 3, _ | 4, _ | 5, _ | 6, _ | 7, _ => simp [portOps]
   · exact List.mem_append_right _ (opsN_of hj h (by omega))
theorem ops_of {n j k : Nat} (hj : j < 8) (hk : k < n) : Op.m j k ∈ ops n := List.mem_cons_of_mem _ (opsN_of hj (Nat.zero_le _) (by omega))
theorem wrap_small {x : Int} (h0 : 0 ≤ x) (h1 : x < 4611686018427387904) : IntKind.i64.wrap x = x := by
 have := wrap_succ (n := 4611686018427387904) (i := (x - 1).toNat)
 rcases Int.lt_or_le x 1 with h | h
 · have : x = 0 := by omega
   subst this; rfl
 · have h2 := this (by omega) (by omega)
   have e : (((x - 1).toNat : Nat) : Int) = x - 1 := by omega
   rw [show (((x - 1).toNat + 1 : Nat) : Int) = x from by omega, e, show x - 1 + 1 = x from by omega] at h2
   exact h2
theorem stepsL_cnt (k : Nat) (s : BS) (c : Int) (h0 : 0 ≤ c) (h1 : c < 4000000000000000000) : stepsL (k : Int) machs (s, c) = (fold (portOps k) s, c + cnt (portOps k) s) := by
 have key : ∀ (l : List (BS → Int → BS × Bool)) (ol : List Op), ol.map stp = l.map (fun F s => F s (k : Int)) → ∀ (s : BS) (c : Int), 0 ≤ c → c + l.length < 4611686018427387904 → stepsL (k : Int) l (s, c) = (fold ol s, c + cnt ol s) := by
   intro l
   induction l with
   | nil =>
     intro ol h s c _ _
     cases ol with
     | nil => simp [stepsL, fold, cnt]
     | cons o r => simp at h
   | cons F l ih =>
     intro ol h s c hc hl
     cases ol with
     | nil => simp at h
     | cons o r =>
       simp only [List.map_cons, List.cons.injEq] at h
       simp only [List.length_cons] at hl
       have e : F s (k : Int) = stp o s := (congrFun h.1 s).symm
       unfold stepsL fold cnt
       rw [e]
       split
       · rw [wrap_small (by omega) (by omega), ih r h.2 _ _ (by omega) (by omega)]
         simp only [Prod.mk.injEq, true_and]
         push_cast
         omega
       · rw [ih r h.2 _ _ hc (by omega)]
         simp
 exact key machs (portOps k) rfl s c h0 (by show c + 8 < _; omega)
theorem portsL_cnt : ∀ (n i : Nat) (s : BS) (c : Int), 0 ≤ c → c + 8 * n < 4000000000000000000 → portsL n i (s, c) = (fold (opsN n i) s, c + cnt (opsN n i) s)
 | 0, i, s, c, _, _ => by simp [portsL, opsN, fold, cnt]
 | n + 1, i, s, c, h0, h1 => by
   unfold portsL opsN
   have hle := cnt_le (portOps i) s
   have : (portOps i).length = 8 := rfl
   rw [stepsL_cnt i s c h0 (by omega), portsL_cnt n (i + 1) _ _ (by omega) (by omega), fold_app, cnt_app]
   simp only [Prod.mk.injEq, true_and]
   push_cast
   omega
theorem roundF_eq (s : BS) (h : s.ps.length ≤ 1000) : (roundF s).1 = fold (ops s.ps.length) s ∧ ((roundF s).2 == 0) = !(fired (ops s.ps.length) s) := by
 have hl := (selF_len s).1
 have hc : 0 ≤ (if (selF s).2 = true then (1 : Int) else 0) ∧ (if (selF s).2 = true then (1 : Int) else 0) ≤ 1 := by split <;> omega
 have hp := portsL_cnt (selF s).1.ps.length 0 (selF s).1 (if (selF s).2 = true then 1 else 0) hc.1 (by omega)
 unfold roundF
 rw [hp, hl]
 refine ⟨rfl, ?_⟩
 have hk : ((if (selF s).2 = true then (1 : Int) else 0) + (cnt (opsN s.ps.length 0) (selF s).1 : Int)) = (cnt (ops s.ps.length) s : Int) := by
   have : cnt (ops s.ps.length) s = (if (selF s).2 = true then 1 else 0) + cnt (opsN s.ps.length 0) (selF s).1 := rfl
   rw [this]
   push_cast
   split <;> simp
 rw [hk]
 have := cnt_fired (ops s.ps.length) s
 cases hf : fired (ops s.ps.length) s with
 | false => rw [this.1 hf]; rfl
 | true =>
   have hne : cnt (ops s.ps.length) s ≠ 0 := fun h => by rw [this.2 h] at hf; cases hf
   rw [Bool.not_true]
   exact beq_eq_false_iff_ne.2 (by omega)
theorem stp_len (o : Op) (s : BS) : (stp o s).1.ps.length = s.ps.length := by
 cases o with
 | sel => exact (selF_len s).1
 | m i k =>
   show (mach i s k).1.ps.length = _
   match i with
   | 0 => exact (ofP_mach _).len s k
   | 1 => exact (ofP_mach _).len s k
   | 2 => exact (ofP_mach _).len s k
   | 3 => exact (ofP_mach _).len s k
   | 4 => exact transM_mach.len s k
   | 5 => exact (ofP_mach _).len s k
   | 6 => exact topoF_mach.len s k
   | n + 7 => exact txF_mach.len s k
theorem fold_len : ∀ (l : List Op) (s : BS), (fold l s).ps.length = s.ps.length
 | [], s => rfl
 | o :: r, s => by rw [fold, fold_len r, stp_len]
def iter : Nat → BS → BS
 | 0, s => s
 | n + 1, s => iter n (fold (ops s.ps.length) s)
theorem iter_len : ∀ (n : Nat) (s : BS), (iter n s).ps.length = s.ps.length
 | 0, s => rfl
 | n + 1, s => by rw [iter, iter_len n, fold_len]
theorem iter_add : ∀ (n m : Nat) (s : BS), iter (n + m) s = iter m (iter n s)
 | 0, m, s => by rw [Nat.zero_add]; rfl
 | n + 1, m, s => by rw [show n + 1 + m = (n + m) + 1 from by omega]; exact iter_add n m _
def still (s : BS) : Prop := fired (ops s.ps.length) s = false
def Lazy (n : Nat) : Prop := ∀ (s : BS) (o : Op), s.ps.length = n → o ∈ ops n → (stp o s).2 = false → (stp o s).1 = s
theorem still_fold {n : Nat} (hz : Lazy n) : ∀ (l : List Op) (s : BS), s.ps.length = n → (∀ o ∈ l, o ∈ ops n) → fired l s = false → fold l s = s ∧ ∀ o ∈ l, (stp o s).2 = false
 | [], s, _, _, _ => ⟨rfl, fun o h => by cases h⟩
 | o :: r, s, hn, hm, h => by
   simp only [fired, Bool.or_eq_false_iff] at h
   have e := hz s o hn (hm o List.mem_cons_self) h.1
   rw [e] at h
   obtain ⟨h1, h2⟩ := still_fold hz r s hn (fun o' ho => hm o' (List.mem_cons_of_mem _ ho)) h.2
   refine ⟨by rw [fold, e]; exact h1, fun o' ho => ?_⟩
   rcases List.mem_cons.1 ho with rfl | ho
   · exact h.1
   · exact h2 o' ho
theorem still_of {n : Nat} (hz : Lazy n) {s : BS} (hn : s.ps.length = n) (h : ∀ o ∈ ops n, (stp o s).2 = false) : still s := by
 have key : ∀ (l : List Op), (∀ o ∈ l, o ∈ ops n) → fired l s = false := by
   intro l
   induction l with
   | nil => intro _; rfl
   | cons o r ih =>
     intro hm
     have h1 := h o (hm o List.mem_cons_self)
     unfold fired
     rw [hz s o hn (hm o List.mem_cons_self) h1, h1, ih fun o' ho => hm o' (List.mem_cons_of_mem _ ho)]
     rfl
 unfold still
 rw [hn]
 exact key _ fun _ h => h
theorem runN_still {n : Nat} (hz : Lazy n) (hn : n ≤ 1000) : ∀ (N m : Nat) (s : BS) (c : Int), s.ps.length = n → m < N → still (iter m s) → ∃ j, j ≤ m ∧ (runN N s c).1 = iter j s ∧ (runN N s c).2.2 = true ∧ still (iter j s)
 | 0, m, s, c, _, h, _ => absurd h (Nat.not_lt_zero _)
 | N + 1, m, s, c, hs, h, hst => by
   obtain ⟨e1, e2⟩ := roundF_eq s (by omega)
   unfold runN
   rw [e2, e1]
   cases hf : fired (ops s.ps.length) s with
   | false =>
     simp only [Bool.not_false, if_true]
     have := (still_fold hz (ops s.ps.length) s hs (fun o ho => by rw [← hs]; exact ho) hf).1
     exact ⟨0, Nat.zero_le _, this, trivial, hf⟩
   | true =>
     simp only [Bool.not_true, Bool.false_eq_true, if_false]
     cases m with
     | zero => unfold still at hst; simp only [iter] at hst; rw [hf] at hst; cases hst
     | succ m =>
       obtain ⟨j, h1, h2, h3, h4⟩ := runN_still hz hn N m (fold (ops s.ps.length) s) (IntKind.i64.wrap (c + (roundF s).2)) (by rw [fold_len]; exact hs) (by omega) hst
       exact ⟨j + 1, by omega, h2, h3, h4⟩
structure Layer (n : Nat) (I : BS → Prop) (low own : Op → Prop) {V1 V2 : Type} (v1 : BS → V1) (v2 : BS → V2) (F : BS → Nat) : Prop where
 inv : ∀ s o, s.ps.length = n → o ∈ ops n → I s → I (stp o s).1
 v1k : ∀ s o, s.ps.length = n → o ∈ ops n → I s → ¬ low o → v1 (stp o s).1 = v1 s
 v1d : ∀ s s' o, s.ps.length = n → s'.ps.length = n → o ∈ ops n → low o → v1 s = v1 s' → (stp o s).2 = (stp o s').2
 v2k : ∀ s o, s.ps.length = n → o ∈ ops n → I s → ¬ low o → ¬ own o → v2 (stp o s).1 = v2 s
 v2d : ∀ s s' o, s.ps.length = n → s'.ps.length = n → o ∈ ops n → own o → v2 s = v2 s' → (stp o s).2 = (stp o s').2
 dec : ∀ s o, s.ps.length = n → o ∈ ops n → I s → (∀ o ∈ ops n, low o → (stp o s).2 = false) → own o → (stp o s).2 = true → F (stp o s).1 < F s
 dep : ∀ s s', v2 s = v2 s' → F s = F s'
section
variable {n : Nat} {I : BS → Prop} {low own : Op → Prop} {V1 V2 : Type} {v1 : BS → V1} {v2 : BS → V2} {F : BS → Nat}
def Calm (n : Nat) (A : Op → Prop) (s : BS) : Prop := ∀ o ∈ ops n, A o → (stp o s).2 = false
theorem layer_fold (L : Layer n I low own v1 v2 F) (hz : Lazy n) (s0 : BS) (hn0 : s0.ps.length = n) : ∀ (l done : List Op) (s : BS), (∀ o ∈ l, o ∈ ops n) → s.ps.length = n → I s → Calm n low s → v1 s = v1 s0 →
   (F s < F s0 ∨ (v2 s = v2 s0 ∧ ∀ o ∈ done, own o → (stp o s0).2 = false)) →
   I (fold l s) ∧ Calm n low (fold l s) ∧ (F (fold l s) < F s0 ∨ ∀ o ∈ done ++ l, own o → (stp o s0).2 = false)
 | [], done, s, _, _, hI, hc, _, h => ⟨hI, hc, by rw [List.append_nil]; exact h.imp (fun h => h) fun h => h.2⟩
 | o :: r, done, s, hm, hn, hI, hc, hv, h => by
   have ho := hm o List.mem_cons_self
   have hr : ∀ o ∈ r, o ∈ ops n := fun o' h' => hm o' (List.mem_cons_of_mem _ h')
   have hIs := L.inv s o hn ho hI
   have hns : (stp o s).1.ps.length = n := by rw [stp_len]; exact hn
   have hv1 : v1 (stp o s).1 = v1 s := by
     by_cases hlo : low o
     · rw [hz s o hn ho (hc o ho hlo)]
     · exact L.v1k s o hn ho hI hlo
   have hcs : Calm n low (stp o s).1 := fun o' ho' hl => by rw [L.v1d (stp o s).1 s o' hns hn ho' hl hv1]; exact hc o' ho' hl
   have hF : F (stp o s).1 ≤ F s ∧ ((stp o s).2 = true → own o → F (stp o s).1 < F s) := by
     cases hs : (stp o s).2 with
     | false => rw [hz s o hn ho hs]; exact ⟨Nat.le_refl _, fun h => by cases h⟩
     | true =>
       by_cases hlo : low o
       · rw [hc o ho hlo] at hs; cases hs
       · by_cases hw : own o
         · have := L.dec s o hn ho hI hc hw hs
           exact ⟨by omega, fun _ _ => this⟩
         · rw [L.dep _ _ (L.v2k s o hn ho hI hlo hw)]
           exact ⟨Nat.le_refl _, fun _ h => absurd h hw⟩
   have := layer_fold L hz s0 hn0 r (done ++ [o]) (stp o s).1 hr hns hIs hcs (hv1.trans hv) (by
     rcases h with h | ⟨h1, h2⟩
     · exact .inl (by omega)
     · have hFe := L.dep s s0 h1
       cases hs : (stp o s).2 with
       | false =>
         rw [hz s o hn ho hs]
         refine .inr ⟨h1, fun o' ho' hw => ?_⟩
         rcases List.mem_append.1 ho' with h' | h'
         · exact h2 o' h' hw
         · obtain rfl := List.mem_singleton.1 h'
           rw [← L.v2d s s0 o' hn hn0 ho hw h1]; exact hs
       | true =>
         by_cases hw : own o
         · exact .inl (by have := hF.2 hs hw; omega)
         · by_cases hlo : low o
           · rw [hc o ho hlo] at hs; cases hs
           · refine .inr ⟨(L.v2k s o hn ho hI hlo hw).trans h1, fun o' ho' hw' => ?_⟩
             rcases List.mem_append.1 ho' with h' | h'
             · exact h2 o' h' hw'
             · obtain rfl := List.mem_singleton.1 h'
               exact absurd hw' hw)
   rw [List.append_assoc, List.singleton_append] at this
   exact this
theorem layer_rest (L : Layer n I low own v1 v2 F) (hz : Lazy n) : ∀ (N : Nat) (s : BS), F s ≤ N → s.ps.length = n → I s → Calm n low s → ∃ m, m ≤ N ∧ I (iter m s) ∧ Calm n low (iter m s) ∧ Calm n own (iter m s)
 | N, s, hF, hn, hI, hc => by
   have h := layer_fold L hz s hn (ops n) [] s (fun _ h => h) hn hI hc rfl (.inr ⟨rfl, fun o h => by cases h⟩)
   rw [List.nil_append] at h
   rcases h.2.2 with hd | hq
   · cases N with
     | zero => omega
     | succ N =>
       obtain ⟨m, h1, h2, h3, h4⟩ := layer_rest L hz N (fold (ops n) s) (by omega) (by rw [fold_len]; exact hn) h.1 h.2.1
       refine ⟨m + 1, by omega, ?_⟩
       rw [show iter (m + 1) s = iter m (fold (ops n) s) from by rw [iter, hn]]
       exact ⟨h2, h3, h4⟩
   · exact ⟨0, Nat.zero_le _, hI, hc, hq⟩
end
end
section
open Go Go.RowKit
theorem set_self {l : List Port} {k : Nat} (h : k < l.length) : l.set k (l.getD k Port.dflt) = l := by
 rw [List.getD_eq_getElem?_getD, List.getElem?_eq_getElem h]
 simp
theorem rx_lazy (b : Bri) (p : Port) (h : ((rxT b p).get (p, false)).2 = false) : ((rxT b p).get (p, false)).1 = p := by
 revert h
 simp only [rxT, receiveT, Out.get]
 repeat' split
 all_goals first | (intro h; cases h; done) | (intro _; rfl)
theorem mig_lazy (b : Bri) (p : Port) (h : ((migT b p).get (p, false)).2 = false) : ((migT b p).get (p, false)).1 = p := by
 revert h
 simp only [migT, Out.get]
 repeat' split
 all_goals first | (intro h; cases h; done) | (intro _; rfl)
theorem edge_lazy (b : Bri) (p : Port) (h : ((edgeT b p).get (p, false)).2 = false) : ((edgeT b p).get (p, false)).1 = p := by
 revert h
 simp only [edgeT, Out.get]
 repeat' split
 all_goals first | (intro h; cases h; done) | (intro _; rfl)
theorem pass_lazy (b : Bri) (p : Port) (h : ((passT b p).get (p, false)).2 = false) : ((passT b p).get (p, false)).1 = p := by
 revert h
 simp only [passT, Out.get]
 repeat' split
 all_goals first | (intro h; cases h; done) | (intro _; rfl)
theorem info_lazy (b : Bri) (p : Port) (h : (infoF b p).2 = false) : (infoF b p).1 = p := by
 revert h
 unfold infoF
 repeat' split
 all_goals first | (intro h; cases h; done) | (intro _; rfl)
theorem ofP_lazy {F : Bri → Port → Port × Bool} (hF : ∀ b p, (F b p).2 = false → (F b p).1 = p) (s : BS) (k : Nat) (hk : k < s.ps.length) (h : (ofP F s k).2 = false) : (ofP F s k).1 = s := by
 have h1 := hF s.b (s.ps.getD k Port.dflt) h
 show ({ s with ps := s.ps.set ((k : Int).toNat) (F s.b (s.ps.getD ((k : Int).toNat) Port.dflt)).1 } : BS) = s
 rw [show ((k : Int).toNat) = k from rfl, h1, set_self hk]
theorem trans_lazy (s : BS) (k : Int) (h : (transM s k).2 = false) : (transM s k).1 = s := by
 revert h
 show (transF s.b s.ps k).2 = false → ({ s with ps := (transF s.b s.ps k).1 } : BS) = s
 unfold transF
 cases trR s.b s.ps k (s.ps.getD k.toNat Port.dflt) <;> intro h <;> first | rfl | cases h
theorem topo_lazy (s : BS) (k : Int) (h : (topoF s k).2 = false) : (topoF s k).1 = s := by
 revert h
 unfold topoF
 cases (toT s.b (s.ps.getD k.toNat Port.dflt)).get <;> intro h <;> first | rfl | cases h
theorem tx_lazy (s : BS) (k : Int) (h : (txF s k).2 = false) : (txF s k).1 = s := by
 revert h
 unfold txF
 cases txR s.b k (s.ps.getD k.toNat Port.dflt) <;> intro h <;> first | rfl | cases h
theorem sel_lazy (s : BS) (h : (selF s).2 = false) : (selF s).1 = s := by
 revert h
 unfold selF
 split
 · intro h; cases h
 · intro _; rfl
theorem ops_cases {n : Nat} {o : Op} (h : o ∈ ops n) : o = .sel ∨ ∃ k, k < n ∧ (o = .m 0 k ∨ o = .m 1 k ∨ o = .m 2 k ∨ o = .m 3 k ∨ o = .m 4 k ∨ o = .m 5 k ∨ o = .m 6 k ∨ o = .m 7 k) := by
 rcases List.mem_cons.1 h with h | h
 · exact .inl h
 · obtain ⟨j, k, rfl, h1, h2, h3⟩ := opsN_mem h
   refine .inr ⟨k, by omega, ?_⟩
   match j, h1 with
   | 0, _ | 1, _ | 2, _ | 3, _ | 4, _ | 5, _ | 6, _ | 7, _ => simp
theorem lazy (n : Nat) : Lazy n := by
 intro s o hn ho h
 rcases ops_cases ho with rfl | ⟨k, hk, rfl | rfl | rfl | rfl | rfl | rfl | rfl | rfl⟩
 · exact sel_lazy s h
 · exact ofP_lazy rx_lazy s k (by omega) h
 · exact ofP_lazy mig_lazy s k (by omega) h
 · exact ofP_lazy edge_lazy s k (by omega) h
 · exact ofP_lazy info_lazy s k (by omega) h
 · exact trans_lazy s k h
 · exact ofP_lazy pass_lazy s k (by omega) h
 · exact topo_lazy s k h
 · exact tx_lazy s k h
theorem mapI_getD (f : Nat → Port → Port) : ∀ (l : List Port) (i k : Nat), k < l.length → (mapI f l i).getD k Port.dflt = f (i + k) (l.getD k Port.dflt)
 | [], i, k, h => absurd h (Nat.not_lt_zero _)
 | p :: r, i, 0, h => rfl
 | p :: r, i, k + 1, h => by
   have := mapI_getD f r (i + 1) k (by simpa using h)
   simp only [mapI, List.getD_cons_succ]
   rw [this, show i + 1 + k = i + (k + 1) from by omega]
theorem getD_set {l : List Port} {k j : Nat} {p : Port} (hk : k < l.length) : (l.set k p).getD j Port.dflt = if j = k then p else l.getD j Port.dflt := by
 rw [List.getD_eq_getElem?_getD, List.getElem?_set, List.getD_eq_getElem?_getD]
 by_cases h : k = j
 · subst h; simp [hk]
 · rw [if_neg h, if_neg fun e => h e.symm]
theorem getD_map (g : Port → Port) (l : List Port) (k : Nat) (h : k < l.length) : (l.map g).getD k Port.dflt = g (l.getD k Port.dflt) := by
 simp [List.getD_eq_getElem?_getD, h]
theorem map_ext {α : Type} (g : Port → α) {l l' : List Port} (hl : l.length = l'.length) (h : ∀ j, j < l.length → g (l.getD j Port.dflt) = g (l'.getD j Port.dflt)) : l.map g = l'.map g := by
 refine List.ext_getElem (by simp [hl]) fun j h1 h2 => ?_
 simp only [List.length_map] at h1 h2
 have := h j h1
 simp only [List.getD_eq_getElem?_getD, List.getElem?_eq_getElem h1, List.getElem?_eq_getElem h2, Option.getD_some] at this
 simpa using this
theorem map_at {α : Type} {g : Port → α} {l l' : List Port} (h : l.map g = l'.map g) (j : Nat) : g (l.getD j Port.dflt) = g (l'.getD j Port.dflt) := by
 have := congrArg (fun x => x[j]?) h
 simp only [List.getElem?_map] at this
 simp only [List.getD_eq_getElem?_getD]
 cases h1 : l[j]? with
 | none => cases h2 : l'[j]? with
   | none => rfl
   | some y => rw [h1, h2] at this; cases this
 | some x => cases h2 : l'[j]? with
   | none => rw [h1, h2] at this; cases this
   | some y => rw [h1, h2] at this; exact Option.some.inj this
def sumP (g : Port → Nat) : List Port → Nat
 | [] => 0
 | p :: r => g p + sumP g r
theorem sumP_map {α : Type} {g : Port → α} {w : Port → Nat} (hw : ∀ p p', g p = g p' → w p = w p') : ∀ {l l' : List Port}, l.map g = l'.map g → sumP w l = sumP w l'
 | [], [], _ => rfl
 | [], _ :: _, h => by simp at h
 | _ :: _, [], h => by simp at h
 | p :: r, p' :: r', h => by
   simp only [List.map_cons, List.cons.injEq] at h
   rw [sumP, sumP, hw p p' h.1, sumP_map hw h.2]
theorem sumP_set (w : Port → Nat) : ∀ (l : List Port) (k : Nat) (p : Port), k < l.length → sumP w (l.set k p) + w (l.getD k Port.dflt) = sumP w l + w p
 | [], k, p, h => absurd h (Nat.not_lt_zero _)
 | q :: r, 0, p, _ => by simp only [List.set_cons_zero, sumP, List.getD_cons_zero]; omega
 | q :: r, k + 1, p, h => by
   have := sumP_set w r k p (by simpa using h)
   simp only [List.set_cons_succ, sumP, List.getD_cons_succ]
   omega
theorem sumP_bc (w : Port → Nat) (f : Nat → Port → Port) (c : Nat) (h : ∀ i p, w (f i p) ≤ w p + c) : ∀ (l : List Port) (i : Nat), sumP w (mapI f l i) ≤ sumP w l + c * l.length
 | [], i => by simp [mapI, sumP]
 | p :: r, i => by
   have h1 := h i p
   have h2 := sumP_bc w f c h r (i + 1)
   simp only [mapI, sumP, List.length_cons, Nat.mul_succ]
   omega
theorem sumP_le (w : Port → Nat) (c : Nat) (h : ∀ p, w p ≤ c) : ∀ l : List Port, sumP w l ≤ c * l.length
 | [] => by simp [sumP]
 | p :: r => by
   have h1 := h p
   have h2 := sumP_le w c h r
   simp only [sumP, List.length_cons, Nat.mul_succ]
   omega
def ptAt (s : BS) (k : Nat) : Port := s.ps.getD k Port.dflt
theorem ofP_at (F : Bri → Port → Port × Bool) (s : BS) (k j : Nat) (hk : k < s.ps.length) : ptAt (ofP F s k).1 j = if j = k then (F s.b (ptAt s k)).1 else ptAt s j := by
 show ((s.ps.set ((k : Int).toNat) _)).getD j Port.dflt = _
 rw [show ((k : Int).toNat) = k from rfl, getD_set hk]
 rfl
end
section
open Go Go.RowKit
structure Upt (c : Int) (t : Times) : Prop where
 age : 0 ≤ t.age ∧ t.age ≤ c
 max : 0 ≤ t.max ∧ t.max ≤ c
 hello : 0 ≤ t.hello ∧ t.hello ≤ c
 delay : 0 ≤ t.delay ∧ t.delay ≤ c
theorem Upt.mono {c d : Int} {t : Times} (h : Upt c t) (hc : c ≤ d) : Upt d t := ⟨by have := h.age; omega, by have := h.max; omega, by have := h.hello; omega, by have := h.delay; omega⟩
def lawT : Times := ⟨0, 20, 2, 15⟩
structure BInv (n : Nat) (b : Bri) : Prop where
 id : b.id = 7
 times : b.times = lawT
 hold : b.hold = 6
 rp : -1 ≤ b.rootPort ∧ b.rootPort < n
 rt : Upt 257 b.rootT
structure SInv (st : States) : Prop where
 rx : 0 ≤ st.rx ∧ st.rx ≤ 1
 mig : 0 ≤ st.mig ∧ st.mig ≤ 2
 edge : 0 ≤ st.edge ∧ st.edge ≤ 1
 info : 0 ≤ st.info ∧ st.info ≤ 2
 trans : 0 ≤ st.trans ∧ st.trans ≤ 5
 pass : 0 ≤ st.pass ∧ st.pass ≤ 2
 topo : 0 ≤ st.topo ∧ st.topo ≤ 2
structure CInv (c : Clocks) : Prop where
 ed : 0 ≤ c.edgeDelay ∧ c.edgeDelay ≤ 1000
 fd : 0 ≤ c.fd ∧ c.fd ≤ 1000
 hello : 0 ≤ c.hello ∧ c.hello ≤ 1000
 md : 0 ≤ c.mdelay ∧ c.mdelay ≤ 1000
 rb : 0 ≤ c.rb ∧ c.rb ≤ 1000
 ri : 0 ≤ c.rcvdInfo ∧ c.rcvdInfo ≤ 1000
 rr : 0 ≤ c.rr ∧ c.rr ≤ 1000
 tc : 0 ≤ c.tc ∧ c.tc ≤ 1000
 tx : 0 ≤ c.txCount ∧ c.txCount ≤ 6
structure PInv (b : Bri) (k : Nat) (p : Port) : Prop where
 role : 0 ≤ p.role ∧ p.role ≤ 4
 sel : 0 ≤ p.selected ∧ p.selected ≤ 4
 is_ : 0 ≤ p.is_ ∧ p.is_ ≤ 3
 st : SInv p.states
 ck : CInv p.clocks
 tr : (p.states.trans = 0 ∨ p.states.trans = 1 → p.role = 0) ∧ (p.states.trans = 4 ∨ p.states.trans = 5 → p.role = 1 ∨ p.role = 2) ∧ (p.states.trans = 2 → p.role = 3) ∧ (p.states.trans = 3 → p.role = 4)
 lf : p.states.trans ≠ 2 → p.states.trans ≠ 3 → p.flags.learn = false ∧ p.flags.forward = false
 pass : (p.states.pass = 0 → p.flags.learning = false ∧ p.flags.forwarding = false) ∧ (p.states.pass = 1 → p.flags.forwarding = false)
 inf : (p.states.info = 0 ↔ p.is_ = 0) ∧ (p.states.info = 1 ↔ p.is_ = 1)
 is0 : p.is_ = 0 → p.flags.selected = true → p.selected = 0
 is1 : p.is_ ≠ 0 → p.flags.selected = true → p.selected ≠ 0
 rt : p.selected = 3 → b.rootPort = k
 rs : p.flags.selected = !p.flags.reselect
 i1 : p.states.info = 1 → p.flags.reselect = true ∨ p.flags.updtInfo = true
 t1 : Upt 257 p.times
 t2 : Upt 257 p.desTimes
 t3 : Upt 256 p.msg.times
 t4 : p.is_ = 3 → Upt 256 p.times
theorem rx_inv {b : Bri} {k : Nat} {p : Port} (h : PInv b k p) : PInv b k ((rxT b p).get (p, false)).1 := by
 have h1 : PInv b k (discardP p) := { h with st := { h.st with rx := of_decide_eq_true rfl }, ck := { h.ck with ed := of_decide_eq_true rfl } }
 have h2 : ∀ q : Port, PInv b k q → PInv b k (receiveP q) := fun q h => { h with st := { h.st with rx := of_decide_eq_true rfl }, ck := { h.ck with ed := of_decide_eq_true rfl } }
 have h3 : PInv b k ((receiveT p).get (p, false)).1 := by
   simp only [receiveT, Out.get]
   split
   · exact h2 _ { h with }
   · exact h2 _ { h with }
 simp only [rxT, Out.get]
 split
 · exact h1
 · split
   · exact h3
   · split
     · exact h3
     · exact h
theorem mig_inv {b : Bri} {k : Nat} {p : Port} (h : PInv b k p) : PInv b k ((migT b p).get (p, false)).1 := by
 have h1 : PInv b k (senseP p) := { h with st := { h.st with mig := of_decide_eq_true rfl } }
 have h2 : PInv b k (checkP b.rst p) := { h with st := { h.st with mig := of_decide_eq_true rfl }, ck := { h.ck with md := of_decide_eq_true rfl } }
 have h3 : PInv b k (chooseP p) := { h with st := { h.st with mig := of_decide_eq_true rfl }, ck := { h.ck with md := of_decide_eq_true rfl } }
 simp only [migT, Out.get]
 repeat' split
 all_goals first | exact h1 | exact h2 | exact h3 | exact h
theorem edge_inv {b : Bri} {k : Nat} {p : Port} (h : PInv b k p) : PInv b k ((edgeT b p).get (p, false)).1 := by
 have h1 : PInv b k (edgeP p 1 false) := { h with st := { h.st with edge := of_decide_eq_true rfl } }
 have h2 : PInv b k (edgeP p 0 true) := { h with st := { h.st with edge := of_decide_eq_true rfl } }
 simp only [edgeT, Out.get]
 repeat' split
 all_goals first | exact h1 | exact h2 | exact h
theorem pass_inv {b : Bri} {k : Nat} {p : Port} (h : PInv b k p) : PInv b k ((passT b p).get (p, false)).1 := by
 simp only [passT, Out.get]
 split
 · rename_i hc
   simp only [Bool.and_eq_true, beq_iff_eq] at hc
   exact { h with st := { h.st with pass := of_decide_eq_true rfl }, pass := ⟨fun e => absurd e (of_decide_eq_false rfl), fun _ => (h.pass.1 hc.1).2⟩ }
 · split
   · exact { h with st := { h.st with pass := of_decide_eq_true rfl }, pass := ⟨fun _ => ⟨rfl, rfl⟩, fun e => absurd e (of_decide_eq_false rfl)⟩ }
   · split
     · exact { h with st := { h.st with pass := of_decide_eq_true rfl }, pass := ⟨fun e => absurd e (of_decide_eq_false rfl), fun e => absurd e (of_decide_eq_false rfl)⟩ }
     · split
       · exact { h with st := { h.st with pass := of_decide_eq_true rfl }, pass := ⟨fun _ => ⟨rfl, rfl⟩, fun e => absurd e (of_decide_eq_false rfl)⟩ }
       · exact h
theorem waits_le {t : Times} (h : Upt 256 t) : 0 ≤ waitsI t ∧ waitsI t ≤ 1000 := by
 have h1 := h.hello
 unfold waitsI
 split
 · omega
 · rw [wrap_small (by omega) (by omega)]
   omega
theorem again_inv {b : Bri} {k : Nat} {p : Port} {i st : Int} (h : PInv b k p) (hi : 0 ≤ i ∧ i ≤ 3) (hst : 0 ≤ st ∧ st ≤ 2) (hinf : (st = 0 ↔ i = 0) ∧ (st = 1 ↔ i = 1)) (h4 : i = 3 → Upt 256 p.times) : PInv b k (againP p i st) :=
 { h with is_ := hi, st := { h.st with info := hst }, inf := hinf, is0 := fun _ e => (by cases e), is1 := fun _ e => (by cases e), rs := rfl, i1 := fun _ => .inl rfl, t4 := h4 }
theorem disable_inv {b : Bri} {k : Nat} {p : Port} (h : PInv b k p) : PInv b k (disableP p) := by
 unfold disableP
 refine again_inv { h with ck := { h.ck with ri := of_decide_eq_true rfl } } (of_decide_eq_true rfl) (of_decide_eq_true rfl) (of_decide_eq_true rfl) (fun e => absurd e (of_decide_eq_false rfl))
theorem age_inv {b : Bri} {k : Nat} {p : Port} (h : PInv b k p) : PInv b k (ageP p) := again_inv h (of_decide_eq_true rfl) (of_decide_eq_true rfl) (of_decide_eq_true rfl) (fun e => absurd e (of_decide_eq_false rfl))
theorem update_inv {b : Bri} {k : Nat} {p : Port} (h : PInv b k p) (h1 : p.is_ ≠ 0) : PInv b k (updateP p) :=
 { h with is_ := of_decide_eq_true rfl, st := { h.st with info := of_decide_eq_true rfl }, inf := ⟨of_decide_eq_true rfl, of_decide_eq_true rfl⟩, is0 := fun e => absurd e (of_decide_eq_false rfl), is1 := fun _ e => h.is1 h1 e, i1 := fun e => absurd e (of_decide_eq_false rfl), t1 := h.t2, t4 := fun e => absurd e (of_decide_eq_false rfl) }
theorem superior_inv {b : Bri} {k : Nat} {p : Port} {r : Bool} (h : PInv b k p) : PInv b k (superiorP r p) := by
 unfold superiorP
 have e1 : PInv b k (supA p) := { h with }
 have e2 : PInv b k (supB (supA p)) := { e1 with }
 have e3 : PInv b k (agreementP r (supB (supA p))) := { e2 with }
 have e4 : PInv b k (supC (agreementP r (supB (supA p)))) := { e3 with ck := { e3.ck with ri := waits_le e3.t3 }, t1 := e3.t3.mono (by decide), t4 := fun _ => e3.t3 }
 exact again_inv e4 (of_decide_eq_true rfl) (of_decide_eq_true rfl) (of_decide_eq_true rfl) (fun _ => h.t3)
theorem hear_inv {b : Bri} {k : Nat} {p : Port} {r : Bool} (h : PInv b k p) : PInv b k (hearP r p) := by
 unfold hearP
 split
 · exact superior_inv h
 · split
   · exact { h with ck := { h.ck with ri := waits_le h.t3 } }
   · split
     · split
       · exact { h with }
       · exact h
     · split
       · exact { h with }
       · exact { h with }
theorem info_inv {b : Bri} {k : Nat} {p : Port} (h : PInv b k p) : PInv b k (infoF b p).1 := by
 unfold infoF
 have hne : ∀ c : Int, c ≠ 0 → (p.states.info == c && toldP p) = true → p.is_ ≠ 0 := by
   intro c hc hh e
   simp only [Bool.and_eq_true, beq_iff_eq] at hh
   exact hc (by rw [← hh.1]; exact h.inf.1.2 e)
 split
 · exact disable_inv h
 · split
   · exact disable_inv h
   · split
     · exact age_inv h
     · split
       · rename_i hh; exact update_inv h (hne 1 (by decide) hh)
       · split
         · rename_i hh; exact update_inv h (hne 2 (by decide) hh)
         · split
           · exact h
           · split
             · exact age_inv h
             · split
               · exact { hear_inv (r := b.rst) h with }
               · exact h
theorem pick_app : ∀ (l r : List (Bool × TrR)), pick (l ++ r) = if l.any (·.1) = true then pick l else pick r
 | [], r => by simp
 | (c, x) :: l, r => by
   have := pick_app l r
   cases c with
   | true => simp [pick]
   | false =>
     show pick (l ++ r) = if (l.any (·.1)) = true then pick l else pick r
     exact this
theorem pick_cases {P : TrR → Prop} : ∀ {l : List (Bool × TrR)}, P .no → (∀ x, (true, x) ∈ l → P x) → P (pick l)
 | [], h0, _ => h0
 | (c, x) :: l, h0, h => by
   cases c with
   | true => exact h x List.mem_cons_self
   | false => exact pick_cases (l := l) h0 fun y hy => h y (List.mem_cons_of_mem _ hy)
theorem pick_any {P : TrR → Prop} : ∀ {l : List (Bool × TrR)}, l.any (·.1) = true → (∀ x, (true, x) ∈ l → P x) → P (pick l)
 | [], h0, _ => by simp at h0
 | (c, x) :: l, h0, h => by
   cases c with
   | true => exact h x List.mem_cons_self
   | false => exact pick_any (l := l) (by simpa using h0) fun y hy => h y (List.mem_cons_of_mem _ hy)
theorem trR_cases {P : TrR → Prop} {b : Bri} {ps : List Port} {k : Int} {p : Port} (h0 : P .no) (h1 : p.flags.selected = true → p.flags.updtInfo = false → ∀ x, (true, x) ∈ rolesL b p → P x)
   (h2 : p.flags.selected = true → p.flags.updtInfo = false → (rolesL b p).any (·.1) = false → ∀ x, (true, x) ∈ statesL (stE p) b ps k p → P x) : P (trR b ps k p) := by
 unfold trR
 split
 · exact h0
 · rename_i hb
   have hs : p.flags.selected = true ∧ p.flags.updtInfo = false := by
     cases h3 : p.flags.selected <;> cases h4 : p.flags.updtInfo <;> simp_all
   rw [pick_app]
   split
   · rename_i ha; exact pick_any ha (h1 hs.1 hs.2)
   · rename_i ha
     exact pick_cases h0 (h2 hs.1 hs.2 (by simpa using ha))
theorem roles_eq {b : Bri} {k : Nat} {p : Port} (h : PInv b k p) (ha : (rolesL b p).any (·.1) = false) : p.role = p.selected := by
 simp only [rolesL, List.any_cons, List.any_nil, Bool.or_false, Bool.or_eq_false_iff, Bool.and_eq_false_iff, bne_eq_false_iff_eq, beq_eq_false_iff_ne, ne_eq] at ha
 have := h.sel
 omega
theorem stE_trans {p : Port} {e : Nat} (h : stE p = e) (he : e < 6) : p.states.trans = e := by
 unfold stE at h
 repeat' split at h
 all_goals omega
def TrOk (b : Bri) (k : Nat) (p : Port) : TrR → Prop
 | .one q => PInv b k q
 | .oneT q => PInv b k q
 | _ => True
theorem fwd_le {b : Bri} {p : Port} (hb : b.times = lawT) : 0 ≤ fwdI b p ∧ fwdI b p ≤ 1000 := by
 unfold fwdI
 rw [hb]
 split <;> decide
theorem ed_le {b : Bri} {p : Port} (hb : b.times = lawT) : 0 ≤ edI b p ∧ edI b p ≤ 1000 := by
 unfold edI
 rw [hb]
 split <;> decide
theorem rest_inv {b : Bri} {k : Nat} {p : Port} {e fd : Int} (h : PInv b k p) (he : 0 ≤ e ∧ e ≤ 5) (hf : 0 ≤ fd ∧ fd ≤ 1000) (htr : (e = 0 ∨ e = 1 → p.role = 0) ∧ (e = 4 ∨ e = 5 → p.role = 1 ∨ p.role = 2) ∧ (e = 2 → p.role = 3) ∧ (e = 3 → p.role = 4))
   (hlf : p.flags.learn = false ∧ p.flags.forward = false) : PInv b k (restP p e fd) :=
 { h with st := { h.st with trans := he }, ck := { h.ck with fd := hf, rr := of_decide_eq_true rfl }, tr := htr, lf := fun _ _ => hlf }
theorem enter_inv {b : Bri} {k : Nat} {p : Port} (hb : b.times = lawT) (h : PInv b k p) : ∀ x, (true, x) ∈ rolesL b p → TrOk b k p x := by
 intro x hx
 simp only [rolesL, List.mem_cons, List.not_mem_nil, or_false, Prod.mk.injEq] at hx
 rcases hx with ⟨hc, rfl⟩ | ⟨hc, rfl⟩ | ⟨hc, rfl⟩ | ⟨hc, rfl⟩
 · replace hc := hc.symm
   simp only [Bool.and_eq_true, bne_iff_ne, beq_iff_eq] at hc
   exact { h with role := h.sel, st := { h.st with trans := of_decide_eq_true rfl }, tr := ⟨fun _ => hc.2, fun e => absurd e (of_decide_eq_false rfl), fun e => absurd e (of_decide_eq_false rfl), fun e => absurd e (of_decide_eq_false rfl)⟩, lf := fun _ _ => ⟨rfl, rfl⟩ }
 · replace hc := hc.symm
   simp only [Bool.and_eq_true, bne_iff_ne, beq_iff_eq] at hc
   exact { h with role := h.sel, st := { h.st with trans := of_decide_eq_true rfl }, ck := { h.ck with rr := (by show 0 ≤ b.times.delay ∧ b.times.delay ≤ 1000; rw [hb]; exact of_decide_eq_true rfl) }, tr := ⟨fun e => absurd e (of_decide_eq_false rfl), fun e => absurd e (of_decide_eq_false rfl), fun _ => hc.2, fun e => absurd e (of_decide_eq_false rfl)⟩, lf := fun e => absurd rfl e }
 · replace hc := hc.symm
   simp only [Bool.and_eq_true, bne_iff_ne, beq_iff_eq] at hc
   exact { h with role := h.sel, st := { h.st with trans := of_decide_eq_true rfl }, tr := ⟨fun e => absurd e (of_decide_eq_false rfl), fun e => absurd e (of_decide_eq_false rfl), fun e => absurd e (of_decide_eq_false rfl), fun _ => hc.2⟩, lf := fun _ e => absurd rfl e }
 · replace hc := hc.symm
   simp only [Bool.and_eq_true, bne_iff_ne, beq_iff_eq, Bool.or_eq_true] at hc
   exact { h with role := h.sel, st := { h.st with trans := of_decide_eq_true rfl }, tr := ⟨fun e => absurd e (of_decide_eq_false rfl), fun _ => hc.2, fun e => absurd e (of_decide_eq_false rfl), fun e => absurd e (of_decide_eq_false rfl)⟩, lf := fun _ _ => ⟨rfl, rfl⟩ }
theorem states_inv {b : Bri} {ps : List Port} {k : Nat} {p : Port} (hb : b.times = lawT) (h : PInv b k p) : ∀ x, (true, x) ∈ statesL (stE p) b ps k p → TrOk b k p x := by
 intro x hx
 have hf := fwd_le (b := b) (p := p) hb
 have he := ed_le (b := b) (p := p) hb
 have h20 : 0 ≤ b.times.max ∧ b.times.max ≤ 1000 := by rw [hb]; decide
 have h15 : 0 ≤ b.times.delay ∧ b.times.delay ≤ 1000 := by rw [hb]; decide
 have h4 : 0 ≤ IntKind.i64.wrap (2 * b.times.hello) ∧ IntKind.i64.wrap (2 * b.times.hello) ≤ 1000 := by rw [hb]; decide
 cases hs : stE p with
 | zero =>
   have ht := stE_trans hs (by decide)
   rw [hs] at hx
   simp only [statesL, List.mem_cons, List.not_mem_nil, or_false, Prod.mk.injEq] at hx
   obtain ⟨_, rfl⟩ := hx
   exact rest_inv h (of_decide_eq_true rfl) h20 ⟨fun _ => h.tr.1 (.inl ht), fun e => absurd e (of_decide_eq_false rfl), fun e => absurd e (of_decide_eq_false rfl), fun e => absurd e (of_decide_eq_false rfl)⟩ (h.lf (by omega) (by omega))
 | succ e =>
   rw [hs] at hx
   match e, hs, hx with
   | 0, hs, hx =>
     have ht := stE_trans hs (by decide)
     simp only [statesL, List.mem_cons, List.not_mem_nil, or_false, Prod.mk.injEq] at hx
     obtain ⟨_, rfl⟩ := hx
     exact rest_inv h (of_decide_eq_true rfl) h20 ⟨fun _ => h.tr.1 (.inr ht), fun e => absurd e (of_decide_eq_false rfl), fun e => absurd e (of_decide_eq_false rfl), fun e => absurd e (of_decide_eq_false rfl)⟩ (h.lf (by omega) (by omega))
   | 1, hs, hx =>
     have ht : p.states.trans = 2 := stE_trans hs (by decide)
     have hl : ∀ q : Port, q.states = p.states → (q.states.trans ≠ 2 → q.states.trans ≠ 3 → q.flags.learn = false ∧ q.flags.forward = false) := fun q e h1 => absurd (by rw [e]; exact ht) h1
     simp only [statesL, trRootL, setsL, List.mem_cons, List.mem_append, List.not_mem_nil, or_false, Prod.mk.injEq] at hx
     rcases hx with (⟨_, rfl⟩ | ⟨_, rfl⟩) | ⟨_, rfl⟩ | ⟨_, rfl⟩ | ⟨_, rfl⟩ | ⟨_, rfl⟩ | ⟨_, rfl⟩
     · trivial
     · exact { h with }
     · trivial
     · exact { h with ck := { h.ck with fd := hf }, lf := hl _ rfl }
     · exact { h with ck := { h.ck with fd := of_decide_eq_true rfl }, lf := hl _ rfl }
     · exact { h with }
     · exact { h with ck := { h.ck with rr := h15 } }
   | 2, hs, hx =>
     have ht : p.states.trans = 3 := stE_trans hs (by decide)
     have hl : ∀ q : Port, q.states = p.states → (q.states.trans ≠ 2 → q.states.trans ≠ 3 → q.flags.learn = false ∧ q.flags.forward = false) := fun q e _ h1 => absurd (by rw [e]; exact ht) h1
     simp only [statesL, desL, List.mem_cons, List.not_mem_nil, or_false, Prod.mk.injEq] at hx
     rcases hx with ⟨_, rfl⟩ | ⟨_, rfl⟩ | ⟨_, rfl⟩ | ⟨_, rfl⟩ | ⟨_, rfl⟩ | ⟨_, rfl⟩
     · exact { h with ck := { h.ck with ed := he } }
     · exact { h with ck := { h.ck with rr := of_decide_eq_true rfl } }
     · exact { h with }
     · exact { h with ck := { h.ck with fd := hf }, lf := hl _ rfl }
     · exact { h with ck := { h.ck with fd := hf }, lf := hl _ rfl }
     · exact { h with ck := { h.ck with fd := of_decide_eq_true rfl }, lf := hl _ rfl }
   | 3, hs, hx =>
     have ht : p.states.trans = 4 := stE_trans hs (by decide)
     simp only [statesL, List.mem_cons, List.not_mem_nil, or_false, Prod.mk.injEq] at hx
     obtain ⟨_, rfl⟩ := hx
     exact rest_inv h (of_decide_eq_true rfl) hf ⟨fun e => absurd e (of_decide_eq_false rfl), fun _ => h.tr.2.1 (.inl ht), fun e => absurd e (of_decide_eq_false rfl), fun e => absurd e (of_decide_eq_false rfl)⟩ (h.lf (by omega) (by omega))
   | 4, hs, hx =>
     have ht : p.states.trans = 5 := stE_trans hs (by decide)
     simp only [statesL, altL, setsL, List.mem_cons, List.mem_append, List.not_mem_nil, or_false, Prod.mk.injEq] at hx
     rcases hx with (⟨_, rfl⟩ | ⟨_, rfl⟩) | ⟨_, rfl⟩ | ⟨_, rfl⟩
     · trivial
     · exact { h with }
     · exact { h with ck := { h.ck with rb := h4 } }
     · exact rest_inv h (of_decide_eq_true rfl) hf ⟨fun e => absurd e (of_decide_eq_false rfl), fun _ => h.tr.2.1 (.inr ht), fun e => absurd e (of_decide_eq_false rfl), fun e => absurd e (of_decide_eq_false rfl)⟩ (h.lf (by omega) (by omega))
   | n + 5, hs, hx =>
     simp only [statesL, List.not_mem_nil] at hx
theorem trR_inv {b : Bri} {ps : List Port} {k : Nat} {p : Port} (hb : b.times = lawT) (h : PInv b k p) : TrOk b k p (trR b ps k p) :=
 trR_cases trivial (fun _ _ => enter_inv hb h) (fun _ _ _ => states_inv hb h)
theorem syU_inv {b : Bri} {k i : Nat} {p : Port} (h : PInv b k p) : PInv b k (syU i p) := { h with }
theorem rrU_inv {b : Bri} {k i : Nat} {p : Port} (h : PInv b k p) : PInv b k (rrU i p) := { h with }
def ToOk (b : Bri) (k : Nat) : ToR → Prop
 | .one q => PInv b k q
 | .told q => PInv b k q
 | .both q => PInv b k q
 | _ => True
theorem clears_inv {b : Bri} {k : Nat} {p : Port} (h : PInv b k p) : PInv b k (clearsP p) := { h with st := { h.st with topo := of_decide_eq_true rfl } }
theorem beg_inv {b : Bri} {k : Nat} {p : Port} {f : Port → ToR} (hb : b.times = lawT) (h : PInv b k p) (hf : ∀ q, PInv b k q → ToOk b k (f q)) : ToOk b k (begT b p f).get := by
 simp only [begT, ToT.get]
 split
 · exact hf _ h
 · split
   · exact hf _ { h with ck := { h.ck with tc := by show 0 ≤ IntKind.i64.wrap (b.times.hello + 1) ∧ IntKind.i64.wrap (b.times.hello + 1) ≤ 1000; rw [hb]; decide } }
   · exact hf _ { h with ck := { h.ck with tc := by show 0 ≤ IntKind.i64.wrap (b.times.max + b.times.delay) ∧ IntKind.i64.wrap (b.times.max + b.times.delay) ≤ 1000; rw [hb]; decide } }
theorem toT_inv {b : Bri} {k : Nat} {p : Port} (hb : b.times = lawT) (h : PInv b k p) : ToOk b k (toT b p).get := by
 simp only [toT, ToT.get]
 split
 · trivial
 · split
   · exact clears_inv h
   · split
     · split
       · exact beg_inv hb h fun q hq => hq
       · split
         · exact { h with st := { h.st with topo := of_decide_eq_true rfl }, ck := { h.ck with tc := of_decide_eq_true rfl } }
         · split
           · exact clears_inv h
           · trivial
     · split
       · split
         · exact clears_inv h
         · split
           · exact beg_inv hb h fun q hq => { hq with }
           · split
             · exact { h with }
             · split
               · exact beg_inv hb h fun q hq => { hq with }
               · split
                 · exact { h with ck := { h.ck with tc := of_decide_eq_true rfl } }
                 · trivial
       · trivial
def TxOk (b : Bri) (k : Nat) (p : Port) : TxR → Prop
 | .no => True
 | .one q => PInv b k q
 | .send ack _ => PInv b k (txSent b p ack)
theorem txPick_inv {b : Bri} {k : Nat} {p : Port} {m a : Bool} {d : Sent} (hb : b.times = lawT) (hh : b.hold = 6) (h : PInv b k p) : TxOk b k p (txPick b p m a d) := by
 have h2 : 0 ≤ b.times.hello ∧ b.times.hello ≤ 1000 := by rw [hb]; decide
 unfold txPick
 split
 · trivial
 · split
   · exact { h with ck := { h.ck with hello := h2 } }
   · split
     · trivial
     · rename_i hc
       simp only [Bool.or_eq_true, decide_eq_true_eq, not_or, hh] at hc
       have := h.ck.tx
       refine { h with ck := { h.ck with hello := h2, tx := ?_ } }
       show 0 ≤ IntKind.i64.wrap (p.clocks.txCount + 1) ∧ IntKind.i64.wrap (p.clocks.txCount + 1) ≤ 6
       rw [wrap_small (by omega) (by omega)]
       omega
theorem txR_inv {b : Bri} {k : Nat} {p : Port} (hb : b.times = lawT) (hh : b.hold = 6) (h : PInv b k p) : TxOk b k p (txR b k p) := by
 unfold txR
 split
 · exact txPick_inv hb hh h
 · split
   · exact txPick_inv hb hh h
   · exact txPick_inv hb hh h
end
section
open Go Go.RowKit
def noProp (p : Port) : Port := { p with flags := { p.flags with proposed := false } }
def trAt (s : BS) (k j : Nat) : TrR → Port
 | .no => ptAt s j
 | .one q => if j = k then q else ptAt s j
 | .oneT q => if j = k then q else ptAt s j
 | .syncs => if j = k then noProp (syU 0 (ptAt s k)) else syU 0 (ptAt s j)
 | .reRoots => rrU 0 (ptAt s j)
theorem trans_at (s : BS) (k j : Nat) (hk : k < s.ps.length) (hj : j < s.ps.length) : ptAt (transM s k).1 j = trAt s k j (trR s.b s.ps k (ptAt s k)) := by
 show (transF s.b s.ps (k : Int)).1.getD j Port.dflt = _
 unfold transF
 rw [show ((k : Int).toNat) = k from rfl, show s.ps.getD k Port.dflt = ptAt s k from rfl]
 cases trR s.b s.ps k (ptAt s k) with
 | no => rfl
 | one q => exact getD_set hk
 | oneT q => exact getD_set hk
 | syncs =>
   show (syncsF (k : Int) s.ps).getD j Port.dflt = _
   unfold syncsF
   rw [getD_set (by rw [mapI_length]; exact hk), mapI_getD _ _ _ _ hj]
   rfl
 | reRoots =>
   show (reRootsF (k : Int) s.ps).getD j Port.dflt = _
   unfold reRootsF
   rw [mapI_getD _ _ _ _ hj]
   rfl
def tcP (p : Port) : Port := { p with flags := { p.flags with tcProp := true } }
def toAt (s : BS) (k j : Nat) : ToR → Port
 | .no => ptAt s j
 | .one q => if j = k then q else ptAt s j
 | .told q => if j = k then q else tcP (ptAt s j)
 | .both q => if j = k then activeP (newsP q) else tcP (ptAt s j)
 | .flush => if j = k then { ptAt s k with flags := { (ptAt s k).flags with flush := false } } else ptAt s j
theorem toldF_at {l : List Port} {k j : Nat} {q : Port} (hk : k < l.length) (hj : j < l.length) : (toldF (k : Int) (l.set k q)).getD j Port.dflt = if j = k then q else tcP (l.getD j Port.dflt) := by
 unfold toldF
 rw [mapI_getD _ _ _ _ (by rw [List.length_set]; exact hj), getD_set hk]
 unfold otU
 by_cases h : j = k
 · subst h; simp
 · rw [if_neg h, if_neg h, if_pos (by simp; omega)]
   rfl
theorem topo_at (s : BS) (k j : Nat) (hk : k < s.ps.length) (hj : j < s.ps.length) : ptAt (topoF s k).1 j = toAt s k j (toT s.b (ptAt s k)).get := by
 unfold topoF
 rw [show ((k : Int).toNat) = k from rfl, show s.ps.getD k Port.dflt = ptAt s k from rfl]
 cases (toT s.b (ptAt s k)).get with
 | no => rfl
 | one q => exact getD_set hk
 | told q => exact toldF_at hk hj
 | both q =>
   show (modI (k : Int) activeP (modI (k : Int) newsP (toldF (k : Int) (s.ps.set k q)))).getD j Port.dflt = _
   unfold modI
   have hl : (toldF (k : Int) (s.ps.set k q)).length = s.ps.length := by rw [toldF_length, List.length_set]
   rw [show ((k : Int).toNat) = k from rfl, getD_set (by rw [List.length_set, hl]; exact hk), getD_set (by rw [hl]; exact hk), getD_set (by rw [hl]; exact hk), toldF_at hk hj, toldF_at hk hk]
   simp only [toAt, if_true]
   by_cases h : j = k
   · simp [h]
   · simp [h]; rfl
 | flush => exact getD_set hk
def txAt (s : BS) (k j : Nat) : TxR → Port
 | .no => ptAt s j
 | .one q => if j = k then q else ptAt s j
 | .send a _ => if j = k then txSent s.b (ptAt s k) a else ptAt s j
theorem tx_at (s : BS) (k j : Nat) (hk : k < s.ps.length) : ptAt (txF s k).1 j = txAt s k j (txR s.b k (ptAt s k)) := by
 unfold txF
 rw [show ((k : Int).toNat) = k from rfl, show s.ps.getD k Port.dflt = ptAt s k from rfl]
 cases txR s.b k (ptAt s k) with
 | no => rfl
 | one q => exact getD_set hk
 | send a d => exact getD_set hk
theorem topo_b (s : BS) (k : Int) : (topoF s k).1.b = s.b := by
 unfold topoF
 cases (toT s.b (s.ps.getD k.toNat Port.dflt)).get <;> rfl
theorem tx_b (s : BS) (k : Int) : (txF s k).1.b = s.b := by
 unfold txF
 cases txR s.b k (s.ps.getD k.toNat Port.dflt) <;> rfl
theorem mach_b (i : Nat) (s : BS) (k : Int) : (mach i s k).1.b = s.b := by
 match i with
 | 0 | 1 | 2 | 3 | 4 | 5 => rfl
 | 6 => exact topo_b s k
 | n + 7 => exact tx_b s k
theorem mach_all {P : Nat → Port → Prop} {s : BS} {n : Nat} (hn : s.ps.length = n) {i k : Nat} (hi : i < 8) (hk : k < n) (h : ∀ j, j < n → P j (ptAt s j))
   (h0 : P k (ptAt s k) → P k ((rxT s.b (ptAt s k)).get (ptAt s k, false)).1) (h1 : P k (ptAt s k) → P k ((migT s.b (ptAt s k)).get (ptAt s k, false)).1) (h2 : P k (ptAt s k) → P k ((edgeT s.b (ptAt s k)).get (ptAt s k, false)).1)
   (h3 : P k (ptAt s k) → P k (infoF s.b (ptAt s k)).1) (h4 : P k (ptAt s k) → ∀ j, j < n → P j (trAt s k j (trR s.b s.ps k (ptAt s k)))) (h5 : P k (ptAt s k) → P k ((passT s.b (ptAt s k)).get (ptAt s k, false)).1)
   (h6 : P k (ptAt s k) → ∀ j, j < n → P j (toAt s k j (toT s.b (ptAt s k)).get)) (h7 : P k (ptAt s k) → ∀ j, j < n → P j (txAt s k j (txR s.b k (ptAt s k)))) : ∀ j, j < n → P j (ptAt (mach i s k).1 j) := by
 have hkn : k < s.ps.length := by omega
 have loc : ∀ (F : Bri → Port → Port × Bool), P k (F s.b (ptAt s k)).1 → ∀ j, j < n → P j (ptAt (ofP F s k).1 j) := by
   intro F hF j hj
   rw [ofP_at F s k j hkn]
   split
   · rename_i e; rw [e]; exact hF
   · exact h j hj
 match i, hi with
 | 0, _ => exact loc _ (h0 (h k hk))
 | 1, _ => exact loc _ (h1 (h k hk))
 | 2, _ => exact loc _ (h2 (h k hk))
 | 3, _ => exact loc _ (h3 (h k hk))
 | 4, _ => intro j hj; show P j (ptAt (transM s k).1 j); rw [trans_at s k j hkn (by omega)]; exact h4 (h k hk) j hj
 | 5, _ => exact loc _ (h5 (h k hk))
 | 6, _ => intro j hj; show P j (ptAt (topoF s k).1 j); rw [topo_at s k j hkn (by omega)]; exact h6 (h k hk) j hj
 | 7, _ => intro j hj; show P j (ptAt (txF s k).1 j); rw [tx_at s k j hkn]; exact h7 (h k hk) j hj
theorem sel_yes {s : BS} (h : s.ps.any askP = true) : (selF s).1 = { s with b := stepB s.b s.ps, ps := mapI (stepP (stepB s.b s.ps)) s.ps 0 } := by unfold selF; rw [if_pos h]
theorem sel_no {s : BS} (h : ¬ s.ps.any askP = true) : (selF s).1 = s := by unfold selF; rw [if_neg h]
theorem sel_at {s : BS} (h : s.ps.any askP = true) (j : Nat) (hj : j < s.ps.length) : ptAt (selF s).1 j = stepP (stepB s.b s.ps) j (ptAt s j) := by
 rw [sel_yes h]
 show (mapI _ s.ps 0).getD j Port.dflt = _
 rw [mapI_getD _ _ _ _ hj, Nat.zero_add]
 rfl
theorem rootL_is (id : Int) : ∀ (r : List Port) (i : Nat) (x : Vec × Int) (full : List Port), full.drop i = r → (x.2 ≥ 0 → (full.getD x.2.toNat Port.dflt).is_ = 3) → ((rootL id r i x).2 ≥ 0 → (full.getD (rootL id r i x).2.toNat Port.dflt).is_ = 3)
 | [], i, x, full, _, h => h
 | p :: r, i, x, full, hd, h => by
   rw [rootL]
   have hp : full.getD i Port.dflt = p := by
     have := congrArg (fun l => l[0]?) hd
     simp only [List.getElem?_drop, List.getElem?_cons_zero, Nat.add_zero] at this
     rw [List.getD_eq_getElem?_getD, this]; rfl
   refine rootL_is id r (i + 1) _ full (by rw [← List.tail_drop, hd]; rfl) ?_
   unfold rootStep
   split
   · exact h
   · rename_i hc
     split
     · intro _
       show (full.getD ((i : Int).toNat) Port.dflt).is_ = 3
       rw [show ((i : Int).toNat) = i from rfl, hp]
       simp only [Bool.or_eq_true, bne_iff_ne, ne_eq, not_or, Classical.not_not] at hc
       exact hc.1
     · exact h
theorem rootF_is (id : Int) (ps : List Port) (h : (rootF id ps).2 ≥ 0) : (ps.getD (rootF id ps).2.toNat Port.dflt).is_ = 3 := rootL_is id ps 0 _ ps rfl (fun h => absurd h (of_decide_eq_false rfl)) h
theorem stepP_inv {b b' : Bri} {k : Nat} {p : Port} (h : PInv b k p) (ht : Upt 257 b'.rootT) (hT : b'.times = lawT) : PInv b' k (stepP b' k p) := by
 have h2 : Upt 257 (baseP b' p).desTimes := ⟨ht.age, ht.max, by show 0 ≤ b'.times.hello ∧ b'.times.hello ≤ 257; rw [hT]; decide, ht.delay⟩
 have i1 : p.states.info = 1 → p.is_ = 1 := h.inf.2.1
 -- one port with a role, and whether it is to update
 have key : ∀ (r : Int) (u : Bool), (0 ≤ r ∧ r ≤ 4) → (p.is_ = 0 → r = 0) → (p.is_ ≠ 0 → r ≠ 0) → (r = 3 → b'.rootPort = k) → (p.is_ = 1 → u = true) → PInv b' k { baseP b' p with selected := r, flags := { (baseP b' p).flags with updtInfo := u } } :=
   fun r u h1 h3 h4 h5 h6 => { role := h.role, sel := h1, is_ := h.is_, st := h.st, ck := h.ck, tr := h.tr, lf := h.lf, pass := h.pass, inf := h.inf, is0 := fun e _ => h3 e, is1 := fun e _ => h4 e, rt := h5, rs := rfl, i1 := fun e => .inr (h6 (i1 e)), t1 := h.t1, t2 := h2, t3 := h.t3, t4 := h.t4 }
 unfold stepP roleF
 rw [show (baseP b' p).is_ = p.is_ from rfl]
 split
 · rename_i e
   have e : p.is_ = 0 := by simpa using e
   exact key 0 p.flags.updtInfo (by decide) (fun _ => rfl) (fun h => absurd e h) (fun h => absurd h (by decide)) (fun h => by omega)
 · rename_i e0
   have e0 : p.is_ ≠ 0 := by simpa using e0
   split
   · rename_i e
     simp only [Bool.and_eq_true, beq_iff_eq] at e
     exact key 3 false (by decide) (fun h => absurd h e0) (fun _ => by decide) (fun _ => e.2.symm) (fun h => by omega)
   · split
     · rename_i e
       simp only [Bool.and_eq_true, beq_iff_eq] at e
       split
       · exact key 2 false (by decide) (fun h => absurd h e0) (fun _ => by decide) (fun h => absurd h (by decide)) (fun h => by omega)
       · exact key 1 false (by decide) (fun h => absurd h e0) (fun _ => by decide) (fun h => absurd h (by decide)) (fun h => by omega)
     · split
       · exact key 4 true (by decide) (fun h => absurd h e0) (fun _ => by decide) (fun h => absurd h (by decide)) (fun _ => rfl)
       · split
         · rename_i e1 e2
           have e2 : p.is_ = 2 := by simpa using e2
           exact key 4 _ (by decide) (fun h => absurd h e0) (fun _ => by decide) (fun h => absurd h (by decide)) (fun h => by omega)
         · rename_i e1 e2
           have := h.is_
           simp only [Bool.or_eq_true, beq_iff_eq, not_or] at e1 e2
           omega
structure Inv (n : Nat) (s : BS) : Prop where
 len : s.ps.length = n
 b : BInv n s.b
 p : ∀ j, j < n → PInv s.b j (ptAt s j)
theorem stepB_inv {n : Nat} {s : BS} (h : Inv n s) : BInv n (stepB s.b s.ps) := by
 have hb := rootF_bnd s.b.id s.ps
 refine ⟨h.b.id, h.b.times, h.b.hold, ?_, ?_⟩
 · have := h.len
   show -1 ≤ (rootF s.b.id s.ps).2 ∧ (rootF s.b.id s.ps).2 < n
   omega
 · show Upt 257 (if decide ((rootF s.b.id s.ps).2 ≥ 0) = true then _ else s.b.times)
   split
   · rename_i hr
     have hr : (rootF s.b.id s.ps).2 ≥ 0 := by simpa using hr
     have hi := rootF_is s.b.id s.ps hr
     have := h.len
     have hp := h.p (rootF s.b.id s.ps).2.toNat (by omega)
     have ht := hp.t4 hi
     refine ⟨?_, (ht.mono (by decide)).max, (ht.mono (by decide)).hello, (ht.mono (by decide)).delay⟩
     have ha := ht.age
     show 0 ≤ IntKind.i64.wrap ((ptAt s (rootF s.b.id s.ps).2.toNat).times.age + 1) ∧ IntKind.i64.wrap ((ptAt s (rootF s.b.id s.ps).2.toNat).times.age + 1) ≤ 257
     rw [wrap_small (by omega) (by omega)]
     omega
   · rw [h.b.times]
     exact ⟨by decide, by decide, by decide, by decide⟩
theorem Inv.sel {n : Nat} {s : BS} (h : Inv n s) : Inv n (selF s).1 := by
 by_cases ha : s.ps.any askP = true
 · have hb := stepB_inv h
   refine ⟨by rw [(selF_len s).1]; exact h.len, by rw [sel_yes ha]; exact hb, fun j hj => ?_⟩
   rw [sel_at ha j (by rw [h.len]; exact hj), sel_yes ha]
   exact stepP_inv (h.p j hj) hb.rt hb.times
 · rw [sel_no ha]; exact h
theorem Inv.mach {n : Nat} {s : BS} (h : Inv n s) {i k : Nat} (hi : i < 8) (hk : k < n) : Inv n (mach i s k).1 := by
 have hb := mach_b i s k
 have hT := h.b.times
 refine ⟨by have := stp_len (.m i k) s; exact this.trans h.len, by rw [hb]; exact h.b, ?_⟩
 rw [hb]
 refine mach_all h.len hi hk h.p rx_inv mig_inv edge_inv info_inv (fun hp j hj => ?_) pass_inv (fun hp j hj => ?_) (fun hp j hj => ?_)
 · have ht := trR_inv (ps := s.ps) hT hp
   cases hr : trR s.b s.ps k (ptAt s k) with
   | no => exact h.p j hj
   | one q => rw [hr] at ht; unfold trAt; dsimp only; split; (rename_i e; subst e; exact ht); exact h.p j hj
   | oneT q => rw [hr] at ht; unfold trAt; dsimp only; split; (rename_i e; subst e; exact ht); exact h.p j hj
   | syncs => unfold trAt; dsimp only; split; (rename_i e; subst e; exact { syU_inv (i := 0) hp with }); exact syU_inv (h.p j hj)
   | reRoots => exact rrU_inv (i := 0) (h.p j hj)
 · have ht := toT_inv hT hp
   cases hr : (toT s.b (ptAt s k)).get with
   | no => exact h.p j hj
   | one q => rw [hr] at ht; unfold toAt; dsimp only; split; (rename_i e; subst e; exact ht); exact h.p j hj
   | told q => rw [hr] at ht; unfold toAt; dsimp only; split; (rename_i e; subst e; exact ht); exact { h.p j hj with }
   | both q =>
     rw [hr] at ht; unfold toAt; dsimp only; split
     · rename_i e; subst e
       have ht : PInv s.b j q := ht
       exact { ht with st := { ht.st with topo := of_decide_eq_true rfl } }
     · exact { h.p j hj with }
   | flush => unfold toAt; dsimp only; split; (rename_i e; subst e; exact { hp with }); exact h.p j hj
 · have ht := txR_inv hT h.b.hold hp
   cases hr : txR s.b k (ptAt s k) with
   | no => exact h.p j hj
   | one q => rw [hr] at ht; unfold txAt; dsimp only; split; (rename_i e; subst e; exact ht); exact h.p j hj
   | send a d => rw [hr] at ht; unfold txAt; dsimp only; split; (rename_i e; subst e; exact ht); exact h.p j hj
theorem Inv.stp {n : Nat} {s : BS} (h : Inv n s) {o : Op} (ho : o ∈ ops n) : Inv n (stp o s).1 := by
 rcases ops_cases ho with rfl | ⟨k, hk, rfl | rfl | rfl | rfl | rfl | rfl | rfl | rfl⟩
 · exact h.sel
 all_goals exact h.mach (by decide) hk
end
end
section
section
open Go Go.RowKit
def rxFire (p : Port) : Bool := (!p.enabled && (p.flags.rcvdBpdu || p.clocks.edgeDelay != 3)) || (p.states.rx == 0 && p.flags.rcvdBpdu && p.enabled) || (p.states.rx == 1 && p.flags.rcvdBpdu && p.enabled && !p.flags.rcvdMsg)
def migFire (rst : Bool) (p : Port) : Bool := (p.states.mig == 0 && p.clocks.mdelay == 0) || (p.states.mig == 0 && (p.clocks.mdelay != 3 && !p.enabled)) || (p.states.mig == 2 && (!p.enabled || p.flags.mcheck || rst && p.flags.rcvdRst && !p.flags.sendRst)) ||
 (p.states.mig == 2 && (p.flags.sendRst && p.flags.rcvdStp)) || (p.states.mig == 1 && (p.clocks.mdelay == 0 || !p.enabled || p.flags.mcheck))
def edgeFire (p : Port) : Bool := (p.states.edge == 0 && leavesB p) || (p.states.edge == 1 && entersB p)
def passFire (p : Port) : Bool := (p.states.pass == 0 && p.flags.learn) || (p.states.pass == 1 && !p.flags.learn) || (p.states.pass == 1 && p.flags.forward) || (p.states.pass == 2 && !p.flags.forward)
def infoFire (p : Port) : Bool := (!p.enabled && p.is_ != 0) || (p.states.info == 0 && p.flags.rcvdMsg) || (p.states.info == 0 && p.enabled) || (p.states.info == 1 && toldP p) || (p.states.info == 2 && toldP p) ||
 (!(p.states.info != 2 || p.flags.updtInfo) && ((p.is_ == 3 && p.clocks.rcvdInfo == 0 && !p.flags.rcvdMsg) || p.flags.rcvdMsg))
theorem rx_fire (b : Bri) (p : Port) : ((rxT b p).get (p, false)).2 = rxFire p := by
 unfold rxFire
 simp only [rxT, receiveT, Out.get]
 cases (!p.enabled && (p.flags.rcvdBpdu || p.clocks.edgeDelay != 3)) <;> cases (p.states.rx == 0 && p.flags.rcvdBpdu && p.enabled) <;> cases (p.states.rx == 1 && p.flags.rcvdBpdu && p.enabled && !p.flags.rcvdMsg) <;> cases (p.msg.kind == 2) <;> rfl
theorem mig_fire (b : Bri) (p : Port) : ((migT b p).get (p, false)).2 = migFire b.rst p := by
 unfold migFire
 simp only [migT, Out.get]
 cases (p.states.mig == 0 && p.clocks.mdelay == 0) <;> cases (p.states.mig == 0 && (p.clocks.mdelay != 3 && !p.enabled)) <;> cases (p.states.mig == 2 && (!p.enabled || p.flags.mcheck || b.rst && p.flags.rcvdRst && !p.flags.sendRst)) <;>
   cases (p.states.mig == 2 && (p.flags.sendRst && p.flags.rcvdStp)) <;> cases (p.states.mig == 1 && (p.clocks.mdelay == 0 || !p.enabled || p.flags.mcheck)) <;> rfl
theorem edge_fire (b : Bri) (p : Port) : ((edgeT b p).get (p, false)).2 = edgeFire p := by
 unfold edgeFire
 simp only [edgeT, Out.get]
 cases h0 : (p.states.edge == 0) <;> cases h1 : (p.states.edge == 1) <;> cases leavesB p <;> cases entersB p <;> simp_all
theorem pass_fire (b : Bri) (p : Port) : ((passT b p).get (p, false)).2 = passFire p := by
 unfold passFire
 simp only [passT, Out.get]
 cases (p.states.pass == 0 && p.flags.learn) <;> cases (p.states.pass == 1 && !p.flags.learn) <;> cases (p.states.pass == 1 && p.flags.forward) <;> cases (p.states.pass == 2 && !p.flags.forward) <;> rfl
theorem info_fire (b : Bri) (p : Port) : (infoF b p).2 = infoFire p := by
 unfold infoF infoFire
 cases (!p.enabled && p.is_ != 0) <;> cases (p.states.info == 0 && p.flags.rcvdMsg) <;> cases (p.states.info == 0 && p.enabled) <;> cases (p.states.info == 1 && toldP p) <;> cases (p.states.info == 2 && toldP p) <;>
   cases (p.states.info != 2 || p.flags.updtInfo) <;> cases (p.is_ == 3 && p.clocks.rcvdInfo == 0 && !p.flags.rcvdMsg) <;> cases p.flags.rcvdMsg <;> rfl
theorem sel_fire (s : BS) : (selF s).2 = s.ps.any askP := by
 unfold selF
 split
 · rename_i h; rw [h]
 · rename_i h; simpa using h
def trFire (b : Bri) (ps : List Port) (k : Int) (p : Port) : Bool := p.flags.selected && !p.flags.updtInfo && ((rolesL b p).any (·.1) || (statesL (stE p) b ps k p).any (·.1))
theorem pick_no {l : List (Bool × TrR)} (hne : ∀ c, (c, TrR.no) ∉ l) : (∃ x, pick l = x ∧ x ≠ .no) ∨ l.any (·.1) = false := by
 induction l with
 | nil => exact .inr rfl
 | cons e r ih =>
   obtain ⟨c, x⟩ := e
   cases c with
   | true => exact .inl ⟨x, rfl, fun h => hne true (by rw [h]; exact List.mem_cons_self)⟩
   | false =>
     rcases ih (fun c h => hne c (List.mem_cons_of_mem _ h)) with ⟨y, h1, h2⟩ | h
     · exact .inl ⟨y, h1, h2⟩
     · exact .inr (by simpa using h)
theorem pick_none {l : List (Bool × TrR)} (h : l.any (·.1) = false) : pick l = .no := by
 induction l with
 | nil => rfl
 | cons e r ih =>
   obtain ⟨c, x⟩ := e
   simp only [List.any_cons, Bool.or_eq_false_iff] at h
   obtain ⟨rfl, h2⟩ := h
   exact ih h2
theorem roles_no (b : Bri) (p : Port) (c : Bool) : (c, TrR.no) ∉ rolesL b p := by simp [rolesL]
theorem states_no (e : Nat) (b : Bri) (ps : List Port) (k : Int) (p : Port) (c : Bool) : (c, TrR.no) ∉ statesL e b ps k p := by
 match e with
 | 0 | 1 | 4 => simp [statesL]
 | 2 => simp [statesL, trRootL, setsL]
 | 3 => simp [statesL, desL]
 | 5 => simp [statesL, altL, setsL]
 | n + 6 => simp [statesL]
theorem trX_fire (k : Int) (ps : List Port) (x : TrR) : (trX k ps x).2 = true ↔ x ≠ .no := by cases x <;> simp [trX]
theorem trans_fire (s : BS) (k : Int) : (transM s k).2 = trFire s.b s.ps k (s.ps.getD k.toNat Port.dflt) := by
 show (trX k s.ps (trR s.b s.ps k (s.ps.getD k.toNat Port.dflt))).2 = _
 generalize s.ps.getD k.toNat Port.dflt = p
 unfold trFire trR
 cases h1 : p.flags.selected <;> cases h2 : p.flags.updtInfo <;> try rfl
 simp only [Bool.not_true, Bool.or_self, Bool.false_eq_true, if_false, Bool.not_false, Bool.and_self, Bool.true_and]
 cases h : ((rolesL s.b p).any (·.1) || (statesL (stE p) s.b s.ps k p).any (·.1)) with
 | false =>
   rw [pick_none (by rw [List.any_append]; exact h)]
   rfl
 | true =>
   rw [trX_fire]
   rcases pick_no (l := rolesL s.b p ++ statesL (stE p) s.b s.ps k p) (fun c hm => by
     rcases List.mem_append.1 hm with hm | hm
     · exact roles_no _ _ _ hm
     · exact states_no _ _ _ _ _ _ hm) with ⟨x, hx, hn⟩ | hf
   · rw [hx]; exact hn
   · rw [List.any_append, h] at hf; cases hf
theorem stp_rx (s : BS) (k : Nat) : (stp (.m 0 k) s).2 = rxFire (ptAt s k) := rx_fire s.b _
theorem stp_mig (s : BS) (k : Nat) : (stp (.m 1 k) s).2 = migFire s.b.rst (ptAt s k) := mig_fire s.b _
theorem stp_edge (s : BS) (k : Nat) : (stp (.m 2 k) s).2 = edgeFire (ptAt s k) := edge_fire s.b _
theorem stp_info (s : BS) (k : Nat) : (stp (.m 3 k) s).2 = infoFire (ptAt s k) := info_fire s.b _
theorem stp_trans (s : BS) (k : Nat) : (stp (.m 4 k) s).2 = trFire s.b s.ps k (ptAt s k) := trans_fire s k
theorem stp_pass (s : BS) (k : Nat) : (stp (.m 5 k) s).2 = passFire (ptAt s k) := pass_fire s.b _
theorem stp_sel (s : BS) : (stp .sel s).2 = s.ps.any askP := sel_fire s
def proj1 (p : Port) : Port := { Port.dflt with
 enabled := p.enabled, is_ := p.is_,
 clocks := { Port.dflt.clocks with edgeDelay := (if p.enabled = true then 3 else p.clocks.edgeDelay), mdelay := p.clocks.mdelay, rcvdInfo := p.clocks.rcvdInfo },
 states := { Port.dflt.states with rx := p.states.rx, mig := p.states.mig, info := p.states.info },
 flags := { Port.dflt.flags with rcvdBpdu := p.flags.rcvdBpdu, rcvdMsg := p.flags.rcvdMsg, mcheck := p.flags.mcheck, rcvdRst := p.flags.rcvdRst, rcvdStp := p.flags.rcvdStp, sendRst := p.flags.sendRst, selected := p.flags.selected, updtInfo := p.flags.updtInfo, reselect := p.flags.reselect } }
theorem rxFire1 (p : Port) : rxFire (proj1 p) = rxFire p := by
 unfold rxFire proj1
 cases p.enabled <;> simp
theorem migFire1 (r : Bool) (p : Port) : migFire r (proj1 p) = migFire r p := rfl
theorem infoFire1 (p : Port) : infoFire (proj1 p) = infoFire p := rfl
theorem askP1 (p : Port) : askP (proj1 p) = askP p := rfl
structure EInv (p : Port) : Prop where
 en : p.enabled = false → p.is_ = 0
 ui : p.flags.updtInfo = true → p.is_ ≠ 0
theorem EInv.of {p q : Port} (h : EInv p) (e : proj1 q = proj1 p) : EInv q := by
 have e1 : q.enabled = p.enabled := (congrArg Port.enabled e : (proj1 q).enabled = (proj1 p).enabled)
 have e2 : q.is_ = p.is_ := (congrArg Port.is_ e : (proj1 q).is_ = (proj1 p).is_)
 have e3 : q.flags.updtInfo = p.flags.updtInfo := (congrArg (fun x : Port => x.flags.updtInfo) e : (proj1 q).flags.updtInfo = (proj1 p).flags.updtInfo)
 exact ⟨fun h1 => by rw [e2]; exact h.en (by rw [← e1]; exact h1), fun h1 => by rw [e2]; exact h.ui (by rw [← e3]; exact h1)⟩
def Keep1 (p : Port) : TrR → Prop
 | .one q => proj1 q = proj1 p
 | .oneT q => proj1 q = proj1 p
 | _ => True
theorem trR_keep1 {b : Bri} {ps : List Port} {k : Nat} {p : Port} (h : PInv b k p) (he : EInv p) : Keep1 p (trR b ps k p) := by
 refine trR_cases trivial (fun _ _ x hx => ?_) (fun hs _ ha x hx => ?_)
 · simp only [rolesL, List.mem_cons, List.not_mem_nil, or_false, Prod.mk.injEq] at hx
   rcases hx with ⟨_, rfl⟩ | ⟨_, rfl⟩ | ⟨_, rfl⟩ | ⟨_, rfl⟩ <;> rfl
 · cases hE : stE p with
   | zero =>
     rw [hE] at hx
     simp only [statesL, List.mem_cons, List.not_mem_nil, or_false, Prod.mk.injEq] at hx
     obtain ⟨_, rfl⟩ := hx; rfl
   | succ e =>
     rw [hE] at hx
     match e, hE, hx with
     | 0, _, hx =>
       simp only [statesL, List.mem_cons, List.not_mem_nil, or_false, Prod.mk.injEq] at hx
       obtain ⟨_, rfl⟩ := hx; rfl
     | 1, _, hx =>
       simp only [statesL, trRootL, setsL, List.mem_cons, List.mem_append, List.not_mem_nil, or_false, Prod.mk.injEq] at hx
       rcases hx with (⟨_, rfl⟩ | ⟨_, rfl⟩) | ⟨_, rfl⟩ | ⟨_, rfl⟩ | ⟨_, rfl⟩ | ⟨_, rfl⟩ | ⟨_, rfl⟩ <;> first | trivial | rfl
     | 2, hE, hx =>
       have ht : p.states.trans = 3 := stE_trans hE (by decide)
       have hen : p.enabled = true := by
         cases hen : p.enabled with
         | true => rfl
         | false =>
           have h1 := h.is0 (he.en hen) hs
           have h2 := roles_eq h ha
           have h3 := h.tr.2.2.2 ht
           omega
       simp only [statesL, desL, List.mem_cons, List.not_mem_nil, or_false, Prod.mk.injEq] at hx
       rcases hx with ⟨_, rfl⟩ | ⟨_, rfl⟩ | ⟨_, rfl⟩ | ⟨_, rfl⟩ | ⟨_, rfl⟩ | ⟨_, rfl⟩
       · show proj1 _ = proj1 p
         unfold proj1
         simp only [hen, if_true]
       all_goals rfl
     | 3, _, hx =>
       simp only [statesL, List.mem_cons, List.not_mem_nil, or_false, Prod.mk.injEq] at hx
       obtain ⟨_, rfl⟩ := hx; rfl
     | 4, _, hx =>
       simp only [statesL, altL, setsL, List.mem_cons, List.mem_append, List.not_mem_nil, or_false, Prod.mk.injEq] at hx
       rcases hx with (⟨_, rfl⟩ | ⟨_, rfl⟩) | ⟨_, rfl⟩ | ⟨_, rfl⟩ <;> first | trivial | rfl
     | n + 5, _, hx => simp only [statesL, List.not_mem_nil] at hx
def KeepT {α : Type} (g : Port → α) (p : Port) : ToR → Prop
 | .one q => g q = g p
 | .told q => g q = g p
 | .both q => g q = g p
 | _ => True
theorem beg_keep {α : Type} {g : Port → α} {b : Bri} {p : Port} {f : Port → ToR} (h0 : KeepT g p (f p)) (h1 : KeepT g p (f (begA b p))) (h2 : KeepT g p (f (begB b p))) : KeepT g p (begT b p f).get := by
 simp only [begT, ToT.get]
 split
 · exact h0
 · split
   · exact h1
   · exact h2
theorem toT_keep {α : Type} {g : Port → α} {b : Bri} {p : Port} (hc : g (clearsP p) = g p) (hq : g (quietP p) = g p) (ha : g (ackP p) = g p) (hn : ∀ q, g (notesP q) = g q) (hp : ∀ q, g (propP q) = g q) (hA : g (begA b p) = g p) (hB : g (begB b p) = g p) : KeepT g p (toT b p).get := by
 simp only [toT, ToT.get]
 repeat' split
 all_goals first
   | trivial
   | exact hc
   | exact hq
   | exact ha
   | exact hn p
   | exact beg_keep rfl hA hB
   | exact beg_keep (hn p) ((hn _).trans hA) ((hn _).trans hB)
   | exact beg_keep (hp p) ((hp _).trans hA) ((hp _).trans hB)
theorem toT_keep1 (b : Bri) (p : Port) : KeepT proj1 p (toT b p).get := toT_keep rfl rfl rfl (fun _ => rfl) (fun _ => rfl) rfl rfl
theorem topo_map {α : Type} {g : Port → α} {s : BS} {k : Nat} (hk : k < s.ps.length) (h1 : KeepT g (ptAt s k) (toT s.b (ptAt s k)).get) (hp : ∀ q, g (tcP q) = g q) (ha : ∀ q, g (activeP (newsP q)) = g q) (hf : ∀ q : Port, g { q with flags := { q.flags with flush := false } } = g q) : (topoF s k).1.ps.map g = s.ps.map g := by
 refine map_ext g (stp_len (.m 6 k) s) fun j hj => ?_
 have hj' : j < s.ps.length := by rw [← stp_len (.m 6 k) s]; exact hj
 show g (ptAt (topoF s k).1 j) = g (ptAt s j)
 rw [topo_at s k j hk hj']
 cases hr : (toT s.b (ptAt s k)).get with
 | no => rfl
 | one q => rw [hr] at h1; unfold toAt; dsimp only; split; (rename_i e; subst e; exact h1); rfl
 | told q => rw [hr] at h1; unfold toAt; dsimp only; split; (rename_i e; subst e; exact h1); exact hp _
 | both q => rw [hr] at h1; unfold toAt; dsimp only; split; (rename_i e; subst e; exact (ha q).trans h1); exact hp _
 | flush => unfold toAt; dsimp only; split; (rename_i e; subst e; exact hf _); rfl
theorem tx_map {α : Type} {g : Port → α} {s : BS} {k : Nat} (hk : k < s.ps.length) (ha : ∀ q, g (txAsk s.b q) = g q) (hs : ∀ q a, g (txSent s.b q a) = g q) : (txF s k).1.ps.map g = s.ps.map g := by
 refine map_ext g (stp_len (.m 7 k) s) fun j hj => ?_
 show g (ptAt (txF s k).1 j) = g (ptAt s j)
 rw [tx_at s k j hk]
 have hp : ∀ m a d q, txPick s.b (ptAt s k) m a d = .one q → g q = g (ptAt s k) := by
   intro m a d q h
   unfold txPick at h
   split at h
   · cases h
   · split at h
     · injection h with h; rw [← h]; exact ha _
     · split at h <;> cases h
 cases hr : txR s.b k (ptAt s k) with
 | no => rfl
 | one q =>
   have hq : g q = g (ptAt s k) := by
     unfold txR at hr
     split at hr
     · exact hp _ _ _ _ hr
     · split at hr
       · exact hp _ _ _ _ hr
       · exact hp _ _ _ _ hr
   unfold txAt; dsimp only; split; (rename_i e; subst e; exact hq); rfl
 | send a d => unfold txAt; dsimp only; split; (rename_i e; subst e; exact hs _ _); rfl
theorem trans_map {α : Type} {g : Port → α} {s : BS} {k : Nat} (hk : k < s.ps.length) (h1 : match trR s.b s.ps k (ptAt s k) with | .one q => g q = g (ptAt s k) | .oneT q => g q = g (ptAt s k) | _ => True) (hs : ∀ q, g (syU 0 q) = g q) (hn : ∀ q, g (noProp q) = g q) (hr : ∀ q, g (rrU 0 q) = g q) : (transM s k).1.ps.map g = s.ps.map g := by
 refine map_ext g (stp_len (.m 4 k) s) fun j hj => ?_
 have hj' : j < s.ps.length := by rw [← stp_len (.m 4 k) s]; exact hj
 show g (ptAt (transM s k).1 j) = g (ptAt s j)
 rw [trans_at s k j hk hj']
 cases hR : trR s.b s.ps k (ptAt s k) with
 | no => rfl
 | one q => rw [hR] at h1; unfold trAt; dsimp only; split; (rename_i e; subst e; exact h1); rfl
 | oneT q => rw [hR] at h1; unfold trAt; dsimp only; split; (rename_i e; subst e; exact h1); rfl
 | syncs => unfold trAt; dsimp only; split; (rename_i e; subst e; exact (hn _).trans (hs _)); exact hs _
 | reRoots => exact hr _
theorem loc_map {α : Type} {g : Port → α} {s : BS} {k : Nat} {F : Bri → Port → Port × Bool} (hk : k < s.ps.length) (h : g (F s.b (ptAt s k)).1 = g (ptAt s k)) : (ofP F s k).1.ps.map g = s.ps.map g := by
 refine map_ext g (by rw [(ofP_mach F).len]) fun j hj => ?_
 show g (ptAt (ofP F s k).1 j) = g (ptAt s j)
 rw [ofP_at F s k j hk]
 split
 · rename_i e; subst e; exact h
 · rfl
theorem edge_keep {α : Type} {g : Port → α} {b : Bri} {p : Port} (h : ∀ e o, g (edgeP p e o) = g p) : g ((edgeT b p).get (p, false)).1 = g p := by
 simp only [edgeT, Out.get]
 repeat' split
 all_goals first | exact h _ _ | rfl
theorem pass_keep {α : Type} {g : Port → α} {b : Bri} {p : Port} (h : ∀ l f st, g (passP p l f st) = g p) : g ((passT b p).get (p, false)).1 = g p := by
 simp only [passT, Out.get]
 repeat' split
 all_goals first | exact h _ _ _ | rfl
end
section
open Go Go.RowKit
theorem EInv.rx {b : Bri} {p : Port} (h : EInv p) : EInv ((rxT b p).get (p, false)).1 := by
 have h1 : EInv (discardP p) := ⟨h.en, h.ui⟩
 have h2 : ∀ q : Port, EInv q → EInv (receiveP q) := fun q h => ⟨h.en, h.ui⟩
 have h3 : EInv ((receiveT p).get (p, false)).1 := by
   simp only [receiveT, Out.get]
   split
   · exact h2 _ ⟨h.en, h.ui⟩
   · exact h2 _ ⟨h.en, h.ui⟩
 simp only [rxT, Out.get]
 split
 · exact h1
 · split
   · exact h3
   · split
     · exact h3
     · exact h
theorem EInv.mig {b : Bri} {p : Port} (h : EInv p) : EInv ((migT b p).get (p, false)).1 := by
 have h1 : EInv (senseP p) := ⟨h.en, h.ui⟩
 have h2 : EInv (checkP b.rst p) := ⟨h.en, h.ui⟩
 have h3 : EInv (chooseP p) := ⟨h.en, h.ui⟩
 simp only [migT, Out.get]
 repeat' split
 all_goals first | exact h1 | exact h2 | exact h3 | exact h
theorem EInv.on {p : Port} (h : EInv p) (hi : p.is_ ≠ 0) : p.enabled = true := by
 cases he : p.enabled with
 | true => rfl
 | false => exact absurd (h.en he) hi
theorem supP_keep (r : Bool) (p : Port) : (superiorP r p).enabled = p.enabled ∧ (superiorP r p).is_ = 3 ∧ (superiorP r p).flags.updtInfo = p.flags.updtInfo := ⟨by kernel_rfl, by kernel_rfl, by kernel_rfl⟩
theorem supP_keep2 (r : Bool) (p : Port) : (superiorP r p).flags.rcvdBpdu = p.flags.rcvdBpdu ∧ (superiorP r p).clocks.edgeDelay = p.clocks.edgeDelay ∧ (superiorP r p).states.info = 2 ∧ (superiorP r p).states.mig = p.states.mig ∧ (superiorP r p).clocks.mdelay = p.clocks.mdelay ∧ (superiorP r p).flags.mcheck = p.flags.mcheck := ⟨by kernel_rfl, by kernel_rfl, by kernel_rfl, by kernel_rfl, by kernel_rfl, by kernel_rfl⟩
theorem repP_keep (r : Bool) (p : Port) : (repeatedP r p).enabled = p.enabled ∧ (repeatedP r p).is_ = p.is_ ∧ (repeatedP r p).flags.updtInfo = p.flags.updtInfo ∧ (repeatedP r p).flags.rcvdBpdu = p.flags.rcvdBpdu ∧ (repeatedP r p).clocks.edgeDelay = p.clocks.edgeDelay ∧ (repeatedP r p).states = p.states ∧ (repeatedP r p).clocks.mdelay = p.clocks.mdelay ∧ (repeatedP r p).flags.mcheck = p.flags.mcheck ∧ askP (repeatedP r p) = askP p := ⟨rfl, rfl, rfl, rfl, rfl, rfl, rfl, rfl, rfl⟩
theorem notP_keep (r : Bool) (p : Port) : (notDesP r p).enabled = p.enabled ∧ (notDesP r p).is_ = p.is_ ∧ (notDesP r p).flags.updtInfo = p.flags.updtInfo ∧ (notDesP r p).flags.rcvdBpdu = p.flags.rcvdBpdu ∧ (notDesP r p).clocks = p.clocks ∧ (notDesP r p).states = p.states ∧ (notDesP r p).flags.mcheck = p.flags.mcheck ∧ askP (notDesP r p) = askP p := ⟨rfl, rfl, rfl, rfl, rfl, rfl, rfl, rfl⟩
theorem hearP_is {r : Bool} {p : Port} : (hearP r p).enabled = p.enabled ∧ ((hearP r p).is_ = p.is_ ∨ (hearP r p).is_ = 3) ∧ (hearP r p).flags.updtInfo = p.flags.updtInfo := by
 unfold hearP
 split
 · have h := supP_keep r p; exact ⟨h.1, .inr h.2.1, h.2.2⟩
 · split
   · have h := repP_keep r p; exact ⟨h.1, .inl h.2.1, h.2.2.1⟩
   · split
     · split <;> exact ⟨rfl, .inl rfl, rfl⟩
     · split
       · have h := notP_keep r p; exact ⟨h.1, .inl h.2.1, h.2.2.1⟩
       · exact ⟨rfl, .inl rfl, rfl⟩
theorem EInv.info {b : Bri} {k : Nat} {p : Port} (hp : PInv b k p) (h : EInv p) : EInv (infoF b p).1 := by
 unfold infoF
 have hold : ∀ c : Int, c ≠ 0 → p.states.info = c → p.enabled = true := fun c hc e => h.on fun e0 => hc (by rw [← e]; exact hp.inf.1.2 e0)
 split
 · rename_i hc
   simp only [Bool.and_eq_true, Bool.not_eq_true', bne_iff_ne] at hc
   exact absurd (h.en hc.1) hc.2
 · split
   · rename_i hc
     simp only [Bool.and_eq_true, beq_iff_eq] at hc
     have : p.flags.updtInfo ≠ true := fun e => h.ui e (hp.inf.1.1 hc.1)
     exact ⟨fun _ => rfl, fun e => absurd e this⟩
   · split
     · rename_i hc
       simp only [Bool.and_eq_true, beq_iff_eq] at hc
       exact ⟨fun e => (by have e : p.enabled = false := e; rw [hc.2] at e; cases e), fun _ => of_decide_eq_false rfl⟩
     · split
       · rename_i hc
         simp only [Bool.and_eq_true, beq_iff_eq] at hc
         exact ⟨fun e => (by have e : p.enabled = false := e; rw [hold 1 (by decide) hc.1] at e; cases e), fun _ => of_decide_eq_false rfl⟩
       · split
         · rename_i hc
           simp only [Bool.and_eq_true, beq_iff_eq] at hc
           exact ⟨fun e => (by have e : p.enabled = false := e; rw [hold 2 (by decide) hc.1] at e; cases e), fun _ => of_decide_eq_false rfl⟩
         · split
           · exact h
           · rename_i hc
             simp only [Bool.or_eq_true, bne_iff_ne, ne_eq, not_or, Classical.not_not] at hc
             have hon := hold 2 (by decide) hc.1
             split
             · exact ⟨fun e => (by have e : p.enabled = false := e; rw [hon] at e; cases e), fun _ => of_decide_eq_false rfl⟩
             · split
               · obtain ⟨e1, e2, e3⟩ := hearP_is (r := b.rst) (p := p)
                 refine ⟨fun e => ?_, fun e => ?_⟩
                 · have e : (hearP b.rst p).enabled = false := e
                   rw [e1, hon] at e; cases e
                 · show (hearP b.rst p).is_ ≠ 0
                   have : p.is_ ≠ 0 := h.ui (by rw [← e3]; exact e)
                   rcases e2 with e2 | e2 <;> rw [e2]
                   · exact this
                   · decide
               · exact h
theorem roleF_keep (b : Bri) (i : Int) (p : Port) : (roleF b i p).enabled = p.enabled ∧ (roleF b i p).is_ = p.is_ ∧ (p.is_ = 0 → (roleF b i p).flags.updtInfo = p.flags.updtInfo) := by
 unfold roleF
 split
 · exact ⟨rfl, rfl, fun _ => rfl⟩
 · rename_i hc
   have hc : p.is_ ≠ 0 := by simpa using hc
   repeat' split
   all_goals exact ⟨rfl, rfl, fun e => absurd e hc⟩
theorem EInv.sel {b : Bri} {k : Nat} {p : Port} (h : EInv p) : EInv (stepP b k p) := by
 obtain ⟨e1, e2, e3⟩ := roleF_keep b k (baseP b p)
 refine ⟨fun e => ?_, fun e => ?_⟩
 · show (roleF b k (baseP b p)).is_ = 0
   rw [e2]
   exact h.en (by have e : (roleF b k (baseP b p)).enabled = false := e; rw [e1] at e; exact e)
 · show (roleF b k (baseP b p)).is_ ≠ 0
   rw [e2]
   intro h0
   have e : (roleF b k (baseP b p)).flags.updtInfo = true := e
   rw [e3 h0] at e
   exact h.ui e h0
structure Inv2 (n : Nat) (s : BS) : Prop where
 i : Inv n s
 e : ∀ j, j < n → EInv (ptAt s j)
theorem all_of_map {P : Port → Prop} (hP : ∀ p q, proj1 q = proj1 p → P p → P q) {l l' : List Port} (h : l'.map proj1 = l.map proj1) {n : Nat} (hl : ∀ j, j < n → P (l.getD j Port.dflt)) : ∀ j, j < n → P (l'.getD j Port.dflt) :=
 fun j hj => hP _ _ (map_at h j) (hl j hj)
theorem high_keep1 {n : Nat} {s : BS} (h : Inv2 n s) {k : Nat} (hk : k < n) {i : Nat} (hi : i = 2 ∨ i = 4 ∨ i = 5 ∨ i = 6 ∨ i = 7) : (mach i s k).1.ps.map proj1 = s.ps.map proj1 := by
 have hkn : k < s.ps.length := by rw [h.i.len]; exact hk
 rcases hi with rfl | rfl | rfl | rfl | rfl
 · exact loc_map hkn (edge_keep fun _ _ => rfl)
 · refine trans_map hkn ?_ (fun _ => rfl) (fun _ => rfl) (fun _ => rfl)
   have := trR_keep1 (ps := s.ps) (h.i.p k hk) (h.e k hk)
   revert this
   cases trR s.b s.ps k (ptAt s k) <;> intro this <;> first | exact this | trivial
 · exact loc_map hkn (pass_keep fun _ _ _ => rfl)
 · exact topo_map hkn (toT_keep1 _ _) (fun _ => rfl) (fun _ => rfl) (fun _ => rfl)
 · exact tx_map hkn (fun _ => rfl) (fun _ _ => rfl)
theorem loc_all {P : Port → Prop} {s : BS} {n k : Nat} {F : Bri → Port → Port × Bool} (hn : s.ps.length = n) (hk : k < n) (h : ∀ j, j < n → P (ptAt s j)) (hF : P (F s.b (ptAt s k)).1) : ∀ j, j < n → P (ptAt (ofP F s k).1 j) := by
 intro j hj
 rw [ofP_at F s k j (by omega)]
 split
 · exact hF
 · exact h j hj
theorem Inv2.stp {n : Nat} {s : BS} (h : Inv2 n s) {o : Op} (ho : o ∈ ops n) : Inv2 n (stp o s).1 := by
 refine ⟨h.i.stp ho, ?_⟩
 have hi : ∀ {i k : Nat}, k < n → (i = 2 ∨ i = 4 ∨ i = 5 ∨ i = 6 ∨ i = 7) → ∀ j, j < n → EInv (ptAt (mach i s k).1 j) := fun hk hi => all_of_map (fun p q e hp => hp.of e) (high_keep1 h hk hi) h.e
 rcases ops_cases ho with rfl | ⟨k, hk, rfl | rfl | rfl | rfl | rfl | rfl | rfl | rfl⟩
 · intro j hj
   show EInv (ptAt (selF s).1 j)
   by_cases ha : s.ps.any askP = true
   · rw [sel_at ha j (by rw [h.i.len]; exact hj)]
     exact (h.e j hj).sel
   · rw [sel_no ha]; exact h.e j hj
 · exact loc_all h.i.len hk h.e (h.e k hk).rx
 · exact loc_all h.i.len hk h.e (h.e k hk).mig
 · exact hi hk (by simp)
 · exact loc_all h.i.len hk h.e (EInv.info (h.i.p k hk) (h.e k hk))
 · exact hi hk (by simp)
 · exact hi hk (by simp)
 · exact hi hk (by simp)
 · exact hi hk (by simp)
def bn (c : Bool) (x : Nat) : Nat := if c = true then x else 0
theorem bn_le (c : Bool) (x : Nat) : bn c x ≤ x := by unfold bn; split <;> omega
def w1 (p : Port) : Nat := if p.enabled = true then (if p.states.info = 0 then 14 else if p.states.info = 2 ∧ p.is_ = 3 then 7 else 0) else (if p.is_ = 0 then 0 else 7)
def m1 (p : Port) : Nat := if p.states.mig = 0 then (if p.clocks.mdelay = 0 then 4 else if p.clocks.mdelay ≠ 3 ∧ p.enabled = false then 1 else 0) else if p.states.mig = 2 then 3 else if p.states.mig = 1 then (if p.clocks.mdelay = 0 ∨ p.enabled = false ∨ p.flags.mcheck = true then 4 else 0) else 0
def phi1 (p : Port) : Nat := bn p.flags.rcvdBpdu 21 + bn p.flags.rcvdMsg 14 + bn p.flags.updtInfo 1 + w1 p + bn (!p.enabled && p.clocks.edgeDelay != 3) 1 + m1 p
theorem w1_le (p : Port) : w1 p ≤ 14 := by unfold w1; repeat' split
                                           all_goals omega
theorem m1_le (p : Port) : m1 p ≤ 4 := by unfold m1; repeat' split
                                          all_goals omega
theorem phi1_le (p : Port) : phi1 p ≤ 55 := by
 have := bn_le p.flags.rcvdBpdu 21
 have := bn_le p.flags.rcvdMsg 14
 have := bn_le p.flags.updtInfo 1
 have := bn_le (!p.enabled && p.clocks.edgeDelay != 3) 1
 have := w1_le p
 have := m1_le p
 unfold phi1
 omega
theorem phi1_dep (p : Port) : phi1 (proj1 p) = phi1 p := by
 unfold phi1
 have : (!(proj1 p).enabled && (proj1 p).clocks.edgeDelay != 3) = (!p.enabled && p.clocks.edgeDelay != 3) := by
   show (!p.enabled && (if p.enabled = true then 3 else p.clocks.edgeDelay) != 3) = _
   cases p.enabled <;> simp
 rw [this]
 rfl
theorem bn_true {c : Bool} {x : Nat} (h : c = true) : bn c x = x := by unfold bn; rw [if_pos h]
theorem bn_false {c : Bool} {x : Nat} (h : c = false) : bn c x = 0 := by unfold bn; rw [h]; rfl
theorem phi1_rx {b : Bri} {p : Port} (h : rxFire p = true) : phi1 ((rxT b p).get (p, false)).1 < phi1 p ∧ askP ((rxT b p).get (p, false)).1 = askP p := by
 have hM := bn_le p.flags.rcvdMsg 14
 have hB := bn_le p.flags.rcvdBpdu 21
 have hE := bn_le (!p.enabled && p.clocks.edgeDelay != 3) 1
 have hr : ∀ q : Port, (q.flags.rcvdBpdu = true ∧ q.enabled = true) → phi1 (receiveP q) < phi1 q ∧ askP (receiveP q) = askP q := by
   intro q hq
   have hM := bn_le q.flags.rcvdMsg 14
   refine ⟨?_, rfl⟩
   unfold phi1
   rw [bn_true hq.1, bn_false (c := (receiveP q).flags.rcvdBpdu) rfl, bn_true (c := (receiveP q).flags.rcvdMsg) rfl, show w1 (receiveP q) = w1 q from rfl, show m1 (receiveP q) = m1 q from rfl, show (receiveP q).flags.updtInfo = q.flags.updtInfo from rfl,
     bn_false (c := (!(receiveP q).enabled && (receiveP q).clocks.edgeDelay != 3)) (by show (!q.enabled && (3 : Int) != 3) = false; simp), bn_false (c := (!q.enabled && q.clocks.edgeDelay != 3)) (by rw [hq.2]; rfl)]
   omega
 have hrr : (p.flags.rcvdBpdu = true ∧ p.enabled = true) → phi1 ((receiveT p).get (p, false)).1 < phi1 p ∧ askP ((receiveT p).get (p, false)).1 = askP p := by
   intro hq
   simp only [receiveT, Out.get]
   split
   · exact hr { p with flags := { p.flags with rcvdRst := true } } hq
   · exact hr { p with flags := { p.flags with rcvdStp := true } } hq
 unfold rxFire at h
 simp only [rxT, Out.get]
 split
 · rename_i hc
   refine ⟨?_, rfl⟩
   simp only [Bool.and_eq_true, Bool.or_eq_true, Bool.not_eq_true'] at hc
   unfold phi1
   rw [bn_false (c := (discardP p).flags.rcvdBpdu) rfl, bn_false (c := (discardP p).flags.rcvdMsg) rfl, show w1 (discardP p) = w1 p from rfl, show m1 (discardP p) = m1 p from rfl, show (discardP p).flags.updtInfo = p.flags.updtInfo from rfl,
     bn_false (c := (!(discardP p).enabled && (discardP p).clocks.edgeDelay != 3)) (by show (!p.enabled && (3 : Int) != 3) = false; simp)]
   rcases hc.2 with hc2 | hc2
   · rw [bn_true hc2]; omega
   · rw [bn_true (c := (!p.enabled && p.clocks.edgeDelay != 3)) (by rw [hc.1, hc2]; rfl)]; omega
 · rename_i hc
   split
   · rename_i hc2
     simp only [Bool.and_eq_true] at hc2
     exact hrr ⟨hc2.1.2, hc2.2⟩
   · rename_i hc2
     split
     · rename_i hc3
       simp only [Bool.and_eq_true] at hc3
       exact hrr ⟨hc3.1.1.2, hc3.1.2⟩
     · rename_i hc3
       simp only [Bool.or_eq_true] at h
       rcases h with (h | h) | h
       · exact absurd h hc
       · exact absurd h hc2
       · exact absurd h hc3
theorem phi1_mig {b : Bri} {p : Port} (h : migFire b.rst p = true) : phi1 ((migT b p).get (p, false)).1 < phi1 p ∧ askP ((migT b p).get (p, false)).1 = askP p := by
 have key : ∀ q : Port, bn q.flags.rcvdBpdu 21 = bn p.flags.rcvdBpdu 21 → bn q.flags.rcvdMsg 14 = bn p.flags.rcvdMsg 14 → bn q.flags.updtInfo 1 = bn p.flags.updtInfo 1 → w1 q = w1 p → bn (!q.enabled && q.clocks.edgeDelay != 3) 1 = bn (!p.enabled && p.clocks.edgeDelay != 3) 1 → m1 q < m1 p → phi1 q < phi1 p := by
   intro q e1 e2 e3 e4 e5 e6
   unfold phi1
   rw [e1, e2, e3, e4, e5]
   omega
 have hs : m1 (senseP p) = 3 := rfl
 have hk : m1 (checkP b.rst p) = 0 := by
   show (if (3 : Int) = 0 then 4 else if (3 : Int) ≠ 3 ∧ p.enabled = false then 1 else 0) = 0
   simp
 have hch : (p.enabled = true ∧ p.flags.mcheck = false) → m1 (chooseP p) = 0 := by
   rintro ⟨h1, h2⟩
   show (if (3 : Int) = 0 ∨ p.enabled = false ∨ p.flags.mcheck = true then 4 else 0) = 0
   rw [h1, h2]; simp
 simp only [migT, Out.get]
 split
 · rename_i hc
   simp only [Bool.and_eq_true, beq_iff_eq] at hc
   exact ⟨key _ rfl rfl rfl rfl rfl (by rw [hs]; unfold m1; rw [if_pos hc.1, if_pos hc.2]; decide), rfl⟩
 · rename_i hn1
   split
   · rename_i hc
     simp only [Bool.and_eq_true, beq_iff_eq, bne_iff_ne, Bool.not_eq_true'] at hc
     refine ⟨key _ rfl rfl rfl rfl rfl (by rw [hk]; unfold m1; rw [if_pos hc.1]; split; decide; rw [if_pos hc.2]; decide), rfl⟩
   · rename_i hn2
     split
     · rename_i hc
       simp only [Bool.and_eq_true, beq_iff_eq] at hc
       exact ⟨key _ rfl rfl rfl rfl rfl (by rw [hk]; unfold m1; simp [hc.1]), rfl⟩
     · rename_i hn3
       split
       · rename_i hc
         simp only [Bool.and_eq_true, beq_iff_eq] at hc
         have hq : p.enabled = true ∧ p.flags.mcheck = false := by
           simp only [hc.1, Bool.and_eq_true, beq_self_eq_true, true_and, Bool.or_eq_true, not_or] at hn3
           simpa using hn3.1
         exact ⟨key _ rfl rfl rfl rfl rfl (by rw [hch hq]; unfold m1; simp [hc.1]), rfl⟩
       · rename_i hn4
         split
         · rename_i hc
           simp only [Bool.and_eq_true, beq_iff_eq, Bool.or_eq_true, Bool.not_eq_true'] at hc
           have hor : p.clocks.mdelay = 0 ∨ p.enabled = false ∨ p.flags.mcheck = true := by
             rcases hc.2 with (h1 | h1) | h1
             · exact .inl h1
             · exact .inr (.inl h1)
             · exact .inr (.inr h1)
           exact ⟨key _ rfl rfl rfl rfl rfl (by rw [hs]; unfold m1; rw [if_pos hor]; simp [hc.1]), rfl⟩
         · rename_i hn5
           unfold migFire at h
           simp only [Bool.or_eq_true] at h
           rcases h with (((h | h) | h) | h) | h
           · exact absurd h hn1
           · exact absurd h hn2
           · exact absurd h hn3
           · exact absurd (by simpa using h) hn4
           · exact absurd (by simpa using h) hn5
theorem w1_of {p q : Port} (h1 : q.enabled = p.enabled) (h2 : q.is_ = p.is_) (h3 : q.states.info = p.states.info) : w1 q = w1 p := by unfold w1; rw [h1, h2, h3]
theorem m1_of {p q : Port} (h1 : q.enabled = p.enabled) (h2 : q.states.mig = p.states.mig) (h3 : q.clocks.mdelay = p.clocks.mdelay) (h4 : q.flags.mcheck = p.flags.mcheck) : m1 q = m1 p := by unfold m1; rw [h1, h2, h3, h4]
theorem hearP_w {r : Bool} {p : Port} : (hearP r p).flags.rcvdBpdu = p.flags.rcvdBpdu ∧ (hearP r p).clocks.edgeDelay = p.clocks.edgeDelay ∧ (hearP r p).enabled = p.enabled ∧ (hearP r p).flags.updtInfo = p.flags.updtInfo ∧ m1 (hearP r p) = m1 p ∧
   ((w1 (hearP r p) = w1 p ∧ askP (hearP r p) = askP p) ∨ (w1 (hearP r p) ≤ 7)) := by
 unfold hearP
 split
 · obtain ⟨a1, a2, a3⟩ := supP_keep r p
   obtain ⟨b1, b2, b3, b4, b5, b6⟩ := supP_keep2 r p
   refine ⟨b1, b2, a1, a3, m1_of a1 b4 b5 b6, .inr ?_⟩
   unfold w1
   rw [a1, a2, b3]
   split <;> simp
 · split
   · obtain ⟨a1, a2, a3, a4, a5, a6, a7, a8, a9⟩ := repP_keep r p
     exact ⟨a4, a5, a1, a3, m1_of a1 (by rw [a6]) a7 a8, .inl ⟨w1_of a1 a2 (by rw [a6]), a9⟩⟩
   · split
     · split <;> exact ⟨rfl, rfl, rfl, rfl, rfl, .inl ⟨rfl, rfl⟩⟩
     · split
       · obtain ⟨a1, a2, a3, a4, a5, a6, a7, a8⟩ := notP_keep r p
         exact ⟨a4, by rw [a5], a1, a3, m1_of a1 (by rw [a6]) (by rw [a5]) a7, .inl ⟨w1_of a1 a2 (by rw [a6]), a8⟩⟩
       · exact ⟨rfl, rfl, rfl, rfl, rfl, .inl ⟨rfl, rfl⟩⟩
theorem phi1_info {b : Bri} {k : Nat} {p : Port} (hp : PInv b k p) (he : EInv p) (h : infoFire p = true) : (phi1 (infoF b p).1 < phi1 p ∧ askP (infoF b p).1 = askP p) ∨ phi1 (infoF b p).1 + 6 < phi1 p := by
 have hU := bn_le p.flags.updtInfo 1
 unfold infoF
 split
 · rename_i hc
   simp only [Bool.and_eq_true, Bool.not_eq_true', bne_iff_ne] at hc
   exact absurd (he.en hc.1) hc.2
 · rename_i hn1
   split
   · rename_i hc
     simp only [Bool.and_eq_true, beq_iff_eq] at hc
     refine .inr ?_
     have hw : w1 (disableP p) = w1 p := by
       unfold w1
       rw [hc.1, hp.inf.1.1 hc.1]; rfl
     unfold phi1
     rw [hw, bn_true hc.2, bn_false (c := (disableP p).flags.rcvdMsg) rfl, show m1 (disableP p) = m1 p from rfl, show (disableP p).flags.rcvdBpdu = p.flags.rcvdBpdu from rfl, show (disableP p).flags.updtInfo = p.flags.updtInfo from rfl, show (!(disableP p).enabled && (disableP p).clocks.edgeDelay != 3) = (!p.enabled && p.clocks.edgeDelay != 3) from rfl]
     omega
   · rename_i hn2
     have aged : w1 p ≥ 7 → w1 (ageP p) = 0 → phi1 (ageP p) + 6 < phi1 p := by
       intro h1 h2
       unfold phi1
       rw [h2, show m1 (ageP p) = m1 p from rfl, show (ageP p).flags.rcvdBpdu = p.flags.rcvdBpdu from rfl, show (ageP p).flags.rcvdMsg = p.flags.rcvdMsg from rfl, show (ageP p).flags.updtInfo = p.flags.updtInfo from rfl, show (!(ageP p).enabled && (ageP p).clocks.edgeDelay != 3) = (!p.enabled && p.clocks.edgeDelay != 3) from rfl]
       omega
     have ag0 : p.enabled = true → w1 (ageP p) = 0 := by
       intro e
       show (if p.enabled = true then (if (1 : Int) = 0 then 14 else if (1 : Int) = 2 ∧ (1 : Int) = 3 then 7 else 0) else (if (1 : Int) = 0 then 0 else 7)) = 0
       rw [e]; decide
     split
     · rename_i hc
       simp only [Bool.and_eq_true, beq_iff_eq] at hc
       exact .inr (aged (by unfold w1; rw [if_pos hc.2, if_pos hc.1]; decide) (ag0 hc.2))
     · rename_i hn3
       have upd : p.flags.updtInfo = true → p.states.info ≠ 0 → phi1 (updateP p) < phi1 p ∧ askP (updateP p) = askP p := by
         intro hu hi
         refine ⟨?_, rfl⟩
         have hen := he.on (he.ui hu)
         have hw : w1 (updateP p) = 0 := by
           show (if p.enabled = true then (if (2 : Int) = 0 then 14 else if (2 : Int) = 2 ∧ (2 : Int) = 3 then 7 else 0) else (if (2 : Int) = 0 then 0 else 7)) = 0
           rw [hen]; decide
         unfold phi1
         rw [hw, bn_true hu, bn_false (c := (updateP p).flags.updtInfo) rfl, show m1 (updateP p) = m1 p from rfl, show (updateP p).flags.rcvdBpdu = p.flags.rcvdBpdu from rfl, show (updateP p).flags.rcvdMsg = p.flags.rcvdMsg from rfl, show (!(updateP p).enabled && (updateP p).clocks.edgeDelay != 3) = (!p.enabled && p.clocks.edgeDelay != 3) from rfl]
         omega
       split
       · rename_i hc
         simp only [toldP, Bool.and_eq_true, beq_iff_eq] at hc
         exact .inl (upd hc.2.2 (by omega))
       · rename_i hn4
         split
         · rename_i hc
           simp only [toldP, Bool.and_eq_true, beq_iff_eq] at hc
           exact .inl (upd hc.2.2 (by omega))
         · rename_i hn5
           split
           · rename_i hn6
             unfold infoFire at h
             simp only [Bool.or_eq_true] at h
             rcases h with ((((h | h) | h) | h) | h) | h
             · exact absurd h hn1
             · exact absurd h hn2
             · exact absurd h hn3
             · exact absurd h hn4
             · exact absurd h hn5
             · rw [hn6] at h; simp at h
           · rename_i hn6
             have h2 : p.states.info = 2 := by
               simp only [Bool.or_eq_true, bne_iff_ne, ne_eq, not_or, Classical.not_not] at hn6
               exact hn6.1
             have hen := he.on fun e => absurd (hp.inf.1.2 e) (by omega)
             split
             · rename_i hc
               simp only [Bool.and_eq_true, beq_iff_eq] at hc
               exact .inr (aged (by unfold w1; rw [if_pos hen, if_neg (by omega), if_pos ⟨h2, hc.1.1⟩]; decide) (ag0 hen))
             · rename_i hn7
               split
               · rename_i hc
                 obtain ⟨e1, e2, e3, e4, e5, e6⟩ := hearP_w (r := b.rst) (p := p)
                 have hq : phi1 (heardP (hearP b.rst p)) = bn p.flags.rcvdBpdu 21 + 0 + bn p.flags.updtInfo 1 + w1 (hearP b.rst p) + bn (!p.enabled && p.clocks.edgeDelay != 3) 1 + m1 p := by
                   unfold phi1
                   rw [show (heardP (hearP b.rst p)).flags.rcvdBpdu = p.flags.rcvdBpdu from e1, bn_false (c := (heardP (hearP b.rst p)).flags.rcvdMsg) rfl, show (heardP (hearP b.rst p)).flags.updtInfo = p.flags.updtInfo from e4, show w1 (heardP (hearP b.rst p)) = w1 (hearP b.rst p) from rfl,
                     show (heardP (hearP b.rst p)).enabled = p.enabled from e3, show (heardP (hearP b.rst p)).clocks.edgeDelay = p.clocks.edgeDelay from e2, show m1 (heardP (hearP b.rst p)) = m1 p from e5]
                 have hp0 : phi1 p = bn p.flags.rcvdBpdu 21 + 14 + bn p.flags.updtInfo 1 + w1 p + bn (!p.enabled && p.clocks.edgeDelay != 3) 1 + m1 p := by unfold phi1; rw [bn_true hc]
                 dsimp only
                 rw [hq, hp0]
                 rcases e6 with ⟨h1, h3⟩ | h1
                 · exact .inl ⟨by omega, h3⟩
                 · exact .inr (by omega)
               · rename_i hn8
                 unfold infoFire at h
                 simp only [Bool.or_eq_true, Bool.and_eq_true] at h
                 rcases h with ((((h | h) | h) | h) | h) | h
                 · exact absurd (by simpa using h) hn1
                 · exact absurd (by simpa using h) hn2
                 · exact absurd (by simpa using h) hn3
                 · exact absurd (by simpa using h) hn4
                 · exact absurd (by simpa using h) hn5
                 · rcases h.2 with h | h
                   · exact absurd (by simpa using h) hn7
                   · exact absurd h hn8
end
section
open Go Go.RowKit
def own1 : Op → Prop
 | .sel => True
 | .m i _ => i = 0 ∨ i = 1 ∨ i = 3
def low1 (_ : Op) : Prop := False
def view1 (s : BS) : Bri × List Port := (s.b, s.ps.map proj1)
def F1 (s : BS) : Nat := sumP phi1 s.ps + bn (s.ps.any askP) 6
theorem any_set {f : Port → Bool} : ∀ {l : List Port} {k : Nat} {q : Port}, k < l.length → f q = f (l.getD k Port.dflt) → (l.set k q).any f = l.any f
 | [], k, q, h, _ => absurd h (Nat.not_lt_zero _)
 | p :: r, 0, q, _, he => by
   simp only [List.set_cons_zero, List.any_cons]
   rw [he]; rfl
 | p :: r, k + 1, q, h, he => by
   simp only [List.set_cons_succ, List.any_cons]
   rw [any_set (l := r) (k := k) (by simpa using h) (by simpa using he)]
theorem any_mapI {f : Port → Bool} {g : Nat → Port → Port} (h : ∀ i p, f (g i p) = false) : ∀ (l : List Port) (i : Nat), (mapI g l i).any f = false
 | [], i => rfl
 | p :: r, i => by rw [mapI, List.any_cons, h, any_mapI h r]; rfl
theorem any_map1 {f : Port → Bool} {g : Port → Port} (h : ∀ p, f (g p) = f p) (l : List Port) : (l.map g).any f = l.any f := by
 rw [List.any_map]
 congr 1
 exact funext h
theorem stepP_phi (b : Bri) (i : Nat) (p : Port) : phi1 (stepP b i p) ≤ phi1 p + 1 ∧ askP (stepP b i p) = false := by
 have key : ∀ (r : Int) (u : Bool), phi1 { baseP b p with selected := r, flags := { (baseP b p).flags with updtInfo := u } } ≤ phi1 p + 1 := by
   intro r u
   have := bn_le u 1
   show bn p.flags.rcvdBpdu 21 + bn p.flags.rcvdMsg 14 + bn u 1 + w1 p + bn (!p.enabled && p.clocks.edgeDelay != 3) 1 + m1 p ≤ _
   unfold phi1
   omega
 unfold stepP roleF
 refine ⟨?_, ?_⟩
 · repeat' split
   all_goals first | exact key _ _ | exact key _ p.flags.updtInfo
 · repeat' split
   all_goals rfl
theorem dec_loc {n : Nat} {s : BS} {k : Nat} {F : Bri → Port → Port × Bool} (hn : s.ps.length = n) (hk : k < n) (h : (phi1 (F s.b (ptAt s k)).1 < phi1 (ptAt s k) ∧ askP (F s.b (ptAt s k)).1 = askP (ptAt s k)) ∨ phi1 (F s.b (ptAt s k)).1 + 6 < phi1 (ptAt s k)) : F1 (ofP F s k).1 < F1 s := by
 have hkn : k < s.ps.length := by omega
 have hs := sumP_set phi1 s.ps k (F s.b (ptAt s k)).1 hkn
 show sumP phi1 (s.ps.set k (F s.b (ptAt s k)).1) + bn ((s.ps.set k (F s.b (ptAt s k)).1).any askP) 6 < F1 s
 unfold F1
 rw [show s.ps.getD k Port.dflt = ptAt s k from rfl] at hs
 rcases h with ⟨h1, h2⟩ | h1
 · rw [any_set hkn h2]
   omega
 · have := bn_le ((s.ps.set k (F s.b (ptAt s k)).1).any askP) 6
   omega
theorem layer1 {n : Nat} (h5 : n ≤ 5) : Layer n (Inv2 n) low1 own1 (fun _ => ()) view1 F1 where
 inv s o hn ho hI := hI.stp ho
 v1k _ _ _ _ _ _ := rfl
 v1d _ _ _ _ _ _ h := h.elim
 v2k s o hn ho hI _ how := by
   rcases ops_cases ho with rfl | ⟨k, hk, rfl | rfl | rfl | rfl | rfl | rfl | rfl | rfl⟩
   · exact absurd trivial how
   · exact absurd (.inl rfl) how
   · exact absurd (.inr (.inl rfl)) how
   · exact Prod.ext (mach_b 2 s k) (high_keep1 hI hk (by simp))
   · exact absurd (.inr (.inr rfl)) how
   · exact Prod.ext (mach_b 4 s k) (high_keep1 hI hk (by simp))
   · exact Prod.ext (mach_b 5 s k) (high_keep1 hI hk (by simp))
   · exact Prod.ext (mach_b 6 s k) (high_keep1 hI hk (by simp))
   · exact Prod.ext (mach_b 7 s k) (high_keep1 hI hk (by simp))
 v2d s s' o hn hn' ho how hv := by
   have hb : s.b = s'.b := congrArg Prod.fst hv
   have hp : s.ps.map proj1 = s'.ps.map proj1 := congrArg Prod.snd hv
   have hat : ∀ k, proj1 (ptAt s k) = proj1 (ptAt s' k) := fun k => map_at hp k
   rcases ops_cases ho with rfl | ⟨k, hk, rfl | rfl | rfl | rfl | rfl | rfl | rfl | rfl⟩
   · rw [stp_sel, stp_sel, ← any_map1 askP1, hp, any_map1 askP1]
   · rw [stp_rx, stp_rx, ← rxFire1, hat, rxFire1]
   · rw [stp_mig, stp_mig, ← migFire1, hat, migFire1, hb]
   · rcases how with h | h | h <;> omega
   · rw [stp_info, stp_info, ← infoFire1, hat, infoFire1]
   · rcases how with h | h | h <;> omega
   · rcases how with h | h | h <;> omega
   · rcases how with h | h | h <;> omega
   · rcases how with h | h | h <;> omega
 dec s o hn ho hI _ how hf := by
   rcases ops_cases ho with rfl | ⟨k, hk, rfl | rfl | rfl | rfl | rfl | rfl | rfl | rfl⟩
   · rw [stp_sel] at hf
     have hl := sumP_bc phi1 (stepP (stepB s.b s.ps)) 1 (fun i p => (stepP_phi _ i p).1) s.ps 0
     show sumP phi1 (selF s).1.ps + bn ((selF s).1.ps.any askP) 6 < sumP phi1 s.ps + bn (s.ps.any askP) 6
     rw [sel_yes hf]
     show sumP phi1 (mapI (stepP (stepB s.b s.ps)) s.ps 0) + bn ((mapI (stepP (stepB s.b s.ps)) s.ps 0).any askP) 6 < sumP phi1 s.ps + bn (s.ps.any askP) 6
     rw [any_mapI (fun i p => (stepP_phi _ i p).2), hf, bn_true rfl, bn_false rfl]
     omega
   · rw [stp_rx] at hf; exact dec_loc hn hk (.inl (phi1_rx hf))
   · rw [stp_mig] at hf; exact dec_loc hn hk (.inl (phi1_mig hf))
   · rcases how with h | h | h <;> omega
   · rw [stp_info] at hf; exact dec_loc hn hk (phi1_info (hI.i.p k hk) (hI.e k hk) hf)
   · rcases how with h | h | h <;> omega
   · rcases how with h | h | h <;> omega
   · rcases how with h | h | h <;> omega
   · rcases how with h | h | h <;> omega
 dep s s' hv := by
   have hp : s.ps.map proj1 = s'.ps.map proj1 := congrArg Prod.snd hv
   unfold F1
   rw [sumP_map (w := phi1) (g := proj1) (fun p p' e => by rw [← phi1_dep p, e, phi1_dep]) hp, ← any_map1 askP1 s.ps, hp, any_map1 askP1]
theorem F1_le {n : Nat} (h5 : n ≤ 5) {s : BS} (hn : s.ps.length = n) : F1 s ≤ 281 := by
 have h1 := sumP_le phi1 55 phi1_le s.ps
 have h2 := bn_le (s.ps.any askP) 6
 unfold F1
 omega
end
end
end Go.Proofs.YtjemfkoamfnofaaGreat
