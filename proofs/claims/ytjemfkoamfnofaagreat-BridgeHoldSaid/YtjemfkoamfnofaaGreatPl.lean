import Derived.Test.YtjemfkoamfnofaaGreatPh
import Derived.Test.YtjemfkoamfnofaaGreatCl
set_option linter.unusedVariables false
set_option maxRecDepth 100000
namespace Go.Proofs.YtjemfkoamfnofaaGreat
open Go Go.RowKit
theorem downI_rng {x c : Int} (h : 0 ≤ x ∧ x ≤ c) (hc : c ≤ 1000) : 0 ≤ downI x ∧ downI x ≤ c := by
 unfold downI
 have e : IntKind.i64.wrap (x - 1) = x - 1 := by
   rcases Int.lt_or_le x 1 with h1 | h1
   · have : x = 0 := by omega
     rw [this]; rfl
   · exact wrap_small (by omega) (by omega)
 rw [e]
 split <;> omega
theorem tick_inv {b : Bri} {k : Nat} {p : Port} (h : PInv b k p) : PInv b k (tickP p) :=
 { h with ck := ⟨downI_rng h.ck.ed (by decide), downI_rng h.ck.fd (by decide), downI_rng h.ck.hello (by decide), downI_rng h.ck.md (by decide), downI_rng h.ck.rb (by decide), downI_rng h.ck.ri (by decide), downI_rng h.ck.rr (by decide), downI_rng h.ck.tc (by decide), downI_rng h.ck.tx (by decide)⟩ }
theorem start_set {n : Nat} {s : BS} (h : Start n s) {k : Nat} (hk : k < n) {q : Port} (hq : PInv s.b k q) (hu : q.flags.updtInfo = (ptAt s k).flags.updtInfo) (hr : askP q = askP (ptAt s k)) (hi : q.is_ = (ptAt s k).is_) : Start n { s with ps := s.ps.set k q } := by
 have hkn : k < s.ps.length := by rw [h.i.len]; exact hk
 have hat : ∀ j, ptAt { s with ps := s.ps.set k q } j = if j = k then q else ptAt s j := fun j => getD_set hkn
 refine ⟨⟨by rw [List.length_set]; exact h.i.len, h.i.b, fun j hj => ?_⟩, fun j hj => ?_, ?_⟩
 · rw [hat]
   split
   · rename_i e; subst e; exact hq
   · exact h.i.p j hj
 · rw [hat]
   split
   · rename_i e; subst e; rw [hu]; exact h.u j hj
   · exact h.u j hj
 · rcases h.r with h1 | h1
   · refine .inl ?_
     show (s.ps.set k q).any askP = false
     rw [any_set hkn hr]; exact h1
   · refine .inr fun j hj => ?_
     rw [hat]
     split
     · rename_i e; subst e; rw [hi]; exact h1 j hj
     · exact h1 j hj
theorem Rest.start {n : Nat} {s : BS} (h : Rest n s) : Start n s := ⟨h.i.i, fun j hj => (h.quiet hj).upd, .inl h.ask⟩
theorem start_tick {n : Nat} {s : BS} (h : Start n s) : Start n (tickF s) := by
 have hat : ∀ j, j < n → ptAt (tickF s) j = tickP (ptAt s j) := fun j hj => getD_map tickP s.ps j (by rw [h.i.len]; exact hj)
 refine ⟨⟨(tick_len s).1.trans h.i.len, h.i.b, fun j hj => ?_⟩, fun j hj => ?_, ?_⟩
 · rw [hat j hj]; exact tick_inv (h.i.p j hj)
 · rw [hat j hj]; exact h.u j hj
 · rcases h.r with h1 | h1
   · refine .inl ?_
     show (s.ps.map tickP).any askP = false
     rw [any_map1 (f := askP) (g := tickP) fun _ => rfl]; exact h1
   · exact .inr fun j hj => by rw [hat j hj]; exact h1 j hj
theorem start_enable {n : Nat} {s : BS} (h : Start n s) {k : Int} (h0 : 0 ≤ k) (hk : k < n) (on : Bool) : Start n (enableF s k on).1 := by
 unfold enableF
 split
 · exact h
 · exact start_set h (k := k.toNat) (by omega) { h.i.p k.toNat (by omega) with } rfl rfl rfl
theorem start_check {n : Nat} {s : BS} (h : Start n s) {k : Int} (h0 : 0 ≤ k) (hk : k < n) : Start n (checkF s k).1 := by
 unfold checkF
 split
 · exact start_set h (k := k.toNat) (by omega) { h.i.p k.toNat (by omega) with } rfl rfl rfl
 · exact h
theorem start_hear {n : Nat} {s : BS} (h : Start n s) {k : Int} (h0 : 0 ≤ k) (hk : k < n) {m : Msg} (hm : Upt 256 m.times) : Start n (hearF s k m).1 := by
 unfold hearF
 split
 · exact h
 · have hkn : k.toNat < s.ps.length := by rw [h.i.len]; omega
   have h1 := start_set h (k := k.toNat) (q := msgP m (portAt s k)) (by omega) { h.i.p k.toNat (by omega) with t3 := hm } rfl rfl rfl
   have h2 := start_set h1 (k := k.toNat) (q := bpP (ptAt { s with ps := s.ps.set k.toNat (msgP m (portAt s k)) } k.toNat)) (by omega) { h1.i.p k.toNat (by omega) with } rfl rfl rfl
   exact h2
theorem told_upt {a : Todo} (h : noTold a = false) : Upt 256 a.msg.times := by
 simp only [noTold, toldM, Bool.not_eq_false', Bool.and_eq_true, decide_eq_true_eq] at h
 exact ⟨⟨by omega, by omega⟩, ⟨by omega, by omega⟩, ⟨by omega, by omega⟩, ⟨by omega, by omega⟩⟩
theorem act_start {n : Nat} {s : BS} (h : Rest n s) (hn : 1 ≤ n) {a : Todo} (hp : 0 ≤ a.port ∧ a.port < 256) (ht : noTold a = false) : Start n (actF n s a) := by
 have hk := actK_rng hn hp
 unfold actF
 split
 · exact start_tick h.start
 · split
   · exact start_enable h.start hk.1 hk.2 _
   · split
     · exact start_hear h.start hk.1 hk.2 (told_upt ht)
     · exact start_check h.start hk.1 hk.2
theorem Rest.clr {n : Nat} {s : BS} (h : Rest n s) : Rest n (clr s) := by
 refine ⟨⟨⟨h.i.i.len, h.i.i.b, h.i.i.p⟩, h.i.e⟩, still_of (lazy n) h.i.i.len fun o ho => ?_⟩
 have hoff := h.off o ho
 rcases ops_cases ho with rfl | ⟨k, hk, rfl | rfl | rfl | rfl | rfl | rfl | rfl | rfl⟩
 · rw [stp_sel] at hoff ⊢; exact hoff
 · rw [stp_rx] at hoff ⊢; exact hoff
 · rw [stp_mig] at hoff ⊢; exact hoff
 · rw [stp_edge] at hoff ⊢; exact hoff
 · rw [stp_info] at hoff ⊢; exact hoff
 · rw [stp_trans] at hoff ⊢; exact hoff
 · rw [stp_pass] at hoff ⊢; exact hoff
 · rw [stp_topo] at hoff ⊢; exact hoff
 · have h1 : (txX s k (ptAt s k) (txR s.b k (ptAt s k))).2 = false := hoff
   show (txX (Go.Proofs.YtjemfkoamfnofaaGreat.clr s) k (ptAt s k) (txR s.b k (ptAt s k))).2 = false
   revert h1
   cases txR s.b k (ptAt s k) <;> intro h1 <;> first | rfl | cases h1
theorem new_ok5 (rst : Bool) (L : List Conf) (h : L.length ≤ 32) : (lvN rst L).2.2 = true := by
 have hp : ∀ c : Conf, wrongP (newP c rst lvTm) = false := by
   intro c
   unfold newP
   split <;> rfl
 have hf : ∀ (l : List Conf), (newPs l rst lvTm).any wrongP = false := by
   intro l
   induction l with
   | nil => rfl
   | cons c r ih => show (wrongP (newP c rst lvTm) || (newPs r rst lvTm).any wrongP) = false; rw [hp, ih]; rfl
 have hR : cRightF (newB 7 rst lvTm 6) (newPs L rst lvTm) = true := by
   unfold cRightF crBad crOk
   rw [findI_any, hf, newPs_length]
   have e1 : ¬ ((L.length : Int) > 32) := by omega
   have e2 : ¬ ((newB 7 rst lvTm 6).rootPort ≥ (L.length : Int)) := by show ¬ ((-1 : Int) ≥ L.length); omega
   rw [decide_eq_false e1, decide_eq_false e2]
   rfl
 unfold lvN newOf
 rw [if_pos hR]
theorem newP_inv (b : Bri) (k : Nat) (c : Conf) (rst : Bool) : PInv b k (newP c rst lvTm) := by
 have key : ∀ e : Int, 0 ≤ e ∧ e ≤ 1 → PInv b k (newQ c rst lvTm e) := by
   intro e he
   have z : Upt 257 ⟨0, 0, 0, 0⟩ := ⟨by decide, by decide, by decide, by decide⟩
   have z' : Upt 256 ⟨0, 0, 0, 0⟩ := ⟨by decide, by decide, by decide, by decide⟩
   refine { role := of_decide_eq_true rfl, sel := of_decide_eq_true rfl, is_ := of_decide_eq_true rfl, st := ⟨of_decide_eq_true rfl, of_decide_eq_true rfl, he, of_decide_eq_true rfl, of_decide_eq_true rfl, of_decide_eq_true rfl, of_decide_eq_true rfl⟩, ck := ⟨of_decide_eq_true rfl, of_decide_eq_true rfl, of_decide_eq_true rfl, of_decide_eq_true rfl, of_decide_eq_true rfl, of_decide_eq_true rfl, of_decide_eq_true rfl, of_decide_eq_true rfl, of_decide_eq_true rfl⟩, tr := ⟨fun _ => rfl, fun h => absurd h (of_decide_eq_false rfl), fun h => absurd h (of_decide_eq_false rfl), fun h => absurd h (of_decide_eq_false rfl)⟩, lf := fun _ _ => ⟨rfl, rfl⟩, pass := ⟨fun _ => ⟨rfl, rfl⟩, fun _ => rfl⟩, inf := ⟨⟨fun _ => rfl, fun _ => rfl⟩, ⟨fun h => absurd h (of_decide_eq_false rfl), fun h => absurd h (of_decide_eq_false rfl)⟩⟩, is0 := fun _ _ => rfl, is1 := fun h _ => absurd rfl h, rt := fun h => absurd h (of_decide_eq_false rfl), rs := rfl, i1 := fun h => absurd h (of_decide_eq_false rfl), t1 := z, t2 := z, t3 := z', t4 := fun h => absurd h (of_decide_eq_false rfl) }
 unfold newP
 split
 · exact key 0 (by decide)
 · exact key 1 (by decide)
theorem newPs_at (L : List Conf) (rst : Bool) (j : Nat) (h : j < L.length) : (newPs L rst lvTm).getD j Port.dflt = newP (L.getD j Conf.dflt) rst lvTm := by
 simp [newPs, List.getD_eq_getElem?_getD, h]
theorem start_new (rst : Bool) (L : List Conf) (h : L.length ≤ 32) : Start L.length (lvS0 rst L) := by
 have hn := lvN_eq (new_ok5 rst L h)
 have e : lvS0 rst L = ⟨newB 7 rst lvTm 6, newPs L rst lvTm, [], []⟩ := by unfold lvS0; rw [hn]
 rw [e]
 have hat : ∀ j, j < L.length → ptAt ⟨newB 7 rst lvTm 6, newPs L rst lvTm, [], []⟩ j = newP (L.getD j Conf.dflt) rst lvTm := fun j hj => newPs_at L rst j hj
 have hpi : ∀ c : Conf, (newP c rst lvTm).is_ = 0 ∧ (newP c rst lvTm).flags.updtInfo = false := by
   intro c
   unfold newP
   split <;> exact ⟨rfl, rfl⟩
 refine ⟨⟨newPs_length L rst lvTm, ⟨rfl, rfl, rfl, ⟨of_decide_eq_true rfl, by show (-1 : Int) < _; omega⟩, ⟨of_decide_eq_true rfl, of_decide_eq_true rfl, of_decide_eq_true rfl, of_decide_eq_true rfl⟩⟩, fun j hj => ?_⟩, fun j hj => ?_, .inr fun j hj => ?_⟩
 · rw [hat j hj]; exact newP_inv _ _ _ _
 · rw [hat j hj]; exact (hpi _).2
 · rw [hat j hj]; exact (hpi _).1
theorem live_rest {rst : Bool} {L : List Conf} {A : List Todo} (h1 : 1 ≤ L.length) (h5 : L.length ≤ 5) (hp : ∀ a ∈ A, 0 ≤ a.port ∧ a.port < 256) (ht : A.any noTold = false) : (liveF rst L A).2 = true ∧ Rest L.length (liveF rst L A).1 ∧ (liveF rst L A).1.out.length ≤ 10000000 ∧ (liveF rst L A).1.fl.length ≤ 10000000 := by
 have hs := start_new rst L (by omega)
 obtain ⟨e1, e2, _⟩ := hs.run h5
 have hl := runF_len (lvS0 rst L) (by have := hs.i.len; omega)
 have ho : (lvS0 rst L).out.length = 0 := rfl
 have hf : (lvS0 rst L).fl.length = 0 := rfl
 have key : ∀ (A : List Todo) (s : BS), (∀ a ∈ A, 0 ≤ a.port ∧ a.port < 256) → A.any noTold = false → Rest L.length s → s.out.length ≤ 10000000 → s.fl.length ≤ 10000000 → (liveL L.length A (s, true)).2 = true ∧ Rest L.length (liveL L.length A (s, true)).1 ∧ (liveL L.length A (s, true)).1.out.length ≤ 10000000 ∧ (liveL L.length A (s, true)).1.fl.length ≤ 10000000 := by
   intro A
   induction A with
   | nil => intro s _ _ hR ho hf; exact ⟨rfl, hR, ho, hf⟩
   | cons a r ih =>
     intro s hp ht hR _ _
     simp only [List.any_cons, Bool.or_eq_false_iff] at ht
     obtain ⟨r1, r2, _⟩ := (act_start hR h1 (hp a List.mem_cons_self) ht.1).run h5
     rw [liveL, if_pos rfl, r1]
     exact ih _ (fun a' ha' => hp a' (List.mem_cons_of_mem _ ha')) ht.2 r2.clr (Nat.zero_le _) (Nat.zero_le _)
 unfold liveF lvS1
 rw [e1]
 exact key A _ hp ht e2 (by omega) (by omega)
end Go.Proofs.YtjemfkoamfnofaaGreat
