import Derived.Test.YtjemfkoamfnofaaGreatPn
import Derived.Test.YtjemfkoamfnofaaGreatCo
set_option linter.unusedVariables false
set_option maxRecDepth 100000
namespace Go.Proofs.YtjemfkoamfnofaaGreat
open Go Go.RowKit
theorem low_tick {n : Nat} {b : Bri} {s : BS} (hl : s.ps.length = n) (h : Low n b s) : Low n b (tickF s) := by
 refine ⟨h.b, h.o, fun j hj => ?_⟩
 have e : ptAt (tickF s) j = tickP (ptAt s j) := getD_map tickP s.ps j (by omega)
 rw [e]; exact h.p j hj
theorem low_sec {n : Nat} (h5 : n ≤ 5) {b : Bri} : ∀ (m : Nat) (s : BS), Start n s → Low n b s → Low n b (secL m s)
 | 0, s, _, h => by rw [secL_zero]; exact h
 | m + 1, s, hs, h => by
   rw [secL_succ]
   have ht := start_tick hs
   exact low_sec h5 m _ (ht.run h5).2.1.start (run_keep h5 (fun s o ho hl h => low_stp hl ho h) ht (low_tick hs.i.len h))
theorem enable_ri {n : Nat} {s : BS} (hl : s.ps.length = n) {k : Int} (h0 : 0 ≤ k) (hk : k < n) (on : Bool) (h : RI n s) : RI n (enableF s k on).1 := by
 have hb : (enableF s k on).1.b = s.b := by unfold enableF; split <;> rfl
 refine h.of hb fun j hj => ?_
 obtain ⟨_, e1, e2⟩ := enable_ps hl h0 hk on j
 rw [e1, e2]
 exact ⟨fun h => h, fun h => .inl h⟩
structure Lowd (n i : Nat) (s0 s : BS) : Prop where
 st : Start n s
 ri : RI n s
 o : s.out = s0.out
 f : s.fl = s0.fl
 en : ∀ j, j < i → (ptAt s j).enabled = false
theorem low_all {n : Nat} {s0 : BS} : ∀ (m i : Nat) (s : BS), i + m = n → Lowd n i s0 s → Lowd n n s0 (lowL m i s)
 | 0, i, s, e, h => by
   have : i = n := by omega
   subst this
   exact h
 | m + 1, i, s, e, h => by
   rw [lowL]
   have hi : (0 : Int) ≤ (i : Int) ∧ (i : Int) < n := by omega
   have hl := enable_len s i false
   refine low_all m (i + 1) _ (by omega) ⟨start_enable h.st hi.1 hi.2 _, enable_ri h.st.i.len hi.1 hi.2 _ h.ri, hl.2.1.trans h.o, hl.2.2.trans h.f, fun j hj => ?_⟩
   rw [(enable_ps h.st.i.len hi.1 hi.2 false j).1]
   split
   · rfl
   · rename_i hne
     exact h.en j (by have : j ≠ i := fun e => hne (by rw [e]; rfl)
                      omega)
theorem Rest.low {n : Nat} {s : BS} (h : Rest n s) {j : Nat} (hj : j < n) (he : (ptAt s j).enabled = false) : LowP (ptAt s j) := by
 have q := h.quiet hj
 have hp := h.i.i.p j hj
 have hz := q.off.1 he
 have hr : (ptAt s j).role = 0 := by
   rcases Decidable.em ((ptAt s j).role = 0) with h0 | h0
   · exact h0
   · rw [q.on.2 h0] at he; cases he
 exact ⟨he, hz, q.res, by rw [← q.role]; exact hr, q.msg, q.bpdu, q.sel, q.upd, hp.inf.1.2 hz, hr⟩
theorem down_true (S : Stat) (y : T2P) (hp : ∀ a ∈ y.p.A, 0 ≤ a.port ∧ a.port < 256) (hx : 0 ≤ y.x ∧ y.x < 256) : ∃ v, (dwW S y).sel = some v ∧ ∀ S' E, v.den S' E = .bool true := by
 cases hG : rsG y.p with
 | true => exact ⟨_, Out.way_sel (dw_far S y) (by rw [hG]), fun _ _ => rfl⟩
 | false =>
   have hG' := hG
   simp only [rsG, Bool.or_eq_false_iff, decide_eq_false_iff_not] at hG
   have h1 : 1 ≤ y.p.L.length := by omega
   have h5 : y.p.L.length ≤ 5 := by omega
   have hL : rsL y.p = true := decide_eq_true ⟨rfl, rfl, by omega⟩
   cases ht : y.p.A.any noTold with
   | true => exact ⟨_, Out.way_sel (dw_told S y) (by rw [hG', hL, ht]), fun _ _ => rfl⟩
   | false =>
     obtain ⟨r1, r2, r3, r4⟩ := live_rest (rst := y.p.rst) h1 h5 hp ht
     have hri := live_ri (rst := y.p.rst) h1 h5 hp ht
     have hV : rsV y.p = true := by
       have : lvOk y.p.rst y.p.L y.p.A = true := by
         unfold lvOk
         rw [new_ok5 y.p.rst y.p.L (by omega), Bool.true_and]
         exact decide_eq_true ⟨h1, by omega, by omega, hp⟩
       unfold rsV
       rw [this]
       simp
     have r2 : Rest y.p.L.length (rsS y.p) := r2
     have hri : RI y.p.L.length (rsS y.p) := hri
     have r3 : (rsS y.p).out.length ≤ 10000000 := r3
     have r4 : (rsS y.p).fl.length ≤ 10000000 := r4
     have l0 : (rsS y.p).ps.length = y.p.L.length := r2.i.i.len
     have hk : 0 ≤ dwK y ∧ dwK y < y.p.L.length := byte_rng (by omega) hx
     have hkn : (dwK y).toNat < y.p.L.length := by omega
     -- lowered, and Run
     have s1 : Start y.p.L.length (dw1 y) := start_enable r2.start hk.1 hk.2 false
     have i1 : RI y.p.L.length (dw1 y) := enable_ri l0 hk.1 hk.2 false hri
     have l1 := enable_len (rsS y.p) (dwK y) false
     have l1a : (dw1 y).ps.length = y.p.L.length := s1.i.len
     have l1b : (dw1 y).out.length ≤ 10000000 := by show (enableF (rsS y.p) (dwK y) false).1.out.length ≤ _; rw [l1.2.1]; exact r3
     have l1c : (dw1 y).fl.length ≤ 10000000 := by show (enableF (rsS y.p) (dwK y) false).1.fl.length ≤ _; rw [l1.2.2]; exact r4
     have s2 : Rest y.p.L.length (dw2 y) := (s1.run h5).2.1
     have i2 : RI y.p.L.length (dw2 y) := run_ri h5 s1 i1
     have e2 : (ptAt (dw2 y) (dwK y).toNat).enabled = false := by
       show (ptAt (runF (dw1 y)).1 (dwK y).toNat).enabled = false
       rw [run_en h5 s1 hkn]
       show (ptAt (enableF (rsS y.p) (dwK y) false).1 (dwK y).toNat).enabled = false
       rw [(enable_ps l0 hk.1 hk.2 false _).1, if_pos rfl]
     have l2a : (dw2 y).ps.length = y.p.L.length := s2.i.i.len
     have l2 := runF_len (dw1 y) (by omega)
     have l2b : (dw2 y).out.length ≤ 18000000 := by have : (dw2 y).out.length ≤ (dw1 y).out.length + 8000000 := l2.2.1; omega
     have l2c : (dw2 y).fl.length ≤ 18000000 := by have : (dw2 y).fl.length ≤ (dw1 y).fl.length + 8000000 := l2.2.2; omega
     have hpr : ptAt (dw2 y) (dwK y).toNat = dwP y := rfl
     have hlow := s2.low hkn e2
     have hfw := s2.fwd hkn (by rw [hlow.role]; decide)
     have hbad : dwBad y = false := by
       have ea : (enableF (rsS y.p) (dwK y) false).2 = (portAt (rsS y.p) (dwK y)).enabled := by
         unfold enableF
         cases (portAt (rsS y.p) (dwK y)).enabled <;> rfl
       unfold dwBad
       rw [ea, ← hpr, hlow.role, hfw.1, hfw.2.2.1, hfw.2.2.2]
       simp
     -- all lowered
     have hl := low_all (s0 := dw2 y) y.p.L.length 0 (dw2 y) (by omega) ⟨s2.start, i2, rfl, rfl, fun j hj => absurd hj (Nat.not_lt_zero _)⟩
     have hl : Lowd y.p.L.length y.p.L.length (dw2 y) (dwLo y) := hl
     have l3a : (dwLo y).ps.length = y.p.L.length := hl.st.i.len
     have s3 : Rest y.p.L.length (dw3 y) := (hl.st.run h5).2.1
     have i3 : RI y.p.L.length (dw3 y) := run_ri h5 hl.st hl.ri
     have e3 : ∀ j, j < y.p.L.length → (ptAt (dw3 y) j).enabled = false := fun j hj => (run_en h5 hl.st hj).trans (hl.en j hj)
     have l3 := runF_len (dwLo y) (by omega)
     have l3b : (dw3 y).ps.length = y.p.L.length := s3.i.i.len
     have l3c : (dw3 y).fl.length ≤ 50000000 := by have : (dw3 y).fl.length ≤ (dwLo y).fl.length + 8000000 := l3.2.2; rw [hl.f] at this; omega
     have hroom1 : roomRun (dwLo y) = true := decide_eq_true ⟨by omega, by rw [hl.o]; omega, by rw [hl.f]; omega⟩
     have hlw : ∀ j, j < y.p.L.length → LowP (ptAt (dw3 y) j) := fun j hj => s3.low hj (e3 j hj)
     have hroot : (dw3 y).b.rootPort = -1 ∧ (dw3 y).b.root.root = 7 := by
       rcases i3 with ⟨j, hj, h⟩ | ⟨j, hj, h⟩ | h
       · rw [(hlw j hj).res] at h; cases h
       · exact absurd (hlw j hj).is_ h
       · exact h
     have hS3 := s3.start
     have hd : Low y.p.L.length (dw3 y).b (dw4 y) := low_sec h5 5 _ ⟨⟨hS3.i.len, hS3.i.b, hS3.i.p⟩, hS3.u, hS3.r⟩ ⟨rfl, rfl, fun j hj => (hlw j hj).to⟩
     refine ⟨_, Out.way_sel (dw_end S y) ?_, fun S' E => ?_⟩
     · have hix : ixB (rsS y.p) (dwK y) = true := by simp only [ixB, Bool.and_eq_true, decide_eq_true_eq]; omega
       have t8 : bsT (rsS y.p).ps.length (rsS y.p) (ixB (rsS y.p) (dwK y)) (dw1 y).ps.length = true := bsT_true rfl hix (by omega)
       have t9 : bsT (rsS y.p).ps.length (dw1 y) (roomRun (dw1 y)) (dw2 y).ps.length = true := bsT_true (by omega) (roomRun_true (by omega) l1b l1c) (by omega)
       have t14 : bsT (dwLo y).ps.length (dwLo y) (roomRun (dwLo y)) (dw3 y).ps.length = true := bsT_true rfl hroom1 (by omega)
       rw [hG', hL, ht, hV, hbad, r1, t8, t9, t14]
       have c1 : ixK (rsS y.p).ps.length (dwK y) = true := by
         unfold ixK
         rw [decide_eq_true hk.1, decide_eq_true (by omega)]; rfl
       have c2 : decide ((dwK y).toNat < (rsS y.p).ps.length) = true := decide_eq_true (by omega)
       have c3 : decide ((dwK y).toNat < (dw2 y).ps.length) = true := decide_eq_true (by omega)
       have c4 : ((y.p.L.length : Int) == 0) = false := beq_eq_false_iff_ne.2 (by omega)
       have c5 : (((rsS y.p).ps.length : Int) != y.p.L.length) = false := by rw [l0]; simp
       rw [c1, c2, c3, c4, c5, decide_eq_true ⟨rfl, by omega, rfl, rfl⟩, decide_eq_true ⟨by omega, l2a⟩, decide_eq_true ⟨by omega, rfl⟩, decide_eq_true ⟨by omega, l3c⟩]
       rfl
     · rw [hd.b, hroot.1, hroot.2, hd.o]
       rfl
end Go.Proofs.YtjemfkoamfnofaaGreat
