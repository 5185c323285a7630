import Derived.Test.YtjemfkoamfnofaaGreatCs
set_option linter.unusedVariables false
set_option maxRecDepth 100000
namespace Go.Proofs.YtjemfkoamfnofaaGreat
open Go Go.RowKit
structure HeI (n : Nat) (c : Nat → Nat) (s : BS) : Prop where
 st : Start n s
 hi : HI n c s
theorem up_hei {n : Nat} {c : Nat → Nat} : ∀ (m i : Nat) (s : BS), i + m = n → HeI n c s → HeI n c (upH m i s)
 | 0, i, s, e, h => h
 | m + 1, i, s, e, h => by
   unfold upH
   have hi : (0 : Int) ≤ (i : Int) ∧ (i : Int) < n := by omega
   have hl := enable_len s i true
   refine up_hei m (i + 1) _ (by omega) ⟨start_enable h.st hi.1 hi.2 _, h.hi.same hl.2.1 ?_⟩
   unfold enableF
   split
   · rfl
   · refine map_ext gC (by rw [List.length_set]) fun j hj => ?_
     rw [List.length_set] at hj
     have hkn : (i : Int).toNat < s.ps.length := by rw [h.st.i.len]; omega
     rw [getD_set hkn]
     split
     · rename_i ej; rw [ej]; rfl
     · rfl
theorem up_len (m : Nat) : ∀ (i : Nat) (s : BS), (upH m i s).ps.length = s.ps.length ∧ (upH m i s).out = s.out ∧ (upH m i s).fl = s.fl := by
 induction m with
 | zero => intro i s; exact ⟨rfl, rfl, rfl⟩
 | succ m ih =>
   intro i s
   have hl := enable_len s i true
   have h2 := ih (i + 1) (enableF s i true).1
   unfold upH
   exact ⟨h2.1.trans hl.1, h2.2.1.trans hl.2.1, h2.2.2.trans hl.2.2⟩
theorem hear_hei {n : Nat} {c : Nat → Nat} {s : BS} (h : HeI n c s) {k : Int} (h0 : 0 ≤ k) (hk : k < n) {m : Msg} (hm : Upt 256 m.times) : HeI n c (hearF s k m).1 := by
 have hl := hear_len s k m
 refine ⟨start_hear h.st h0 hk hm, h.hi.same hl.2.1 ?_⟩
 unfold hearF
 split
 · rfl
 · refine map_ext gC ?_ fun j hj => ?_
   · show (modI k bpP (s.ps.set k.toNat (msgP m (portAt s k)))).length = _
     have := hl.1
     unfold hearF at this
     rename_i hno
     rw [if_neg hno] at this
     exact this
   · have hkn : k.toNat < s.ps.length := by rw [h.st.i.len]; omega
     have e : modI k bpP (s.ps.set k.toNat (msgP m (portAt s k))) = (s.ps.set k.toNat (msgP m (portAt s k))).set k.toNat (bpP ((s.ps.set k.toNat (msgP m (portAt s k))).getD k.toNat Port.dflt)) := rfl
     show gC ((modI k bpP (s.ps.set k.toNat (msgP m (portAt s k)))).getD j Port.dflt) = _
     rw [e, getD_set (by rw [List.length_set]; exact hkn), getD_set hkn, getD_set hkn]
     split
     · rename_i ej
       rw [if_pos rfl, ej]; rfl
     · rfl
theorem HI.clr {n : Nat} {c : Nat → Nat} {s : BS} (h : HI n c s) : HI n (fun k => c k + cntS k s.out) { s with out := [] } := ⟨fun k hk => h.c k hk, fun x hx => by cases hx⟩
theorem start_out {n : Nat} {s : BS} (h : Start n s) : Start n { s with out := [] } := ⟨⟨h.i.len, h.i.b, h.i.p⟩, h.u, h.r⟩
theorem he_all {p : HdP} (h1 : 1 ≤ p.L.length) (h5 : p.L.length ≤ 5) : ∀ (A : List Todo) (c : Nat → Nat) (s : BS) (X : List Int), (∀ a ∈ A, 0 ≤ a.port ∧ a.port < 256) → HeI p.L.length c s → X.length = p.L.length → (∀ k, k < X.length → X.getD k 0 = (c k : Int)) → (∀ k, c k ≤ 6 ∨ p.L.length ≤ k) → s.out.length ≤ 100000 →
   heOk p A s = true ∧ ∀ y, heAll p A s X = some y → y.2.length = p.L.length ∧ ∀ x ∈ y.2, ¬ x > 6
 | [], c, s, X, _, _, hX, hc, h6, _ => by
   refine ⟨rfl, fun y hy => ?_⟩
   obtain rfl := Option.some.inj hy
   refine ⟨hX, fun x hx => ?_⟩
   obtain ⟨k, hk, rfl⟩ := List.getElem_of_mem hx
   have hk' : k < X.length := hk
   have := hc k hk'
   rw [List.getD_eq_getElem?_getD, List.getElem?_eq_getElem hk'] at this
   have e : X[k] = (c k : Int) := this
   show ¬ X[k] > 6
   rw [e]
   rcases h6 k with h | h
   · omega
   · omega
 | a :: r, c, s, X, hp, hI, hX, hc, h6, ho => by
   rw [heOk]
   cases hnt : noTold a with
   | true => exact ⟨rfl, fun y hy => by rw [heAll, if_pos hnt] at hy; cases hy⟩
   | false =>
     have hk := actK_rng h1 (hp a List.mem_cons_self)
     have hh : HeI p.L.length c (heB p s a) := hear_hei hI hk.1 hk.2 (told_upt hnt)
     obtain ⟨_, q2, _⟩ := hh.st.run h5
     have q2 : Rest p.L.length (heR p s a) := q2
     have qh : HI p.L.length c (heR p s a) := run_hi h5 hh.st hh.hi
     have hl := run_len_he p s a (by rw [hI.st.i.len]; exact h5)
     have hcr : ∀ k, k < p.L.length → c k + cntS k (heR p s a).out ≤ 6 := fun k hk => by
       have a1 := qh.c k hk
       have a2 := (q2.i.i.p k hk).ck.tx
       have a3 : gC (ptAt (heR p s a) k) ≤ 6 := a2.2
       omega
     have hn : HeI p.L.length (fun k => c k + cntS k (heR p s a).out) (heN p s a) := ⟨start_out q2.start, qh.clr⟩
     have hb : ∀ k, k < (bump X (heR p s a).out).length → (bump X (heR p s a).out).getD k 0 = ((c k + cntS k (heR p s a).out : Nat) : Int) := by
       intro k hk
       rw [bump_len'] at hk
       have key := bump_at (heR p s a).out X (fun k => if k < X.length then c k else 0) 6 (fun d hd => by rw [hX]; exact qh.o d hd) (fun k hk => by rw [if_pos hk]; exact hc k hk) (fun k => by
         split
         · rcases h6 k with h | h
           · exact h
           · omega
         · omega) (by have := hl.2.1; omega) k hk
       rw [key, if_pos hk]
     have ih := he_all h1 h5 r (fun k => if k < p.L.length then c k + cntS k (heR p s a).out else 0) (heN p s a) (bump X (heR p s a).out) (fun a' ha' => hp a' (List.mem_cons_of_mem _ ha')) ⟨hn.st, ⟨fun k hk => by rw [if_pos hk]; exact hn.hi.c k hk, hn.hi.o⟩⟩ ((bump_len' _ _).trans hX) (fun k hk => by rw [hb k hk, if_pos (by rw [bump_len'] at hk; omega)]) (fun k => by
         by_cases hk : k < p.L.length
         · rw [if_pos hk]; exact .inl (hcr k hk)
         · exact .inr (by omega)) (Nat.zero_le _)
     rw [if_neg (by decide)]
     refine ⟨?_, fun y hy => ?_⟩
     · rw [ih.1, Bool.and_true]
       exact decide_eq_true qh.o
     · rw [heAll, if_neg (by rw [hnt]; decide)] at hy
       exact ih.2 y hy
theorem hold_true (S : Stat) (y : HwP) (hp : ∀ a ∈ y.A, 0 ≤ a.port ∧ a.port < 256) : ∃ v, (hwW S y).sel = some v ∧ ∀ S' E, v.den S' E = .bool true := by
 cases hG : hwG y with
 | true => exact ⟨_, Out.way_sel (hw_far S y) (by rw [hG]), fun _ _ => rfl⟩
 | false =>
   have hG' := hG
   simp only [hwG, Bool.or_eq_false_iff, decide_eq_false_iff_not] at hG
   have h1 : 1 ≤ y.L.length := by omega
   have h5 : y.L.length ≤ 5 := by omega
   have hA : y.A.length ≤ 40 := by omega
   have hs0 := start_new y.rst y.L (by omega)
   obtain ⟨r1, r2, r3, r4⟩ := live_rest (rst := y.rst) (A := []) h1 h5 (fun a ha => by cases ha) rfl
   have r2 : Rest y.L.length (hw0 y) := r2
   have r4 : (hw0 y).fl.length ≤ 10000000 := r4
   have l0 : (hw0 y).ps.length = y.L.length := r2.i.i.len
   have h0 : HI y.L.length (fun _ => 0) (hw0 y) := by
     have : HI y.L.length (fun _ => 0) (lvS0 y.rst y.L) := ⟨fun k hk => by
       have := (hs0.i.p k hk).ck.tx.1
       exact this, fun x hx => by cases hx⟩
     exact run_hi h5 hs0 this
   have hu : HeI y.L.length (fun _ => 0) (hwS y) := up_hei y.L.length 0 (hw0 y) (by omega) ⟨r2.start, h0⟩
   have hul := up_len y.L.length 0 (hw0 y)
   have lu : (hwS y).ps.length = y.L.length := hul.1.trans l0
   have luo : (hwS y).out = (hw0 y).out := hul.2.1
   have luf : (hwS y).fl = (hw0 y).fl := hul.2.2
   have lo : (hw0 y).out.length ≤ 40000 := by
     have := (runF_len5 (lvS0 y.rst y.L) (by rw [hs0.i.len]; exact h5)).2.1
     have e : (lvS0 y.rst y.L).out.length = 0 := rfl
     have this : (hw0 y).out.length ≤ (lvS0 y.rst y.L).out.length + 40000 := this
     omega
   have hX : (hwX y).length = y.L.length := List.length_replicate
   have hall := he_all (p := hwP y) h1 h5 y.A (fun _ => 0) (hwS y) (hwX y) hp hu hX (fun k hk => by
     show (List.replicate y.L.length (0 : Int)).getD k 0 = 0
     rw [List.getD_eq_getElem?_getD, List.getElem?_replicate]
     split <;> rfl) (fun k => .inl (Nat.zero_le _)) (by rw [luo]; omega)
   have c2 : lvOk y.rst y.L [] = true := by
     unfold lvOk
     rw [new_ok5 y.rst y.L (by omega), Bool.true_and]
     exact decide_eq_true ⟨h1, by omega, by simp, fun a ha => by cases ha⟩
   have d1 : decide (y.L.length = y.L.length) = true := decide_eq_true rfl
   have d3 : decide (y.L.length = y.L.length ∧ y.A.length = y.A.length ∧ (hw0 y).ps.length = (hw0 y).ps.length ∧ (hw0 y).out.length = (hw0 y).out.length ∧ (hw0 y).fl.length = (hw0 y).fl.length) = true := decide_eq_true ⟨rfl, rfl, rfl, rfl, rfl⟩
   have d4 : decide ((liveF y.rst y.L []).2 = true ∧ y.L.length ≤ 1000 ∧ (hw0 y).ps.length = y.L.length) = true := decide_eq_true ⟨r1, by omega, l0⟩
   have d5 : decide (0 ≤ (y.L.length : Int) ∧ (y.L.length : Int) ≤ 100000 ∧ (y.L.length : Int) = y.L.length) = true := decide_eq_true ⟨by omega, by omega, rfl⟩
   have d6 : decide (y.L.length = y.L.length ∧ y.A.length = y.A.length ∧ y.L.length = (hwX y).length ∧ (hwS y).ps.length = (hwS y).ps.length ∧ (hwS y).out.length = (hwS y).out.length ∧ (hwS y).fl.length = (hwS y).fl.length) = true := decide_eq_true ⟨rfl, rfl, hX.symm, rfl, rfl, rfl⟩
   have d7 : decide (1 ≤ y.L.length ∧ y.L.length ≤ 5 ∧ y.A.length ≤ 1000 ∧ (hwS y).ps.length = y.L.length ∧ (hwX y).length = y.L.length ∧ (hwS y).out.length ≤ 50000000 ∧ (hwS y).fl.length ≤ 50000000 ∧ ∀ a ∈ y.A, 0 ≤ a.port ∧ a.port < 256) = true := decide_eq_true ⟨h1, h5, by omega, lu, hX, by rw [luo]; omega, by rw [luf]; omega, hp⟩
   cases hR : hwR y with
   | none =>
     refine ⟨_, Out.way_sel (hw_told S y) ?_, fun S' E => rfl⟩
     unfold hwC
     rw [hG', c2, d1, d3, d4, d5, d6, d7, hall.1, hR]
     rfl
   | some z =>
     have hz := hall.2 z hR
     have eZ : hwZ y = z.2 := by unfold hwZ; rw [hR]; rfl
     refine ⟨_, Out.way_sel (hw_end S y) ?_, fun S' E => rfl⟩
     have d8 : decide (y.L.length = (hwZ y).length ∧ (hwZ y).length = (hwZ y).length ∧ (hwZ y).length ≤ 1000) = true := decide_eq_true ⟨by rw [eZ]; exact hz.1.symm, rfl, by rw [eZ, hz.1]; show y.L.length ≤ 1000; omega⟩
     have d9 : decide (∀ x ∈ hwZ y, ¬ x > 6) = true := decide_eq_true (by rw [eZ]; exact hz.2)
     rw [d8, d9]
     unfold hwC
     rw [hG', c2, d1, d3, d4, d5, d6, d7, hall.1, hR]
     rfl
end Go.Proofs.YtjemfkoamfnofaaGreat
