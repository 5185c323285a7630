/- fordlaw14.SelTimes: its walk. -/
import Derived.Test.YthhdfidenigcaaaSelA
set_option linter.unusedVariables false
set_option maxRecDepth 100000
namespace Go.Proofs.Ythhdfidenigcaaa
open Go Go.RowKit

structure TimP where
  t : TwoP
  w : Times
  ps0 : List Port
def timSt (q : TimP) (i : SV) : St := ⟨[(1, [], .ptr 3 0), (3, [], .kb true), (5, [], .ptr 13 0), (6, [], .kb true), (7, [], .ptr 14 0), (8, [], i)], [(14, .rcd (.times q.w)), (13, q.t.new), (8, .rows (.port q.t.ps)), (3, q.t.old), (0, .rows (.port q.ps0))], 15⟩
def timTs : List Nat := [1, 3, 5, 6, 7, 8]
def timBad (b x : Bri) (w : Times) (p p0 : Port) : Bool := !(decide (p.desTimes = w)) || p.designated.root != x.root.root || p.designated.cost != x.root.cost || p.designated.bridge != b.id || p.designated.port != p.id || !(decide (p.vec = p0.vec))
theorem tim_round (S : Stat) (q : TimP) (i : Nat) : Out.way [true, true, true, true, false] (trimO timTs 15 (exec (cL (S.rd i 3)) (fnOf 12).ntmps 20 (lpOf 12 0) (timSt q (.v (.int .i64 i))))) =
    some ([decide ((i : Int) < q.t.ps.length), decide (0 ≤ (i : Int)) && decide ((i : Int) < q.t.ps.length), decide (i < q.t.ps.length), decide (0 ≤ (i : Int)) && decide ((i : Int) < q.t.n) && decide (i < q.ps0.length), timBad q.t.b q.t.x q.w (q.t.ps.getD i Port.dflt) (q.ps0.getD i Port.dflt)], (.nrm, timSt q (.v (.int .i64 (IntKind.i64.wrap (i + 1)))))) := by kernel_rfl
theorem tim_over (S : Stat) (q : TimP) (i : Nat) : Out.way [false] (trimO timTs 15 (exec (cL (S.rd i 3)) (fnOf 12).ntmps 20 (lpOf 12 0) (timSt q (.v (.int .i64 i))))) =
    some ([decide ((i : Int) < q.t.ps.length)], (.exit 0, timSt q (.v (.int .i64 i)))) := by kernel_rfl
def timFin : St := ⟨[(3, [], .kb true), (6, [], .kb true)], [], 15⟩
def timGood (b x : Bri) (w : Times) (z : Port × Port) : Bool := !(timBad b x w z.1 z.2)
noncomputable def gTim : LoopFn := onTrim 15 timTs fun st => match st.slots with
  | [(1, [], .ptr 3 0), (3, [], .kb true), (5, [], .ptr 13 0), (6, [], .v (.bool true)), (7, [], .ptr 14 0), (8, [], .ki .i64 0)] => (match unTwo st, st.heap.get 14, st.heap.get 0 with
    | some (b, n, no, nf, x, n', no', nf', ps), some (.rcd (.times w)), some (.rows (.port ps0)) => some (.ite (twoTest n no nf n' no' nf' ps && (decide (ps0.length = ps.length) && (ps.zip ps0).all (timGood b x w))) (.ret (.exit 0, timFin)) .bad)
    | _, _, _ => none)
  | _ => none
theorem runL_goA {α : Type} (fin : Ex × St) : ∀ (l : List α) (i : Nat), runL (fun i (p : α) (x : Unit) => Step.go ()) (fun _ => fin) l i () = fin
  | [], i => rfl
  | p :: r, i => by rw [runL]; exact runL_goA fin r (i + 1)
theorem gTim_ok (S : Stat) (ls : List (Nat × LoopFn)) : LoopOk Try.prog (withLoops (cL (S.rd 0 3)) ls) (fnOf 12).ntmps (lpOf 12 0) gTim := by
  refine loop_trim cL_fam (nx := 15) (fuel := 20) (ts := timTs) (π := TimP) (τ := Unit) (S.rd 0 3) (fun _ i => S.rd i 3) (fun _ _ => rfl) (fun q => q.t.ps.zip q.ps0) (fun q i x => timSt q (.v (.int .i64 i))) (fun q i x => (q.t.ps.zip q.ps0).all (timGood q.t.b q.t.x q.w) = true ∧ q.t.ps.length < 9223372036854775808 ∧ q.ps0.length = q.t.ps.length ∧ q.t.n = q.t.ps.length)
    (fun q i p x => .go ()) (fun q x => (.exit 0, timFin)) (fun _ _ _ => rfl) ?_ ?_ ?_
  · intro st o r ho hr
    split at ho
    · rename_i hsl
      split at ho
      · rename_i b n no nf x n' no' nf' ps w ps0 hu h14 h0
        injection ho with ho
        subst ho
        obtain ⟨u1, u2, u3⟩ := unTwo_ok hu
        have hh := Out.ite_bad hr
        obtain ⟨hh1, hh2⟩ := Bool.and_eq_true_iff.1 hh.1
        obtain ⟨hh2, hall⟩ := Bool.and_eq_true_iff.1 hh2
        have hlen := of_decide_eq_true hh2
        obtain ⟨rfl, rfl, rfl, rfl, hlt⟩ := of_decide_eq_true hh1
        obtain rfl := Option.some.inj hh.2
        refine ⟨⟨⟨b, ps.length, no', nf', x, ps⟩, w, ps0⟩, (), ⟨hall, hlt, hlen, rfl⟩, (runL_goA _ _ 0).symm, Nat.le_refl _, fun E => ⟨?_, ?_⟩⟩
        · rw [hsl]
          exact ⟨⟨_, rfl, rfl⟩, ⟨_, rfl, rfl⟩, ⟨_, rfl, rfl⟩, ⟨_, rfl, rfl⟩, ⟨_, rfl, rfl⟩, ⟨_, rfl, rfl⟩, trivial⟩
        · exact ⟨⟨_, h14, rfl, trivial⟩, ⟨_, u2, rfl, trivial⟩, ⟨_, u1, rfl, trivial⟩, ⟨_, u3, rfl, trivial⟩, ⟨_, h0, rfl, trivial⟩, trivial⟩
      · cases ho
    · cases ho
  · intro q i z x hp hinv
    obtain ⟨hall, hlt, hlen, hn⟩ := hinv
    obtain ⟨p, p0⟩ := z
    obtain ⟨g1, g2⟩ := List.getElem?_zip_eq_some.1 hp
    have hi := (List.getElem?_eq_some_iff.1 g1).1
    have e1 : q.t.ps.getD i Port.dflt = p := by simp [List.getD, g1]
    have e2 : q.ps0.getD i Port.dflt = p0 := by simp [List.getD, g2]
    have hgood := List.all_eq_true.1 hall (p, p0) (List.mem_of_getElem? hp)
    have hii : (i : Int) < q.t.ps.length := by omega
    refine ⟨.nrm, timSt q (.v (.int .i64 (IntKind.i64.wrap (i + 1)))), ?_, rfl, ⟨hall, hlt, hlen, hn⟩, fun E => ?_⟩
    · have := tim_round S q i
      rw [e1, e2] at this
      unfold timGood at hgood
      exact Out.way_sel this (by simp [hii, hi, hlen, hn]; simpa using hgood)
    · rw [wrap_succ hi hlt]
      exact ⟨⟨⟨_, rfl, rfl⟩, ⟨_, rfl, rfl⟩, ⟨_, rfl, rfl⟩, ⟨_, rfl, rfl⟩, ⟨_, rfl, rfl⟩, ⟨_, rfl, rfl⟩, trivial⟩, ⟨⟨_, rfl, rfl, trivial⟩, ⟨_, rfl, rfl, trivial⟩, ⟨_, rfl, rfl, trivial⟩, ⟨_, rfl, rfl, trivial⟩, ⟨_, rfl, rfl, trivial⟩, trivial⟩⟩
  · intro q x hinv
    obtain ⟨hall, hlt, hlen, hn⟩ := hinv
    have hl : (q.t.ps.zip q.ps0).length = q.t.ps.length := by rw [List.length_zip]; omega
    dsimp only
    rw [hl]
    exact ⟨.exit 0, timSt q (.v (.int .i64 q.t.ps.length)), Out.way_sel (tim_over S q q.t.ps.length) (by simp), rfl, by simp, fun E => ⟨⟨⟨_, rfl, rfl⟩, ⟨_, rfl, rfl⟩, trivial⟩, trivial⟩⟩

noncomputable def timO (S : Stat) (q : InP) : Out SV := valF 3 (inline (withLoops (cL (S.rd 0 3)) [(18, gTim)]) 20 (fnOf 12) [q.arg] q.heap 3)
def askOne (p : Port) : Port := { p with flags := { p.flags with reselect := true } }
def tmA (q : InP) : List Port := q.ps.set 0 (askOne (q.ps.getD 0 Port.dflt))
def tmB (q : InP) : Bri := stepB q.b (tmA q)
def tmP (q : InP) : List Port := mapI (stepP (tmB q)) (tmA q) 0
def tmT (q : InP) : Times := { (q.ps.getD (tmB q).rootPort.toNat Port.dflt).times with age := IntKind.i64.wrap ((q.ps.getD (tmB q).rootPort.toNat Port.dflt).times.age + 1) }
def tmTest (q : InP) (w : Times) : Bool := twoTest q.ps.length q.os.length q.fs.length (tmA q).length q.os.length q.fs.length (tmP q) && (decide (q.ps.length = (tmP q).length) && ((tmP q).zip q.ps).all (timGood q.b (tmB q) w))
def tmHead (q : InP) : List Bool := [q.len, !(fewF q)] ++ q.big ++ [decide (0 ≤ (0 : Int)) && decide ((0 : Int) < q.ps.length), decide (0 < q.ps.length), decide (q.ps.length = (tmA q).length ∧ (tmA q).length < 9223372036854775808), (tmA q).any askP, decide ((tmB q).rootPort ≥ q.ps.length), decide ((tmB q).rootPort ≥ 0)]
theorem tim_no (S : Stat) (q : InP) : Out.way [true, true] (timO S q) = some ([q.len, !(fewF q)], .kb true) := by kernel_rfl
theorem tim_own (S : Stat) (q : InP) : Out.way [true, false, true, true, true, true, true, true, true, false, false, false, true] (timO S q) =
    some (tmHead q ++ [!(decide ((tmB q).rootT = q.b.times)), tmTest q { q.b.times with hello := q.b.times.hello }], .kb true) := by kernel_rfl
theorem tim_heard (S : Stat) (q : InP) : Out.way [true, false, true, true, true, true, true, true, true, false, true, true, true, false, true] (timO S q) =
    some (tmHead q ++ [decide (0 ≤ (tmB q).rootPort) && decide ((tmB q).rootPort < q.ps.length), decide ((tmB q).rootPort.toNat < q.ps.length), !(decide ((tmB q).rootT = tmT q)), tmTest q { tmT q with hello := q.b.times.hello }], .kb true) := by kernel_rfl

/-! the plain law -/
theorem role_keeps (b : Bri) (i : Int) (p : Port) : (roleF b i p).id = p.id ∧ (roleF b i p).vec = p.vec ∧ (roleF b i p).designated = p.designated ∧ (roleF b i p).desTimes = p.desTimes := by
  unfold roleF
  repeat' split
  all_goals exact ⟨rfl, rfl, rfl, rfl⟩
theorem timGood_step {b : Bri} {q : InP} {w : Times} (hb : b.id = q.b.id) (hw : w = { b.rootT with hello := b.times.hello }) {p p0 : Port} (hv : p.vec = p0.vec) (i : Nat) : timGood q.b b w (stepP b i p, p0) = true := by
  obtain ⟨h1, h2, h3, h4⟩ := role_keeps b i (baseP b p)
  unfold timGood timBad stepP
  dsimp only
  rw [h1, h2, h3, h4]
  simp [baseP, hw, hv, hb]
theorem mapI_zip {f : Nat → Port → Port} {g : Port × Port → Bool} : ∀ (l l0 : List Port) (i : Nat), (∀ z ∈ l.zip l0, ∀ i, g (f i z.1, z.2) = true) → ((mapI f l i).zip l0).all g = true
  | [], _, _, _ => rfl
  | _ :: _, [], _, _ => rfl
  | p :: r, p0 :: r0, i, h => by
    rw [mapI, List.zip_cons_cons, List.all_cons, h (p, p0) (by rw [List.zip_cons_cons]; exact List.mem_cons_self) i, mapI_zip r r0 (i + 1) (fun z hz i => h z (by rw [List.zip_cons_cons]; exact List.mem_cons_of_mem _ hz) i)]
    rfl
theorem zip_self_mem {α : Type} : ∀ {l : List α} {z : α × α}, z ∈ l.zip l → z.1 = z.2
  | [], z, h => by simp at h
  | x :: r, z, h => by
    rw [List.zip_cons_cons] at h
    rcases List.mem_cons.1 h with rfl | h
    · rfl
    · exact zip_self_mem h
theorem tmA_zip (q : InP) : ∀ z ∈ (tmA q).zip q.ps, z.1.vec = z.2.vec := by
  unfold tmA
  cases hq : q.ps with
  | nil => intro z hz; simp at hz
  | cons p r =>
    intro z hz
    simp only [List.set_cons_zero, List.zip_cons_cons] at hz
    rcases List.mem_cons.1 hz with rfl | hz
    · rfl
    · rw [zip_self_mem hz]
theorem tmA_times (q : InP) (k : Nat) : ((tmA q).getD k Port.dflt).times = (q.ps.getD k Port.dflt).times := by
  unfold tmA
  cases hq : q.ps with
  | nil => rfl
  | cons p r => cases k <;> rfl
theorem tmB_rootT (q : InP) : (tmB q).rootT = if (tmB q).rootPort ≥ 0 then tmT q else q.b.times := by
  unfold tmT
  rw [← tmA_times]
  by_cases h : (rootF q.b.id (tmA q)).2 ≥ 0
  · have h' : (tmB q).rootPort ≥ 0 := h
    rw [if_pos h']
    unfold tmB stepB
    simp only [h, decide_true, if_true]
  · have h' : ¬ (tmB q).rootPort ≥ 0 := h
    rw [if_neg h']
    unfold tmB stepB
    simp [h]
theorem tim_true (S : Stat) (q : InP) (hl : q.ps.length < 9223372036854775808) (h : q.Wf) : ∃ v, (timO S q).sel = some v ∧ ∀ S E, v.den S E = .bool true := by
  cases hf : fewF q with
  | false => exact ⟨_, Out.way_sel (tim_no S q) (by simp [InP.len, hl, hf]), fun _ _ => rfl⟩
  | true =>
    obtain ⟨h1, h2, h3, h4, _⟩ := fewF_lens hf
    have b1 : q.ps.length ≤ 134217728 := by omega
    have b2 : q.os.length ≤ 134217728 := by omega
    have b3 : q.fs.length ≤ 134217728 := by omega
    have ha : (tmA q).any askP = true := by
      unfold tmA
      cases hp : q.ps with
      | nil => rw [hp] at h2; simp at h2
      | cons p r => rfl
    have la : (tmA q).length = q.ps.length := by unfold tmA; rw [List.length_set]
    have lp : (tmP q).length = q.ps.length := by unfold tmP; rw [mapI_length, la]
    have n0 : (0 : Int) < q.ps.length := by omega
    have n1 : 0 < q.ps.length := by omega
    obtain ⟨r1, r2⟩ := rootF_bnd q.b.id (tmA q)
    have r1 : -1 ≤ (tmB q).rootPort := r1
    have r2 : (tmB q).rootPort < (tmA q).length := r2
    rw [la] at r2
    have test : ∀ w, w = { (tmB q).rootT with hello := q.b.times.hello } → tmTest q w = true := by
      intro w hw
      have hid : (tmB q).id = q.b.id := rfl
      have hti : (tmB q).times = q.b.times := rfl
      rw [← hti] at hw
      have hz : ((tmP q).zip q.ps).all (timGood q.b (tmB q) w) = true := by
        unfold tmP
        clear hti h1 h2 h3 h4 b1 b2 b3 ha la lp n0 n1 r1 r2
        generalize tmB q = B at hid hw ⊢
        exact mapI_zip _ _ 0 fun z hz i => timGood_step (q := q) (b := B) (w := w) hid hw (tmA_zip q z hz) i
      unfold tmTest
      rw [hz]
      simp [twoTest, la, lp, hl]
    have hT := tmB_rootT q
    by_cases h0 : (tmB q).rootPort ≥ 0
    · rw [if_pos h0] at hT
      have t1 := test { tmT q with hello := q.b.times.hello } (by rw [hT])
      have k1 : (tmB q).rootPort.toNat < q.ps.length := by omega
      have k2 : 0 ≤ (tmB q).rootPort := h0
      have k3 : ¬ (q.ps.length : Int) ≤ (tmB q).rootPort := by omega
      have hd : (!(decide ((tmB q).rootT = tmT q))) = false := by rw [decide_eq_true hT]; rfl
      have head : tmHead q = [true, false, true, true, true, true, true, true, true, false, true] := by
        simp [tmHead, InP.len, InP.big, Rows.len, hl, hf, la, ha, b1, b2, b3, n0, n1, k2, k3]
      have hk : (decide (0 ≤ (tmB q).rootPort) && decide ((tmB q).rootPort < q.ps.length)) = true := by simp [k2, r2]
      have e := tim_heard S q
      rw [t1, hd, head, hk, decide_eq_true k1] at e
      exact ⟨_, Out.way_sel e rfl, fun _ _ => rfl⟩
    · rw [if_neg h0] at hT
      have t1 := test { q.b.times with hello := q.b.times.hello } (by rw [hT])
      have k2 : ¬ 0 ≤ (tmB q).rootPort := h0
      have k3 : ¬ (q.ps.length : Int) ≤ (tmB q).rootPort := by omega
      have hd : (!(decide ((tmB q).rootT = q.b.times))) = false := by rw [decide_eq_true hT]; rfl
      have head : tmHead q = [true, false, true, true, true, true, true, true, true, false, false] := by
        simp [tmHead, InP.len, InP.big, Rows.len, hl, hf, la, ha, b1, b2, b3, n0, n1, k2, k3]
      have e := tim_own S q
      rw [t1, hd, head] at e
      exact ⟨_, Out.way_sel e rfl, fun _ _ => rfl⟩
end Go.Proofs.Ythhdfidenigcaaa
