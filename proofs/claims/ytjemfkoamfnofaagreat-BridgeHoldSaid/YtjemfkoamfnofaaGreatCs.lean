import Derived.Test.YtjemfkoamfnofaaGreatCl
import Derived.Test.YtjemfkoamfnofaaGreatPv
set_option linter.unusedVariables false
set_option maxRecDepth 100000
namespace Go.Proofs.YtjemfkoamfnofaaGreat
open Go Go.RowKit
def finX {π X : Type} (F : π → X → Heap) (q : π → Bool) (slE : π → X → Slots) (ex : Ex) (slR : Slots) (kb kp m2 m3 nx2 : Nat) (p : π) : Option (BS × X) → Ex × St
 | some y => (ex, ⟨slE p y.2, brH (F p y.2) kb kp m2 m3 y.1 (q p), nx2⟩)
 | none => (.ret, ⟨slR, [], nx2⟩)
theorem loop_bsx {π X : Type} {mk : Stat → Ctx} (hm : Fam mk) {ls li : List (Nat × LoopFn)} {n fuel : Nat} {b : Code} {ts0 : List Nat} (Sc : Stat) {kb kp n2 n3 m2 m3 fx nx nx2 lo ny : Nat} (F : π → X → Heap) (q : π → Bool) (sl : π → X → SV → Slots) (slE : π → X → Slots) (ex : Ex) (slR : Slots)
   (inv : π → BS → X → Nat → Prop) (mu : π → BS → X → Nat → Nat) (res : π → BS → X → Nat → Option (BS × X)) {f : St → Option (Out (Ex × St))} (hin : LoopsOk Tryz.prog (withLoops (mk Sc) li) n b) (hF : ∀ p x, FixH fx (F p x)) (hsl : ∀ p x (i : Nat), ((sl p x (.v (.int .i64 i))).all fun e => e.2.2.bnd fx) = true) (hslE : ∀ p x, ((slE p x).all fun e => e.2.2.bnd fx) = true)
   (hslR : (slR.all fun e => e.2.2.bnd fx) = true) (hk : kb < fx ∧ kp < fx ∧ fx ≤ n2 ∧ fx ≤ n3 ∧ n2 ≠ n3 ∧ fx ≤ 1000000) (hm2 : nx ≤ m2 ∧ nx ≤ m3 ∧ m2 ≠ m3 ∧ fx ≤ nx ∧ nx ≤ nx2 ∧ n2 < 1000000 ∧ n3 < 1000000) (hny : fx ≤ ny) (hlo : lo ≤ fx) (hro : ∀ k, lo ≤ k → Sc.ro k = false)
   (hg : ∀ st o r, f st = some o → o.sel = some r → ∃ p s x l2 l3, inv p s x 0 ∧ r = finX F q slE ex slR kb kp m2 m3 nx2 p (res p s x 0) ∧ (∀ E, ReSlots2 st.slots Sc E Sc E (sl p x (.v (.int .i64 (0 : Nat))))) ∧ BrAtG st.heap (F p x) kb kp lo s (q p) l2 l3)
   (hstep : ∀ p s x i, inv p s x i → ∃ ts ks ex1 sl1 H1, (trimC ts ks (exec (withLoops (mk Sc) li) n fuel b ⟨sl p x (.v (.int .i64 i)), brH (F p x) kb kp n2 n3 s (q p), ny⟩)).sel = some (ex1, ⟨sl1, H1, 0⟩) ∧
     ((ex1 = .nrm ∧ ∃ s' x' l2 l3, inv p s' x' (i + 1) ∧ mu p s' x' (i + 1) < mu p s x i ∧ res p s' x' (i + 1) = res p s x i ∧ (∀ E, ReSlots2 sl1 Sc E Sc E (sl p x' (.v (.int .i64 ((i + 1 : Nat) : Int))))) ∧ BrAt H1 (F p x') kb kp fx s' (q p) l2 l3) ∨
      (ex1 = ex ∧ ex ≠ .nrm ∧ res p s x i = some (s, x) ∧ (∀ E, ReSlots2 sl1 Sc E Sc E (slE p x)) ∧ BrAt H1 (F p x) kb kp fx s (q p) (.at_ n2) (.at_ n3)) ∨
      (ex1 = .ret ∧ res p s x i = none ∧ ∀ E, ReSlots2 sl1 Sc E Sc E slR))) :
   LoopOk Tryz.prog (withLoops (mk Sc) ls) n b (onTrimB nx ts0 f) := by
 have hS : (withLoops (mk Sc) li).S = Sc := hm.S Sc
 refine loop_gen hm (fx := fx) (nx := nx) (fuel := fuel) (τ := π × BS × X × Nat) Sc (fun _ => withLoops (mk Sc) li) (fun y => ⟨sl y.1 y.2.2.1 (.v (.int .i64 y.2.2.2)), brH (F y.1 y.2.2.1) kb kp n2 n3 y.2.1 (q y.1), ny⟩) (fun y => inv y.1 y.2.1 y.2.2.1 y.2.2.2) (fun y => mu y.1 y.2.1 y.2.2.1 y.2.2.2)
   (fun y => finX F q slE ex slR kb kp m2 m3 nx2 y.1 (res y.1 y.2.1 y.2.2.1 y.2.2.2)) (fun y => ⟨withLoops_full (hm.full _) li, hm.win _, hin⟩) (fun y => hny) ?_ ?_
 · intro st o r ho hr
   obtain ⟨p, s, x, l2, l3, hI, rfl, hs, hat⟩ := hg st o r ho hr
   refine ⟨(p, s, x, 0), hI, rfl, (by cases res p s x 0 <;> exact hm2.2.2.2.2.1), fun E => ⟨brE E E n2 n3 l2 l3, brR n2 n3 l2 l3, brE_upto _ _ _ _ hk.2.2.1 hk.2.2.2.1, ?_, ?_, ?_⟩⟩
   · rw [hS]; exact re_slots_upto (brE_upto E E l2 l3 hk.2.2.1 hk.2.2.2.1) (hsl p x 0) (hs E)
   all_goals
     have := re_brG (S := Sc) (S' := (withLoops (mk Sc) li).S) (E0 := E) (E := E) (n2 := n2) (n3 := n3) hat (hF p x) (by rw [hS]) hlo hro hk (Env.upto.refl _ _)
   · exact this.1
   · exact this.2
 · rintro ⟨p, s, x, i⟩ hI
   obtain ⟨ts, ks, ex1, sl1, H1, hsel, hor⟩ := hstep p s x i hI
   refine ⟨ts, ks, ex1, _, hsel, ?_⟩
   rcases hor with ⟨rfl, s', x', l2, l3, hI', hmu, hres, hs, hat⟩ | ⟨rfl, hne, hres, hs, hat⟩ | ⟨rfl, hres, hs⟩
   · refine .inl ⟨rfl, (p, s', x', i + 1), hI', hmu, by dsimp only; rw [hres], fun E1 => ⟨brE E1 E1 n2 n3 l2 l3, brR n2 n3 l2 l3, brE_upto _ _ _ _ hk.2.2.1 hk.2.2.2.1, ?_, ?_, ?_⟩⟩
     · rw [hS]; exact re_slots_upto (brE_upto E1 E1 l2 l3 hk.2.2.1 hk.2.2.2.1) (hsl p x' (i + 1)) (hs E1)
     all_goals
       have := re_br (S := (withLoops (mk Sc) li).S) (S' := (withLoops (mk Sc) li).S) (E0 := E1) (E := E1) (n2 := n2) (n3 := n3) hat (hF p x') rfl (by rw [hS]; exact fun k h => hro k (Nat.le_trans hlo h)) hk (Env.upto.refl _ _)
     · exact this.1
     · exact this.2
   · refine .inr ⟨hne, (by dsimp only; rw [hres]; rfl), fun E0 E1 hu => ⟨brE E0 E1 m2 m3 (.at_ n2) (.at_ n3), brR m2 m3 (.at_ n2) (.at_ n3), brE_upto _ _ _ _ hm2.1 hm2.2.1, ?_, ?_, ?_⟩⟩
     · dsimp only
       rw [hres, hS]
       have h2 : Env.upto fx E1 (brE E0 E1 m2 m3 (.at_ n2) (.at_ n3)) := by
         intro k hkx
         have a : k ≠ m2 := by omega
         have b : k ≠ m3 := by omega
         simp only [brE, a, b, if_false]
         exact ⟨((hu k hkx).1).symm, ((hu k hkx).2).symm⟩
       exact re_slots_upto h2 (hslE p x) (hs E1)
     all_goals
       have := re_br (S := (withLoops (mk Sc) li).S) (S' := Sc) (E0 := E0) (E := E1) (n2 := m2) (n3 := m3) hat (hF p x) (by rw [hS]) (by rw [hS]; exact fun k h => hro k (Nat.le_trans hlo h)) ⟨hk.1, hk.2.1, by omega, by omega, hm2.2.2.1, hk.2.2.2.2.2⟩ hu
       dsimp only
       rw [hres]
     · exact this.1
     · exact this.2
   · refine .inr ⟨by simp, (by dsimp only; rw [hres]; rfl), fun E0 E1 hu => ⟨E0, fun k => k, Env.upto.refl _ _, ?_⟩⟩
     dsimp only
     rw [hres, hS]
     have h2 : Env.upto fx E1 E0 := fun k hk => ⟨((hu k hk).1).symm, ((hu k hk).2).symm⟩
     exact ⟨re_slots_upto h2 hslR (hs E1), trivial, rfl⟩
theorem runN_len5 : ∀ (n : Nat) (s : BS) (c : Int), s.ps.length ≤ 5 → (runN n s c).1.ps.length = s.ps.length ∧ (runN n s c).1.out.length ≤ s.out.length + 40 * n ∧ (runN n s c).1.fl.length ≤ s.fl.length + 40 * n
 | 0, s, c, _ => ⟨rfl, Nat.le_refl _, Nat.le_refl _⟩
 | n + 1, s, c, h => by
   obtain ⟨h1, h2, h3⟩ := roundF_len s
   unfold runN
   split
   · dsimp only; omega
   · obtain ⟨g1, g2, g3⟩ := runN_len5 n (roundF s).1 (IntKind.i64.wrap (c + (roundF s).2)) (by omega)
     omega
theorem runF_len5 (s : BS) (h : s.ps.length ≤ 5) : (runF s).1.ps.length = s.ps.length ∧ (runF s).1.out.length ≤ s.out.length + 40000 ∧ (runF s).1.fl.length ≤ s.fl.length + 40000 := runN_len5 1000 s 0 h
structure CtP where
 L : List Conf
 A : List Todo
 q : Bool
 r : Bool
 b : Bri
 ps : List Port
 out : List Sent
 fl : List Int
 q4 : Bool
 m : Nat
 i : Int
def ctE (p : CtP) : Slots := [(1, [], .slr 0 p.L.length 0 p.q), (2, [], .slr 1 p.A.length 1 p.r), (7, [], .kb true), (8, [], .ptr 5 0), (9, [], .v (.bool true)), (11, [], .slr 8 p.m 8 true), (12, [], .v (.int .i64 p.i))]
def ctHp (p : CtP) (X : List Int) : Heap := [(0, .rows (.conf p.L)), (1, .rows (.todo p.A)), (8, .rows (.int .i64 X)), (5, p.b.sv (.slr 2 p.ps.length 2 p.q4) (.slr 13 p.out.length 13 false) (.slr 14 p.fl.length 14 false)), (2, .rows (.port p.ps)), (14, .rows (.int .i64 p.fl)), (13, .rows (.sent p.out))]
noncomputable def ctT (S : Stat) (p : CtP) (X : List Int) (k : Nat) : Out (Ex × St) := trimO [1, 2, 7, 8, 9, 11, 12, 14] 15 (exec (cTl (S.rd 0 2)) (fnOf 9).ntmps 60 (lpOf 9 2) ⟨ctE p ++ [(14, [], .v (.int .i64 k))], ctHp p X, 15⟩)
def ctAt (p : CtP) (k : Nat) : Int := (p.out.getD (k : Int).toNat Sent.dflt).port
def ctC (p : CtP) (X : List Int) (k : Nat) : List Bool := [decide ((k : Int) < p.out.length), decide (0 ≤ (k : Int)) && decide ((k : Int) < p.out.length), decide ((k : Int).toNat < p.out.length), decide (ctAt p k < 0) || decide (ctAt p k ≥ p.L.length), decide (0 ≤ ctAt p k) && decide (ctAt p k < p.m), decide ((ctAt p k).toNat < X.length), decide (0 ≤ ctAt p k) && decide (ctAt p k < p.m), decide ((ctAt p k).toNat < X.length)]
theorem ct_go (S : Stat) (p : CtP) (X : List Int) (k : Nat) : Out.way [true, true, true, false, true, true, true, true] (ctT S p X k) = some (ctC p X k,
   (.nrm, ⟨ctE p ++ [(14, [], .v (.int .i64 (IntKind.i64.wrap (k + 1))))], ctHp p (X.set (ctAt p k).toNat (IntKind.i64.wrap (X.getD (ctAt p k).toNat 0 + 1))), 15⟩)) := by kernel_rfl
theorem ct_end (S : Stat) (p : CtP) (X : List Int) (k : Nat) : Out.way [false] (ctT S p X k) = some ([decide ((k : Int) < p.out.length)], (.exit 4, ⟨ctE p ++ [(14, [], .v (.int .i64 k))], ctHp p X, 15⟩)) := by kernel_rfl
def gCtL : LoopFn := onTrim 15 [1, 2, 7, 8, 9, 11, 12, 14] fun st => match st with
 | ⟨[(1, [], .slr 0 n 0 q), (2, [], .slr 1 n2 1 r), (7, [], .kb true), (8, [], .ptr 5 0), (9, [], .v (.bool true)), (11, [], .slr 8 m 8 true), (12, [], .v (.int .i64 i)), (14, [], .ki .i64 0)], [(0, .rows (.conf L)), (1, .rows (.todo A)), (8, .rows (.int .i64 X)), (5, bx), (2, .rows (.port ps)), (9, _), (10, _), (12, _), (11, _), (14, .rows (.int .i64 fl)), (13, .rows (.sent out))], _⟩ =>
   (match unBri bx with
   | some (b, .slr 2 n4 2 q4, .slr 13 lo 13 false, .slr 14 lf 14 false) => some (.ite (decide (n = L.length ∧ n2 = A.length ∧ m = X.length ∧ n4 = ps.length ∧ lo = out.length ∧ lf = fl.length) && decide (m = n ∧ out.length ≤ 100000000 ∧ ∀ x ∈ out, 0 ≤ x.port ∧ x.port < L.length)) (.ret (.exit 4, ⟨ctE ⟨L, A, q, r, b, ps, out, fl, q4, m, i⟩, ctHp ⟨L, A, q, r, b, ps, out, fl, q4, m, i⟩ (bump X out), 15⟩)) .bad)
   | _ => none)
 | _ => none
theorem ctHp_re {S S' : Stat} (p : CtP) (X : List Int) (E : Env) : ReHeap (ctHp p X) S S' E (ctHp p X) := ⟨⟨_, rfl, rfl, trivial⟩, ⟨_, rfl, rfl, trivial⟩, ⟨_, rfl, rfl, trivial⟩, ⟨_, rfl, rfl, trivial⟩, ⟨_, rfl, rfl, trivial⟩, ⟨_, rfl, rfl, trivial⟩, ⟨_, rfl, rfl, trivial⟩, trivial⟩
theorem runL_bump (fin : List Int → Ex × St) : ∀ (l : List Sent) (i : Nat) (x : List Int), runL (fun i (d : Sent) (x : List Int) => Step.go (x.set d.port.toNat (IntKind.i64.wrap (x.getD d.port.toNat 0 + 1)))) fin l i x = fin (bump x l)
 | [], i, x => rfl
 | d :: r, i, x => by rw [runL, bump]; exact runL_bump fin r (i + 1) _
theorem gCtL_ok (S : Stat) (ls : List (Nat × LoopFn)) : LoopOk Tryz.prog (withLoops (cTl (S.rd 0 2)) ls) (fnOf 9).ntmps (lpOf 9 2) gCtL := by
 refine loop_trim cTl_fam (nx := 15) (fuel := 60) (ts := [1, 2, 7, 8, 9, 11, 12, 14]) (π := CtP) (α := Sent) (τ := List Int) (S.rd 0 2) (fun _ i => S.rd 0 2) (fun _ _ => rfl) (fun p => p.out) (fun p i x => ⟨ctE p ++ [(14, [], .v (.int .i64 i))], ctHp p x, 15⟩)
   (fun p i x => x.length = p.m ∧ p.m = p.L.length ∧ p.out.length ≤ 100000000 ∧ ∀ x ∈ p.out, 0 ≤ x.port ∧ x.port < p.L.length) (fun p i d x => .go (x.set d.port.toNat (IntKind.i64.wrap (x.getD d.port.toNat 0 + 1)))) (fun p x => (.exit 4, ⟨ctE p, ctHp p x, 15⟩)) (fun _ _ _ => rfl) ?_ ?_ ?_
 · intro st o r ho hr
   split at ho
   · rename_i n q n2 r' m i L A X bx ps y9 y10 y12 y11 fl out _
     split at ho
     · rename_i b n4 q4 lo lf hb
       injection ho with ho
       subst ho
       have hh := Out.ite_bad hr
       have ht := hh.1
       simp only [Bool.and_eq_true, decide_eq_true_eq] at ht
       obtain ⟨⟨rfl, rfl, rfl, rfl, rfl, rfl⟩, h1, h2, h3⟩ := ht
       obtain rfl := Option.some.inj hh.2
       obtain ⟨rfl, _, _⟩ := unBri_ok hb
       exact ⟨⟨L, A, q, r', b, ps, out, fl, q4, X.length, i⟩, X, ⟨rfl, h1, h2, h3⟩, (runL_bump (fun x => (Ex.exit 4, (⟨ctE ⟨L, A, q, r', b, ps, out, fl, q4, X.length, i⟩, ctHp ⟨L, A, q, r', b, ps, out, fl, q4, X.length, i⟩ x, 15⟩ : St))) out 0 X).symm, Nat.le_refl 15, fun E => ⟨⟨⟨_, rfl, rfl⟩, ⟨_, rfl, rfl⟩, ⟨_, rfl, rfl⟩, ⟨_, rfl, rfl⟩, ⟨_, rfl, rfl⟩, ⟨_, rfl, rfl⟩, ⟨_, rfl, rfl⟩, ⟨_, rfl, rfl⟩, trivial⟩, ⟨⟨_, rfl, rfl, trivial⟩, ⟨_, rfl, rfl, trivial⟩, ⟨_, rfl, rfl, trivial⟩, ⟨_, rfl, rfl, trivial⟩, ⟨_, rfl, rfl, trivial⟩, ⟨_, rfl, rfl, trivial⟩, ⟨_, rfl, rfl, trivial⟩, trivial⟩⟩⟩
     · cases ho
   · cases ho
 · intro p i a x ha hinv
   obtain ⟨hx, hm, hlt, hno⟩ := hinv
   obtain ⟨hi, hai⟩ := List.getElem?_eq_some_iff.1 ha
   have hat : ctAt p i = a.port := by
     show (p.out.getD i Sent.dflt).port = a.port
     rw [List.getD_eq_getElem?_getD, ha]; rfl
   have hp := hno a (List.mem_of_getElem? ha)
   have hsel := Out.way_sel (ct_go S p x i) (by unfold ctC; rw [hat, decide_eq_true (by omega), decide_eq_true (by omega), decide_eq_true (by omega), decide_eq_false (by omega), decide_eq_false (by omega), decide_eq_true (by omega), decide_eq_true (by omega), decide_eq_true (by omega)]; rfl)
   rw [hat] at hsel
   refine ⟨.nrm, _, hsel, rfl, ⟨by rw [List.length_set]; exact hx, hm, hlt, hno⟩, fun E => ?_⟩
   rw [wrap_succ (n := 100000001) (by omega) (by omega)]
   exact ⟨⟨⟨_, rfl, rfl⟩, ⟨_, rfl, rfl⟩, ⟨_, rfl, rfl⟩, ⟨_, rfl, rfl⟩, ⟨_, rfl, rfl⟩, ⟨_, rfl, rfl⟩, ⟨_, rfl, rfl⟩, ⟨_, rfl, rfl⟩, trivial⟩, ctHp_re _ _ E⟩
 · intro p x hinv
   exact ⟨.exit 4, _, Out.way_sel (ct_end S p x p.out.length) (by rw [decide_eq_false (by omega)]), rfl, by simp, fun E => ⟨⟨⟨_, rfl, rfl⟩, ⟨_, rfl, rfl⟩, ⟨_, rfl, rfl⟩, ⟨_, rfl, rfl⟩, ⟨_, rfl, rfl⟩, ⟨_, rfl, rfl⟩, ⟨_, rfl, rfl⟩, trivial⟩, ctHp_re _ _ E⟩⟩
structure HdP where
 L : List Conf
 A : List Todo
 q : Bool
 r : Bool
 q4 : Bool
def hdF0 (p : HdP) : Heap := [(0, .rows (.conf p.L)), (1, .rows (.todo p.A))]
def hdE (p : HdP) (x : Bool) : Slots := [(1, [], .slr 0 p.L.length 0 p.q), (2, [], .slr 1 p.A.length 1 p.r), (7, [], .kb true), (8, [], .ptr 5 0), (9, [], .v (.bool x))]
def hdSl (p : HdP) (x : Bool) (i : SV) : Slots := hdE p x ++ [(10, [], i)]
def upH : Nat → Nat → BS → BS
 | 0, _, s => s
 | n + 1, i, s => upH n (i + 1) (enableF s i true).1
noncomputable def hdT (S : Stat) (p : HdP) (s : BS) (x : Bool) (i : Nat) (ks : List Nat) : Out (Ex × St) := trimC [1, 2, 7, 8, 9, 10] ks (exec (cTl (S.rd 0 2)) (fnOf 9).ntmps 60 (lpOf 9 0) ⟨hdSl p x (.v (.int .i64 i)), brH (hdF0 p) 5 2 6 7 s p.q4, 8⟩)
theorem hd_go (S : Stat) (p : HdP) (s : BS) (x : Bool) (i : Nat) : Out.way [true, true] (hdT S p s x i [0, 1, 5, 2, 8, 9]) = some ([decide ((i : Int) < p.L.length) && x, bsT s.ps.length s (ixB s i) (enableF s i true).1.ps.length],
   (.nrm, ⟨hdSl p x (.v (.int .i64 (IntKind.i64.wrap (i + 1)))), [(0, .rows (.conf p.L)), (1, .rows (.todo p.A)), (5, (enableF s i true).1.b.sv (.slr 2 s.ps.length 2 p.q4) (.slr 8 (enableF s i true).1.out.length 8 false) (.slr 9 (enableF s i true).1.fl.length 9 false)), (2, .rows (.port (enableF s i true).1.ps)), (8, .rows (.sent (enableF s i true).1.out)), (9, .rows (.int .i64 (enableF s i true).1.fl))], 0⟩)) := by kernel_rfl
theorem hd_end (S : Stat) (p : HdP) (s : BS) (x : Bool) (i : Nat) : Out.way [false] (hdT S p s x i [0, 1, 5, 2, 6, 7]) = some ([decide ((i : Int) < p.L.length) && x], (.exit 0, ⟨hdSl p x (.v (.int .i64 i)), brH (hdF0 p) 5 2 6 7 s p.q4, 0⟩)) := by kernel_rfl
def gHdL : LoopFn := onTrimB 6 [1, 2, 7, 8, 9, 10] fun st => match st with
 | ⟨[(1, [], .slr 0 n 0 q), (2, [], .slr 1 m 1 r), (7, [], .kb true), (8, [], .ptr 5 0), (9, [], .v (.bool rest)), (10, [], .ki .i64 0)], [(5, bx), (0, .rows (.conf L)), (1, .rows (.todo A)), (4, .rows (.int .i64 fl)), (3, .rows (.sent out)), (2, .rows (.port ps))], _⟩ =>
   (match unBri bx with
   | some (b, .slr 2 n4 2 q4, .slr 3 n8 3 false, .slr 4 n9 4 false) =>
       some (.ite (decide (n = L.length ∧ m = A.length ∧ n4 = ps.length ∧ n8 = out.length ∧ n9 = fl.length) && decide (rest = true ∧ L.length ≤ 1000 ∧ ps.length = L.length)) (.ret (.exit 0, ⟨hdE ⟨L, A, q, r, q4⟩ true, brH (hdF0 ⟨L, A, q, r, q4⟩) 5 2 6 7 (upH L.length 0 ⟨b, ps, out, fl⟩) q4, 8⟩)) .bad)
   | _ => none)
 | _ => none
theorem rd_ro2 (S : Stat) (i : Int) {m : Nat} (hm : 2 ≤ m) : ∀ k, m ≤ k → (S.rd i 2).ro k = false := by
 intro k hk
 show Nat.blt k 2 = false
 cases h : Nat.blt k 2 with
 | false => rfl
 | true => have := (by simpa using h : k < 2); omega
theorem fix_hd0 {fx : Nat} (h : 1 < fx) (p : HdP) : FixH fx (hdF0 p) := by
 intro k x hm
 simp only [hdF0, List.mem_cons, List.not_mem_nil, or_false, Prod.mk.injEq] at hm
 rcases hm with ⟨rfl, rfl⟩ | ⟨rfl, rfl⟩
 · exact ⟨by omega, fun _ _ _ _ => rfl, fun _ => trivial⟩
 · exact ⟨h, fun _ _ _ _ => rfl, fun _ => trivial⟩
theorem hd_mem0 {p : HdP} {H : Heap} (h0 : H.get 0 = some (.rows (.conf p.L))) (h1 : H.get 1 = some (.rows (.todo p.A))) : ∀ k y, (k, y) ∈ hdF0 p → H.get k = some y := by
 intro k y hm
 simp only [hdF0, List.mem_cons, List.not_mem_nil, or_false, Prod.mk.injEq] at hm
 rcases hm with ⟨rfl, rfl⟩ | ⟨rfl, rfl⟩
 · exact h0
 · exact h1
theorem hd_fr0 {p : HdP} {k a b : Nat} (ha : 5 < a ∨ a = 3 ∨ a = 4) (hb : 5 < b ∨ b = 3 ∨ b = 4) (h : k = 5 ∨ k = 2 ∨ ∃ x, (k, x) ∈ hdF0 p) : k ≠ a ∧ k ≠ b := by
 have : k = 5 ∨ k = 2 ∨ k = 0 ∨ k = 1 := by
   rcases h with h | h | ⟨x, h⟩
   · exact .inl h
   · exact .inr (.inl h)
   · simp only [hdF0, List.mem_cons, List.not_mem_nil, or_false, Prod.mk.injEq] at h
     omega
 omega
theorem gHdL_ok (S : Stat) (ls : List (Nat × LoopFn)) : LoopOk Tryz.prog (withLoops (cTl (S.rd 0 2)) ls) (fnOf 9).ntmps (lpOf 9 0) gHdL := by
 refine loop_bs (π := HdP) cTl_fam (fuel := 60) (S.rd 0 2) (kb := 5) (kp := 2) (n2 := 6) (n3 := 7) (m2 := 6) (m3 := 7) (fx := 6) (nx := 6) (nx2 := 8) (ny := 8) (lo := 2) hdF0 (fun p => p.q4) hdSl hdE (.exit 0) (fun p s x i => x = true ∧ p.L.length ≤ 1000 ∧ s.ps.length = p.L.length ∧ i ≤ p.L.length) (fun p s x i => p.L.length - i)
   (fun p s x i => (upH (p.L.length - i) i s, true)) (fun p => fix_hd0 (by decide) p) (fun _ _ _ => rfl) (fun _ _ => rfl) (by decide) (by decide) (by decide) (by decide) (rd_ro2 S 0 (by decide)) ?_ ?_
 · intro st o r ho hr
   split at ho
   · rename_i n q m r' rest bx L A fl out ps _
     split at ho
     · rename_i b n4 q4 n8 n9 hb
       injection ho with ho
       subst ho
       obtain ⟨ht, hr2⟩ := Out.ite_bad hr
       simp only [Bool.and_eq_true, decide_eq_true_eq] at ht
       obtain ⟨⟨rfl, rfl, rfl, rfl, rfl⟩, rfl, h1, h3⟩ := ht
       obtain ⟨rfl, _, _⟩ := unBri_ok hb
       obtain rfl := Option.some.inj hr2
       exact ⟨⟨L, A, q, r', q4⟩, ⟨b, ps, out, fl⟩, true, .at_ 3, .at_ 4, ⟨rfl, h1, h3, Nat.zero_le _⟩, rfl, fun E => ⟨⟨_, rfl, rfl⟩, ⟨_, rfl, rfl⟩, ⟨_, rfl, rfl⟩, ⟨_, rfl, rfl⟩, ⟨_, rfl, rfl⟩, ⟨_, rfl, rfl⟩, trivial⟩, ⟨hd_mem0 rfl rfl, rfl, rfl, ⟨by decide, rfl⟩, ⟨by decide, rfl⟩, by decide, fun k hk => hd_fr0 (.inr (.inl rfl)) (.inr (.inr rfl)) hk⟩⟩
     · cases ho
   · cases ho
 · rintro p s x i ⟨rfl, h1, h2, hi⟩
   rcases Nat.lt_or_ge i p.L.length with hlt | hge
   · have hl := enable_len s i true
     have hix : ixB s i = true := by simp only [ixB, Bool.and_eq_true, decide_eq_true_eq]; omega
     have hsel := Out.way_sel (hd_go S p s true i) (by rw [decide_eq_true (by omega), bsT_true rfl hix hl.1]; rfl)
     refine ⟨[1, 2, 7, 8, 9, 10], [0, 1, 5, 2, 8, 9], .nrm, _, _, hsel, .inl ⟨rfl, (enableF s i true).1, true, .at_ 8, .at_ 9, ⟨rfl, h1, hl.1.trans h2, hlt⟩, by show p.L.length - (i + 1) < p.L.length - i; omega, ?_, fun E => ?_, ?_⟩⟩
     · rw [show p.L.length - i = (p.L.length - (i + 1)) + 1 from by omega]
       rfl
     · rw [wrap_succ (n := 1001) (by omega) (by omega)]
       exact ⟨⟨_, rfl, rfl⟩, ⟨_, rfl, rfl⟩, ⟨_, rfl, rfl⟩, ⟨_, rfl, rfl⟩, ⟨_, rfl, rfl⟩, ⟨_, rfl, rfl⟩, trivial⟩
     · refine ⟨hd_mem0 rfl rfl, ?_, rfl, ⟨by decide, rfl⟩, ⟨by decide, rfl⟩, by decide⟩
       have hl2 : (enableF s i true).1.ps.length = s.ps.length := hl.1
       show some _ = some _
       rw [hl2]
       rfl
   · have hsel := Out.way_sel (hd_end S p s true i) (by rw [decide_eq_false (by omega)]; rfl)
     refine ⟨[1, 2, 7, 8, 9, 10], [0, 1, 5, 2, 6, 7], .exit 0, _, _, hsel, .inr ⟨rfl, by simp, ?_, fun E => ⟨⟨_, rfl, rfl⟩, ⟨_, rfl, rfl⟩, ⟨_, rfl, rfl⟩, ⟨_, rfl, rfl⟩, ⟨_, rfl, rfl⟩, trivial⟩, ⟨hd_mem0 rfl rfl, rfl, rfl, ⟨by decide, rfl⟩, ⟨by decide, rfl⟩, by decide⟩⟩⟩
     rw [show p.L.length - i = 0 from by omega]; rfl
def hdF (p : HdP) (X : List Int) : Heap := [(0, .rows (.conf p.L)), (1, .rows (.todo p.A)), (8, .rows (.int .i64 X))]
def heE (p : HdP) (X : List Int) : Slots := [(1, [], .slr 0 p.L.length 0 p.q), (2, [], .slr 1 p.A.length 1 p.r), (7, [], .kb true), (8, [], .ptr 5 0), (9, [], .v (.bool true)), (11, [], .slr 8 X.length 8 true)]
def heSl (p : HdP) (X : List Int) (i : SV) : Slots := heE p X ++ [(12, [], i)]
def heB (p : HdP) (s : BS) (a : Todo) : BS := (hearF s (actK p.L.length a) a.msg).1
def heR (p : HdP) (s : BS) (a : Todo) : BS := (runF (heB p s a)).1
def heN (p : HdP) (s : BS) (a : Todo) : BS := { heR p s a with out := [] }
def heAll (p : HdP) : List Todo → BS → List Int → Option (BS × List Int)
 | [], s, X => some (s, X)
 | a :: r, s, X => if noTold a = true then none else heAll p r (heN p s a) (bump X (heR p s a).out)
noncomputable def heT (S : Stat) (p : HdP) (s : BS) (X : List Int) (i : Nat) (ts ks : List Nat) : Out (Ex × St) := trimC ts ks (exec (withLoops (cTl (S.rd 0 2)) [(19, gCtL)]) (fnOf 9).ntmps 60 (lpOf 9 1) ⟨heSl p X (.v (.int .i64 i)), brH (hdF p X) 5 2 9 10 s p.q4, 11⟩)
def heC (p : HdP) (s : BS) (X : List Int) (i : Nat) (a : Todo) : List Bool := ixT p.A i ++ [noTold a, (decide (0 ≤ (i : Int)) && decide ((i : Int) < p.A.length)) && (decide ((i : Int).toNat < (Rows.todo p.A).len) && (!((p.L.length : Int) == 0) && ((decide (0 ≤ (i : Int)) && decide ((i : Int) < p.A.length)) && decide ((i : Int).toNat < (Rows.todo p.A).len)))), bsT s.ps.length s (ixB s (actK p.L.length a)) (heB p s a).ps.length,
 bsT s.ps.length (heB p s a) (roomRun (heB p s a)) (heR p s a).ps.length,
 decide (p.L.length = p.L.length ∧ p.A.length = p.A.length ∧ X.length = X.length ∧ s.ps.length = (heR p s a).ps.length ∧ (heR p s a).out.length = (heR p s a).out.length ∧ (heR p s a).fl.length = (heR p s a).fl.length) && decide (X.length = p.L.length ∧ (heR p s a).out.length ≤ 100000000 ∧ ∀ x ∈ (heR p s a).out, 0 ≤ x.port ∧ x.port < p.L.length)]
theorem he_go (S : Stat) (p : HdP) (s : BS) (X : List Int) (i : Nat) : Out.way [true, true, true, false, true, true, true, true] (heT S p s X i [1, 2, 7, 8, 9, 11, 12] [0, 1, 8, 5, 2, 14]) = some (heC p s X i (p.A.getD (i : Int).toNat Todo.dflt),
   (.nrm, ⟨[(1, [], .slr 0 p.L.length 0 p.q), (2, [], .slr 1 p.A.length 1 p.r), (7, [], .kb true), (8, [], .ptr 5 0), (9, [], .v (.bool true)), (11, [], .slr 8 X.length 8 true), (12, [], .v (.int .i64 (IntKind.i64.wrap (i + 1))))], [(0, .rows (.conf p.L)), (1, .rows (.todo p.A)), (8, .rows (.int .i64 (bump X (heR p s (p.A.getD (i : Int).toNat Todo.dflt)).out))), (5, (heN p s (p.A.getD (i : Int).toNat Todo.dflt)).b.sv (.slr 2 (heR p s (p.A.getD (i : Int).toNat Todo.dflt)).ps.length 2 p.q4) nil3 (.slr 14 (heR p s (p.A.getD (i : Int).toNat Todo.dflt)).fl.length 14 false)), (2, .rows (.port (heR p s (p.A.getD (i : Int).toNat Todo.dflt)).ps)), (14, .rows (.int .i64 (heR p s (p.A.getD (i : Int).toNat Todo.dflt)).fl))], 0⟩)) := by kernel_rfl
theorem he_no (S : Stat) (p : HdP) (s : BS) (X : List Int) (i : Nat) : Out.way [true, true, true, true] (heT S p s X i [6] []) = some (ixT p.A i ++ [noTold (p.A.getD (i : Int).toNat Todo.dflt)], (.ret, ⟨[(6, [], .kb true)], [], 0⟩)) := by kernel_rfl
theorem he_end (S : Stat) (p : HdP) (s : BS) (X : List Int) (i : Nat) : Out.way [false] (heT S p s X i [1, 2, 7, 8, 9, 11] [0, 1, 8, 5, 2, 9, 10]) = some ([decide ((i : Int) < p.A.length)], (.exit 2, ⟨heE p X, brH (hdF p X) 5 2 9 10 s p.q4, 0⟩)) := by kernel_rfl
def heOk (p : HdP) : List Todo → BS → Bool
 | [], _ => true
 | a :: r, s => if noTold a = true then true else decide (∀ x ∈ (heR p s a).out, 0 ≤ x.port ∧ x.port < p.L.length) && heOk p r (heN p s a)
def capH (i n : Nat) : Prop := n + (1000 - i) * 40000 ≤ 100000000
theorem capH_start {n : Nat} (h : n ≤ 50000000) : capH 0 n := by unfold capH; omega
theorem capH_next {i n m : Nat} (h : capH i n) (hi : i < 1000) (hm : m ≤ n + 40000) : capH (i + 1) m := by unfold capH at *; omega
theorem capH_room {i n : Nat} (h : capH i n) : n ≤ 100000000 := by unfold capH at h; omega
def heOut : St := ⟨[(6, [], .kb true)], [], 11⟩
def heFin (p : HdP) (y : BS × List Int) : St := ⟨heE p y.2, brH (hdF p y.2) 5 2 9 10 y.1 p.q4, 11⟩
def gHeL : LoopFn := onTrimB 9 [1, 2, 7, 8, 9, 11, 12] fun st => match st with
 | ⟨[(1, [], .slr 0 n 0 q), (2, [], .slr 1 n2 1 r), (7, [], .kb true), (8, [], .ptr 5 0), (9, [], .v (.bool true)), (11, [], .slr 8 m 8 true), (12, [], .ki .i64 0)], [(8, .rows (.int .i64 X)), (0, .rows (.conf L)), (1, .rows (.todo A)), (5, bx), (2, .rows (.port ps)), (6, .rows (.sent out)), (7, .rows (.int .i64 fl))], _⟩ =>
   (match unBri bx with
   | some (b, .slr 2 n4 2 q4, .slr 6 n8 6 false, .slr 7 n9 7 false) =>
       some (.ite (decide (n = L.length ∧ n2 = A.length ∧ m = X.length ∧ n4 = ps.length ∧ n8 = out.length ∧ n9 = fl.length) && (decide (1 ≤ L.length ∧ L.length ≤ 5 ∧ A.length ≤ 1000 ∧ ps.length = L.length ∧ X.length = L.length ∧ out.length ≤ 50000000 ∧ fl.length ≤ 50000000 ∧ ∀ a ∈ A, 0 ≤ a.port ∧ a.port < 256) && heOk ⟨L, A, q, r, q4⟩ A ⟨b, ps, out, fl⟩))
         (.ite (heAll ⟨L, A, q, r, q4⟩ A ⟨b, ps, out, fl⟩ X).isSome (.ret (.exit 2, heFin ⟨L, A, q, r, q4⟩ ((heAll ⟨L, A, q, r, q4⟩ A ⟨b, ps, out, fl⟩ X).getD (⟨b, ps, out, fl⟩, X)))) (.ret (.ret, heOut))) .bad)
   | _ => none)
 | _ => none
theorem fix_hd {fx : Nat} (h : 8 < fx) (p : HdP) (X : List Int) : FixH fx (hdF p X) := by
 intro k x hm
 simp only [hdF, List.mem_cons, List.not_mem_nil, or_false, Prod.mk.injEq] at hm
 rcases hm with ⟨rfl, rfl⟩ | ⟨rfl, rfl⟩ | ⟨rfl, rfl⟩
 · exact ⟨by omega, fun _ _ _ _ => rfl, fun _ => trivial⟩
 · exact ⟨by omega, fun _ _ _ _ => rfl, fun _ => trivial⟩
 · exact ⟨h, fun _ _ _ _ => rfl, fun _ => trivial⟩
theorem hd_mem {p : HdP} {X : List Int} {H : Heap} (h0 : H.get 0 = some (.rows (.conf p.L))) (h1 : H.get 1 = some (.rows (.todo p.A))) (h8 : H.get 8 = some (.rows (.int .i64 X))) : ∀ k y, (k, y) ∈ hdF p X → H.get k = some y := by
 intro k y hm
 simp only [hdF, List.mem_cons, List.not_mem_nil, or_false, Prod.mk.injEq] at hm
 rcases hm with ⟨rfl, rfl⟩ | ⟨rfl, rfl⟩ | ⟨rfl, rfl⟩
 · exact h0
 · exact h1
 · exact h8
theorem hd_fr {p : HdP} {X : List Int} {k : Nat} (h : k = 5 ∨ k = 2 ∨ ∃ x, (k, x) ∈ hdF p X) : k ≠ 6 ∧ k ≠ 7 := by
 have : k = 5 ∨ k = 2 ∨ k = 0 ∨ k = 1 ∨ k = 8 := by
   rcases h with h | h | ⟨x, h⟩
   · exact .inl h
   · exact .inr (.inl h)
   · simp only [hdF, List.mem_cons, List.not_mem_nil, or_false, Prod.mk.injEq] at h
     omega
 omega
theorem run_len_he (p : HdP) (s : BS) (a : Todo) (h : s.ps.length ≤ 5) : (heR p s a).ps.length = s.ps.length ∧ (heR p s a).out.length ≤ s.out.length + 40000 ∧ (heR p s a).fl.length ≤ s.fl.length + 40000 := by
 have hl := hear_len s (actK p.L.length a) a.msg
 have hr := runF_len5 (heB p s a) (by have := hl.1; show (hearF s _ _).1.ps.length ≤ 5; omega)
 refine ⟨hr.1.trans hl.1, ?_, ?_⟩
 · have h2 : (heB p s a).out = s.out := hl.2.1
   rw [← h2]; exact hr.2.1
 · have h2 : (heB p s a).fl = s.fl := hl.2.2
   rw [← h2]; exact hr.2.2
theorem bump_len' (X : List Int) (l : List Sent) : (bump X l).length = X.length := bump_len l X
theorem he_inner (S : Stat) : LoopsOk Tryz.prog (withLoops (cTl (S.rd 0 2)) [(19, gCtL)]) (fnOf 9).ntmps (lpOf 9 1) := by
 refine LoopsOk.of fun i hi => ?_
 have hl : (loopsOf (lpOf 9 1)).length = 1 := by kernel_rfl
 have h0 : i = 0 := by omega
 subst h0
 have e1 : loopAt (lpOf 9 1) 0 = lpOf 9 2 := by kernel_rfl
 have e2 : (withLoops (cTl (S.rd 0 2)) [(19, gCtL)]).loop (firstId (loopAt (lpOf 9 1) 0)) = gCtL := by kernel_rfl
 rw [e2, e1]
 exact gCtL_ok S _
theorem gHeL_ok (S : Stat) (ls : List (Nat × LoopFn)) : LoopOk Tryz.prog (withLoops (cTl (S.rd 0 2)) ls) (fnOf 9).ntmps (lpOf 9 1) gHeL := by
 refine loop_bsx (π := HdP) (X := List Int) cTl_fam (li := [(19, gCtL)]) (fuel := 60) (S.rd 0 2) (kb := 5) (kp := 2) (n2 := 9) (n3 := 10) (m2 := 9) (m3 := 10) (fx := 9) (nx := 9) (nx2 := 11) (ny := 11) (lo := 2) hdF (fun p => p.q4) heSl heE (.exit 2) heOut.slots
   (fun p s x i => s.ps.length = p.L.length ∧ 1 ≤ p.L.length ∧ p.L.length ≤ 5 ∧ p.A.length ≤ 1000 ∧ x.length = p.L.length ∧ s.out.length ≤ 50000000 ∧ capH i s.fl.length ∧ i ≤ p.A.length ∧ heOk p (p.A.drop i) s = true ∧ ∀ a ∈ p.A, 0 ≤ a.port ∧ a.port < 256) (fun p s x i => p.A.length - i)
   (fun p s x i => heAll p (p.A.drop i) s x) (he_inner S) (fun p x => fix_hd (by decide) p x) (fun _ _ _ => rfl) (fun _ _ => rfl) rfl (by decide) (by decide) (by decide) (by decide) (rd_ro2 S 0 (by decide)) ?_ ?_
 · intro st o r ho hr
   split at ho
   · rename_i n q n2 r' m X L A bx ps out fl _
     split at ho
     · rename_i b n4 q4 n8 n9 hb
       injection ho with ho
       subst ho
       obtain ⟨ht, hr2⟩ := Out.ite_bad hr
       simp only [Bool.and_eq_true, decide_eq_true_eq] at ht
       obtain ⟨⟨rfl, rfl, rfl, rfl, rfl, rfl⟩, ⟨h1, h2, h3, h4, h5, h6, h7, h9⟩, h8⟩ := ht
       obtain ⟨rfl, _, _⟩ := unBri_ok hb
       refine ⟨⟨L, A, q, r', q4⟩, ⟨b, ps, out, fl⟩, X, .at_ 6, .at_ 7, ⟨h4, h1, h2, h3, h5, h6, capH_start h7, Nat.zero_le _, h8, h9⟩, ?_, fun E => ⟨⟨_, rfl, rfl⟩, ⟨_, rfl, rfl⟩, ⟨_, rfl, rfl⟩, ⟨_, rfl, rfl⟩, ⟨_, rfl, rfl⟩, ⟨_, rfl, rfl⟩, ⟨_, rfl, rfl⟩, trivial⟩, ⟨hd_mem rfl rfl rfl, rfl, rfl, ⟨by decide, rfl⟩, ⟨by decide, rfl⟩, by decide, fun k hk => hd_fr hk⟩⟩
       show r = finX _ _ _ _ _ _ _ _ _ _ _ (heAll ⟨L, A, q, r', q4⟩ (A.drop 0) ⟨b, ps, out, fl⟩ X)
       rw [List.drop_zero]
       cases hA : heAll ⟨L, A, q, r', q4⟩ A ⟨b, ps, out, fl⟩ X with
       | none => rw [hA] at hr2; exact (Option.some.inj hr2).symm
       | some y => rw [hA] at hr2; exact (Option.some.inj hr2).symm
     · cases ho
   · cases ho
 · rintro p s x i ⟨h1, h0, h5, hA, hX, ho, hc, hi, hok, hpt⟩
   rcases Nat.lt_or_ge i p.A.length with hlt | hge
   · obtain ⟨a, ha⟩ : ∃ a, p.A[i]? = some a := ⟨_, List.getElem?_eq_getElem hlt⟩
     have hget : p.A.getD (i : Int).toNat Todo.dflt = a := by
       show p.A.getD i Todo.dflt = a
       rw [List.getD_eq_getElem?_getD, ha]; rfl
     have hdrop : p.A.drop i = a :: p.A.drop (i + 1) := by
       rw [List.drop_eq_getElem_cons hlt]
       congr 1
       rw [List.getElem?_eq_getElem hlt] at ha
       exact Option.some.inj ha
     rw [hdrop] at hok
     cases hnt : noTold a with
     | true =>
       have hsel := Out.way_sel (he_no S p s x i) (by rw [hget, ixT_true hlt, hnt]; rfl)
       refine ⟨[6], [], .ret, _, _, hsel, .inr (.inr ⟨rfl, ?_, fun E => ⟨⟨_, rfl, rfl⟩, trivial⟩⟩)⟩
       show heAll p (p.A.drop i) s x = none
       rw [hdrop, heAll, if_pos hnt]
     | false =>
       rw [heOk, if_neg (by rw [hnt]; decide)] at hok
       simp only [Bool.and_eq_true, decide_eq_true_eq] at hok
       obtain ⟨hok1, hok2⟩ := hok
       have hl := hear_len s (actK p.L.length a) a.msg
       have hr := run_len_he p s a (by omega)
       have hk := actK_rng h0 (hpt a (List.mem_of_getElem? ha))
       have hix : ixB s (actK p.L.length a) = true := by simp only [ixB, Bool.and_eq_true, decide_eq_true_eq]; omega
       have hB1 : (heB p s a).ps.length = s.ps.length := hl.1
       have hB2 : (heB p s a).out = s.out := hl.2.1
       have hB3 : (heB p s a).fl = s.fl := hl.2.2
       have hroom : roomRun (heB p s a) = true := decide_eq_true ⟨by omega, by rw [hB2]; omega, by rw [hB3]; exact capH_room hc⟩
       have hb0 : ((p.L.length : Int) == 0) = false := by
         cases hq : ((p.L.length : Int) == 0) with
         | false => rfl
         | true => have := eq_of_beq hq; omega
       have d1 : decide ((i : Int).toNat < (Rows.todo p.A).len) = true := decide_eq_true hlt
       have hsel := Out.way_sel (he_go S p s x i) (by
         rw [hget]
         unfold heC
         rw [ixT_true hlt, hnt, decide_eq_true (show (0 : Int) ≤ i by omega), decide_eq_true (show (i : Int) < p.A.length by omega), d1, hb0, bsT_true rfl hix hB1, bsT_true hB1.symm hroom (hr.1.trans hB1.symm), decide_eq_true ⟨rfl, rfl, rfl, hr.1.symm, rfl, rfl⟩, decide_eq_true ⟨hX, by omega, hok1⟩]
         rfl)
       rw [hget] at hsel
       refine ⟨[1, 2, 7, 8, 9, 11, 12], [0, 1, 8, 5, 2, 14], .nrm, _, _, hsel, .inl ⟨rfl, heN p s a, bump x (heR p s a).out, .nil, .at_ 14, ⟨hr.1.trans h1, h0, h5, hA, (bump_len' _ _).trans hX, Nat.zero_le _, capH_next hc (by omega) hr.2.2, hlt, hok2, hpt⟩, by show p.A.length - (i + 1) < p.A.length - i; omega, ?_, fun E => ?_, ?_⟩⟩
       · show heAll p (p.A.drop (i + 1)) _ _ = heAll p (p.A.drop i) s x
         rw [hdrop, heAll, if_neg (by rw [hnt]; decide)]
       · rw [wrap_succ (n := 1001) (by omega) (by omega)]
         refine ⟨⟨_, rfl, rfl⟩, ⟨_, rfl, rfl⟩, ⟨_, rfl, rfl⟩, ⟨_, rfl, rfl⟩, ⟨_, rfl, rfl⟩, ⟨_, rfl, ?_⟩, ⟨_, rfl, rfl⟩, trivial⟩
         show SV.den _ _ (.slr 8 x.length 8 true) = SV.den _ _ (.slr 8 (bump x (heR p s a).out).length 8 true)
         rw [bump_len']
       · refine ⟨hd_mem rfl rfl rfl, ?_, rfl, rfl, ⟨by decide, rfl⟩, by decide⟩
         show some _ = some _
         have e2 : (heN p s a).ps.length = s.ps.length := hr.1
         rw [e2]
         have e3 : (heR p s a).ps.length = s.ps.length := hr.1
         rw [e3]
         rfl
   · have hsel := Out.way_sel (he_end S p s x i) (by rw [decide_eq_false (by omega)])
     refine ⟨[1, 2, 7, 8, 9, 11], [0, 1, 8, 5, 2, 9, 10], .exit 2, _, _, hsel, .inr (.inl ⟨rfl, by simp, ?_, fun E => ⟨⟨_, rfl, rfl⟩, ⟨_, rfl, rfl⟩, ⟨_, rfl, rfl⟩, ⟨_, rfl, rfl⟩, ⟨_, rfl, rfl⟩, ⟨_, rfl, rfl⟩, trivial⟩, ⟨hd_mem rfl rfl rfl, rfl, rfl, ⟨by decide, rfl⟩, ⟨by decide, rfl⟩, by decide⟩⟩)⟩
     show heAll p (p.A.drop i) s x = some (s, x)
     rw [List.drop_of_length_le (by omega)]; rfl
structure HfP where
 X : List Int
 q : Bool
def hfE : Slots := [(7, [], .kb true), (9, [], .v (.bool true))]
def hfSl (p : HfP) (i : SV) : Slots := [(1, [], .slr 0 p.X.length 0 p.q), (7, [], .kb true), (9, [], .v (.bool true)), (11, [], .slr 8 p.X.length 8 true), (16, [], i)]
noncomputable def hfT (S : Stat) (p : HfP) (i : Nat) : Out (Ex × St) := trimO [1, 7, 9, 11, 16] 11 (exec (cTl (S.rd 0 2)) (fnOf 9).ntmps 60 (lpOf 9 3) ⟨hfSl p (.v (.int .i64 i)), [(8, .rows (.int .i64 p.X))], 11⟩)
def hfC (p : HfP) (i : Nat) : List Bool := [decide ((i : Int) < p.X.length), decide (0 ≤ (i : Int)) && decide ((i : Int) < p.X.length), decide ((i : Int).toNat < p.X.length), decide (p.X.getD (i : Int).toNat 0 > 6)]
theorem hf_go (S : Stat) (p : HfP) (i : Nat) : Out.way [true, true, true, false] (hfT S p i) = some (hfC p i, (.nrm, ⟨hfSl p (.v (.int .i64 (IntKind.i64.wrap (i + 1)))), [(8, .rows (.int .i64 p.X))], 11⟩)) := by kernel_rfl
theorem hf_end (S : Stat) (p : HfP) (i : Nat) : Out.way [false] (hfT S p i) = some ([decide ((i : Int) < p.X.length)], (.exit 6, ⟨hfSl p (.v (.int .i64 i)), [(8, .rows (.int .i64 p.X))], 11⟩)) := by kernel_rfl
def gHfL : LoopFn := onTrim 11 [1, 7, 9, 11, 16] fun st => match st with
 | ⟨[(1, [], .slr 0 n 0 q), (7, [], .kb true), (9, [], .v (.bool true)), (11, [], .slr 8 m 8 true), (16, [], .ki .i64 0)], [(0, _), (1, _), (8, .rows (.int .i64 X)), (5, _), (2, _), (9, _), (10, _)], _⟩ =>
   some (.ite (decide (n = X.length ∧ m = X.length ∧ X.length ≤ 1000) && decide (∀ x ∈ X, ¬ x > 6)) (.ret (.exit 6, ⟨hfE, [], 11⟩)) .bad)
 | _ => none
theorem runL_goI (fin : Unit → Ex × St) : ∀ (l : List Int) (i : Nat) (x : Unit), runL (fun i (p : Int) (x : Unit) => Step.go ()) fin l i x = fin ()
 | [], i, x => rfl
 | p :: r, i, x => by rw [runL]; exact runL_goI fin r (i + 1) _
theorem gHfL_ok (S : Stat) (ls : List (Nat × LoopFn)) : LoopOk Tryz.prog (withLoops (cTl (S.rd 0 2)) ls) (fnOf 9).ntmps (lpOf 9 3) gHfL := by
 refine loop_trim cTl_fam (nx := 11) (fuel := 60) (ts := [1, 7, 9, 11, 16]) (π := HfP) (α := Int) (τ := Unit) (S.rd 0 2) (fun _ i => S.rd 0 2) (fun _ _ => rfl) (fun p => p.X) (fun p i x => ⟨hfSl p (.v (.int .i64 i)), [(8, .rows (.int .i64 p.X))], 11⟩)
   (fun p i x => p.X.length ≤ 1000 ∧ ∀ x ∈ p.X, ¬ x > 6) (fun p i a x => .go ()) (fun p x => (.exit 6, ⟨hfE, [], 11⟩)) (fun _ _ _ => rfl) ?_ ?_ ?_
 · intro st o r ho hr
   split at ho
   · rename_i n q m y0 y1 X y5 y2 y9 y10 _
     injection ho with ho
     subst ho
     have hh := Out.ite_bad hr
     have ht := hh.1
     simp only [Bool.and_eq_true, decide_eq_true_eq] at ht
     obtain ⟨⟨rfl, rfl, hlt⟩, hno⟩ := ht
     obtain rfl := Option.some.inj hh.2
     exact ⟨⟨X, q⟩, (), ⟨hlt, hno⟩, (runL_goI (fun x => (Ex.exit 6, (⟨hfE, [], 11⟩ : St))) X 0 ()).symm, Nat.le_refl 11, fun E => ⟨⟨⟨_, rfl, rfl⟩, ⟨_, rfl, rfl⟩, ⟨_, rfl, rfl⟩, ⟨_, rfl, rfl⟩, ⟨_, rfl, rfl⟩, trivial⟩, ⟨⟨_, rfl, rfl, trivial⟩, trivial⟩⟩⟩
   · cases ho
 · intro p i a x ha hinv
   obtain ⟨hlt, hno⟩ := hinv
   obtain ⟨hi, _⟩ := List.getElem?_eq_some_iff.1 ha
   have hx := hno a (List.mem_of_getElem? ha)
   have hg : p.X.getD (i : Int).toNat 0 = a := by
     show p.X.getD i 0 = a
     rw [List.getD_eq_getElem?_getD, ha]; rfl
   refine ⟨.nrm, _, Out.way_sel (hf_go S p i) (by unfold hfC; rw [hg, decide_eq_true (show (i : Int) < p.X.length by omega), decide_eq_true (show (0 : Int) ≤ i by omega), decide_eq_true (show (i : Int).toNat < p.X.length by omega), decide_eq_false hx]; rfl), rfl, ⟨hlt, hno⟩, fun E => ?_⟩
   rw [wrap_succ (n := 1001) (by omega) (by omega)]
   exact ⟨⟨⟨_, rfl, rfl⟩, ⟨_, rfl, rfl⟩, ⟨_, rfl, rfl⟩, ⟨_, rfl, rfl⟩, ⟨_, rfl, rfl⟩, trivial⟩, ⟨⟨_, rfl, rfl, trivial⟩, trivial⟩⟩
 · intro p x hinv
   exact ⟨.exit 6, _, Out.way_sel (hf_end S p p.X.length) (by rw [decide_eq_false (by omega)]), rfl, by simp, fun E => ⟨⟨⟨_, rfl, rfl⟩, ⟨_, rfl, rfl⟩, trivial⟩, trivial⟩⟩
structure HwP where
 L : List Conf
 A : List Todo
 q : Bool
 r : Bool
 rst : Bool
noncomputable def hwW (S : Stat) (y : HwP) : Out SV := valF 2 (inline (withLoops (cTl (S.rd 0 2)) [(6, gHdL), (11, gHeL), (19, gCtL), (27, gHfL)]) 60 (fnOf 9) [.v (.bool y.rst), .slr 0 y.L.length 0 y.q, .slr 1 y.A.length 1 y.r] [(0, .rows (.conf y.L)), (1, .rows (.todo y.A))] 2)
def hwLs : List (Nat × LoopFn) := [(6, gHdL), (11, gHeL), (19, gCtL), (27, gHfL)]
def hwP (y : HwP) : HdP := ⟨y.L, y.A, y.q, y.r, false⟩
def hw0 (y : HwP) : BS := (liveF y.rst y.L []).1
def hwS (y : HwP) : BS := upH y.L.length 0 (hw0 y)
def hwX (y : HwP) : List Int := List.replicate y.L.length 0
def hwR (y : HwP) : Option (BS × List Int) := heAll (hwP y) y.A (hwS y) (hwX y)
def hwZ (y : HwP) : List Int := ((hwR y).getD (hwS y, hwX y)).2
def hwG (y : HwP) : Bool := (decide ((y.L.length : Int) > 5) || decide ((y.L.length : Int) < 1)) || decide ((y.A.length : Int) > 40)
def hwC (y : HwP) : List Bool := [hwG y, decide (y.L.length = y.L.length) && lvOk y.rst y.L [],
   decide (y.L.length = y.L.length ∧ y.A.length = y.A.length ∧ (hw0 y).ps.length = (hw0 y).ps.length ∧ (hw0 y).out.length = (hw0 y).out.length ∧ (hw0 y).fl.length = (hw0 y).fl.length) && decide ((liveF y.rst y.L []).2 = true ∧ y.L.length ≤ 1000 ∧ (hw0 y).ps.length = y.L.length),
   decide (0 ≤ (y.L.length : Int) ∧ (y.L.length : Int) ≤ 100000 ∧ (y.L.length : Int) = y.L.length),
   decide (y.L.length = y.L.length ∧ y.A.length = y.A.length ∧ y.L.length = (hwX y).length ∧ (hwS y).ps.length = (hwS y).ps.length ∧ (hwS y).out.length = (hwS y).out.length ∧ (hwS y).fl.length = (hwS y).fl.length) && (decide (1 ≤ y.L.length ∧ y.L.length ≤ 5 ∧ y.A.length ≤ 1000 ∧ (hwS y).ps.length = y.L.length ∧ (hwX y).length = y.L.length ∧ (hwS y).out.length ≤ 50000000 ∧ (hwS y).fl.length ≤ 50000000 ∧ ∀ a ∈ y.A, 0 ≤ a.port ∧ a.port < 256) && heOk (hwP y) y.A (hwS y)), (hwR y).isSome]
theorem hw_far (S : Stat) (y : HwP) : Out.way [true] (hwW S y) = some ([hwG y], .kb true) := by kernel_rfl
theorem hw_told (S : Stat) (y : HwP) : Out.way [false, true, true, true, true, false] (hwW S y) = some (hwC y, .kb true) := by kernel_rfl
theorem hw_end (S : Stat) (y : HwP) : Out.way [false, true, true, true, true, true, true] (hwW S y) = some (hwC y ++ [decide (y.L.length = (hwZ y).length ∧ (hwZ y).length = (hwZ y).length ∧ (hwZ y).length ≤ 1000) && decide (∀ x ∈ hwZ y, ¬ x > 6)], .v (.bool true)) := by kernel_rfl
theorem hwLs_ok (S : Stat) : ∀ i k g, hwLs[i]? = some (k, g) → LoopOk Tryz.prog (withLoops (cTl (S.rd 0 2)) hwLs) (fnOf 9).ntmps (lpOf 9 i) g := by
 intro i k g hg
 match i, hg with
 | 0, hg => obtain ⟨rfl, rfl⟩ := Prod.mk.inj (Option.some.inj hg); exact gHdL_ok S _
 | 1, hg => obtain ⟨rfl, rfl⟩ := Prod.mk.inj (Option.some.inj hg); exact gHeL_ok S _
 | 2, hg => obtain ⟨rfl, rfl⟩ := Prod.mk.inj (Option.some.inj hg); exact gCtL_ok S _
 | 3, hg => obtain ⟨rfl, rfl⟩ := Prod.mk.inj (Option.some.inj hg); exact gHfL_ok S _
end Go.Proofs.YtjemfkoamfnofaaGreat
