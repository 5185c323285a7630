import Derived.Test.YtjemfkoamfnofaaGreatCi
set_option linter.unusedVariables false
set_option maxRecDepth 100000
namespace Go.Proofs.YtjemfkoamfnofaaGreat
section
open Go Go.RowKit
noncomputable def psTl (S : Stat) : List (Nat × ReadFn) := (10, specRead (spc gAw) S 3) :: auto ps0 S 15 :: []
theorem psTl_ok (S : Stat) : ReadsOk S [] (psTl S) := .cons (specRead_ok (fun S' => spc_ok aw_ok S') 3) <| .auto ps0_ok <| .nil S []
noncomputable def ssTl (S : Stat) : List (Nat × SpecFn) := (16, spc gLive S) :: (17, spc gRun S) :: (19, spc gTick S) :: (18, spc gEnable S) :: (20, spc gHear S) :: []
theorem ssTl_ok (S : Stat) : ∀ f g, (f, g) ∈ ssTl S → SpecOk S [] f g := specs_cons (spc_ok live_ok S) <| specs_cons (spc_ok run_ok S) <| specs_cons (spc_ok tick_ok S) <| specs_cons (spc_ok enable_ok S) <| specs_cons (spc_ok hear_ok S) specs_nil
noncomputable def cTl (S : Stat) : Ctx := mkCtx S [] (psTl S) (ssTl S) 60 5
theorem cTl_fam : Fam cTl := mk_fam psTl ssTl 60 5 psTl_ok ssTl_ok
def toldM (m : Msg) : Bool := decide (m.times.age ≥ 0) && decide (m.times.age ≤ 256) && decide (m.times.max ≥ 0) && decide (m.times.max ≤ 256) && decide (m.times.hello ≥ 0) && decide (m.times.hello ≤ 256) && decide (m.times.delay ≥ 0) && decide (m.times.delay ≤ 256)
def noTold (a : Todo) : Bool := !(toldM a.msg)
structure TlP where
 L : List Conf
 A : List Todo
 q : Bool
 r : Bool
 rst : Bool
def ixT (A : List Todo) (i : Nat) : List Bool := [decide ((i : Int) < A.length), decide (0 ≤ (i : Int)) && decide ((i : Int) < A.length), decide ((i : Int).toNat < (Rows.todo A).len)]
theorem ixT_true {A : List Todo} {i : Nat} (h : i < A.length) : ixT A i = [true, true, true] := by
 have e1 : (i : Int) < A.length := by omega
 have e3 : (i : Int).toNat < (Rows.todo A).len := by show (i : Int).toNat < A.length; omega
 simp only [ixT, e1, e3, decide_true, show decide (0 ≤ (i : Int)) = true from by simp, Bool.and_self]
structure FgP where
 b : Bri
 ps : List Port
 lo : Nat
 lf : Nat
 q : Bool
 rest : Bool
 n : Int
 still : Bool
end
section
open Go Go.RowKit
theorem re_slots_upto {s : Slots} {S : Stat} {E E2 : Env} {fx : Nat} (hu : Env.upto fx E E2) : ∀ {l : Slots}, (l.all fun e => e.2.2.bnd fx) = true → ReSlots2 s S E S E l → ReSlots2 s S E S E2 l
 | [], _, _ => trivial
 | (t, p, x) :: r, hb, h => by
   simp only [List.all_cons, Bool.and_eq_true] at hb
   obtain ⟨⟨y, h1, h2⟩, h3⟩ := h
   exact ⟨⟨y, h1, h2.trans (SV.den_upto S hu x hb.1).symm⟩, re_slots_upto hu hb.2 h3⟩
theorem loop_bs {π : Type} {mk : Stat → Ctx} (hm : Fam mk) {ls : List (Nat × LoopFn)} {n fuel : Nat} {b : Code} {ts0 : List Nat} (Sc : Stat) {kb kp n2 n3 m2 m3 fx nx nx2 lo ny : Nat} (F : π → Heap) (q : π → Bool) (sl : π → Bool → SV → Slots) (slE : π → Bool → Slots) (ex : Ex)
   (inv : π → BS → Bool → Nat → Prop) (mu : π → BS → Bool → Nat → Nat) (res : π → BS → Bool → Nat → BS × Bool) {f : St → Option (Out (Ex × St))} (hF : ∀ p, FixH fx (F p)) (hsl : ∀ p x (i : Nat), ((sl p x (.v (.int .i64 i))).all fun e => e.2.2.bnd fx) = true) (hslE : ∀ p x, ((slE p x).all fun e => e.2.2.bnd fx) = true)
   (hk : kb < fx ∧ kp < fx ∧ fx ≤ n2 ∧ fx ≤ n3 ∧ n2 ≠ n3 ∧ fx ≤ 1000000) (hm2 : nx ≤ m2 ∧ nx ≤ m3 ∧ m2 ≠ m3 ∧ fx ≤ nx ∧ nx ≤ nx2 ∧ n2 < 1000000 ∧ n3 < 1000000) (hny : fx ≤ ny) (hlo : lo ≤ fx) (hro : ∀ k, lo ≤ k → Sc.ro k = false)
   (hg : ∀ st o r, f st = some o → o.sel = some r → ∃ p s x l2 l3, inv p s x 0 ∧ r = (ex, ⟨slE p (res p s x 0).2, brH (F p) kb kp m2 m3 (res p s x 0).1 (q p), nx2⟩) ∧ (∀ E, ReSlots2 st.slots Sc E Sc E (sl p x (.v (.int .i64 (0 : Nat))))) ∧ BrAtG st.heap (F p) kb kp lo s (q p) l2 l3)
   (hstep : ∀ p s x i, inv p s x i → ∃ ts ks ex1 sl1 H1, (trimC ts ks (exec (mk Sc) n fuel b ⟨sl p x (.v (.int .i64 i)), brH (F p) kb kp n2 n3 s (q p), ny⟩)).sel = some (ex1, ⟨sl1, H1, 0⟩) ∧
     ((ex1 = .nrm ∧ ∃ s' x' l2 l3, inv p s' x' (i + 1) ∧ mu p s' x' (i + 1) < mu p s x i ∧ res p s' x' (i + 1) = res p s x i ∧ (∀ E, ReSlots2 sl1 Sc E Sc E (sl p x' (.v (.int .i64 ((i + 1 : Nat) : Int))))) ∧ BrAt H1 (F p) kb kp fx s' (q p) l2 l3) ∨
      (ex1 = ex ∧ ex ≠ .nrm ∧ res p s x i = (s, x) ∧ (∀ E, ReSlots2 sl1 Sc E Sc E (slE p x)) ∧ BrAt H1 (F p) kb kp fx s (q p) (.at_ n2) (.at_ n3)))) :
   LoopOk Tryz.prog (withLoops (mk Sc) ls) n b (onTrimB nx ts0 f) := by
 have hS : (mk Sc).S = Sc := hm.S Sc
 refine loop_gen hm (fx := fx) (nx := nx) (fuel := fuel) (τ := π × BS × Bool × Nat) Sc (fun _ => mk Sc) (fun y => ⟨sl y.1 y.2.2.1 (.v (.int .i64 y.2.2.2)), brH (F y.1) kb kp n2 n3 y.2.1 (q y.1), ny⟩) (fun y => inv y.1 y.2.1 y.2.2.1 y.2.2.2) (fun y => mu y.1 y.2.1 y.2.2.1 y.2.2.2)
   (fun y => (ex, ⟨slE y.1 (res y.1 y.2.1 y.2.2.1 y.2.2.2).2, brH (F y.1) kb kp m2 m3 (res y.1 y.2.1 y.2.2.1 y.2.2.2).1 (q y.1), nx2⟩)) (fun y => ⟨hm.full _, hm.win _, LoopsOk.none (hm.loop _) _⟩) (fun y => hny) ?_ ?_
 · intro st o r ho hr
   obtain ⟨p, s, x, l2, l3, hI, rfl, hs, hat⟩ := hg st o r ho hr
   refine ⟨(p, s, x, 0), hI, rfl, hm2.2.2.2.2.1, fun E => ⟨brE E E n2 n3 l2 l3, brR n2 n3 l2 l3, brE_upto _ _ _ _ hk.2.2.1 hk.2.2.2.1, ?_, ?_, ?_⟩⟩
   · rw [hS]; exact re_slots_upto (brE_upto E E l2 l3 hk.2.2.1 hk.2.2.2.1) (hsl p x 0) (hs E)
   all_goals
     have := re_brG (S := Sc) (S' := (mk Sc).S) (E0 := E) (E := E) (n2 := n2) (n3 := n3) hat (hF p) (by rw [hS]) hlo hro hk (Env.upto.refl _ _)
   · exact this.1
   · exact this.2
 · rintro ⟨p, s, x, i⟩ hI
   obtain ⟨ts, ks, ex1, sl1, H1, hsel, hor⟩ := hstep p s x i hI
   refine ⟨ts, ks, ex1, _, hsel, ?_⟩
   rcases hor with ⟨rfl, s', x', l2, l3, hI', hmu, hres, hs, hat⟩ | ⟨rfl, hne, hres, hs, hat⟩
   · refine .inl ⟨rfl, (p, s', x', i + 1), hI', hmu, by dsimp only; rw [hres], fun E1 => ⟨brE E1 E1 n2 n3 l2 l3, brR n2 n3 l2 l3, brE_upto _ _ _ _ hk.2.2.1 hk.2.2.2.1, ?_, ?_, ?_⟩⟩
     · rw [hS]; exact re_slots_upto (brE_upto E1 E1 l2 l3 hk.2.2.1 hk.2.2.2.1) (hsl p x' (i + 1)) (hs E1)
     all_goals
       have := re_br (S := (mk Sc).S) (S' := (mk Sc).S) (E0 := E1) (E := E1) (n2 := n2) (n3 := n3) hat (hF p) rfl (by rw [hS]; exact fun k h => hro k (Nat.le_trans hlo h)) hk (Env.upto.refl _ _)
     · exact this.1
     · exact this.2
   · refine .inr ⟨hne, rfl, fun E0 E1 hu => ⟨brE E0 E1 m2 m3 (.at_ n2) (.at_ n3), brR m2 m3 (.at_ n2) (.at_ n3), brE_upto _ _ _ _ hm2.1 hm2.2.1, ?_, ?_, ?_⟩⟩
     · dsimp only
       rw [hres, hS]
       have h2 : Env.upto fx E1 (brE E0 E1 m2 m3 (.at_ n2) (.at_ n3)) := by
         intro k hkx
         have a : k ≠ m2 := by omega
         have b : k ≠ m3 := by omega
         simp only [brE, a, b, if_false]
         exact ⟨((hu k hkx).1).symm, ((hu k hkx).2).symm⟩
       exact re_slots_upto h2 (hslE p x) (hs E1)
     all_goals
       have := re_br (S := (mk Sc).S) (S' := Sc) (E0 := E0) (E := E1) (n2 := m2) (n3 := m3) hat (hF p) (by rw [hS]) (by rw [hS]; exact fun k h => hro k (Nat.le_trans hlo h)) ⟨hk.1, hk.2.1, by omega, by omega, hm2.2.2.1, hk.2.2.2.2.2⟩ hu
       dsimp only
       rw [hres]
     · exact this.1
     · exact this.2
end
end Go.Proofs.YtjemfkoamfnofaaGreat
