/- BridgeNew: the law. -/
import Derived.Test.YtjemfkoamfnofaaGreatCd
set_option linter.unusedVariables false
set_option maxRecDepth 100000
namespace Go.Proofs.YtjemfkoamfnofaaGreat
open Go Go.RowKit

noncomputable def psLn (S : Stat) : List (Nat × ReadFn) := (10, specRead (spc gAw) S 3) :: (14, specRead (spc gSameB) S 3) :: []
theorem psLn_ok (S : Stat) : ReadsOk S [] (psLn S) := .cons (specRead_ok (fun S' => spc_ok aw_ok S') 3) <| .cons (specRead_ok (fun S' => spc_ok sameB_ok S') 3) <| .nil S []
noncomputable def ssLn (S : Stat) : List (Nat × SpecFn) := (11, spc (gNew cRightF) S) :: (13, spc (gNew rightF) S) :: (12, spc gSetups S) :: []
theorem ssLn_ok (S : Stat) : ∀ f g, (f, g) ∈ ssLn S → SpecOk S [] f g := specs_cons (spc_ok bnew_ok S) <| specs_cons (spc_ok rnew_ok S) <| specs_cons (spc_ok setups_ok S) specs_nil
noncomputable def mkLn : List (Nat × (Stat → SpecFn)) := (11, fun S => spc (gNew cRightF) S) :: (12, fun S => spc gSetups S) :: []
theorem mkLn_ok : ∀ f g, (f, g) ∈ mkLn → ∀ S, SpecOk S [] f (g S) := makes_cons (fun S => spc_ok bnew_ok S) <| makes_cons (fun S => spc_ok setups_ok S) makes_nil
noncomputable def cLn0 (S : Stat) : Ctx := mkCtx S [] (psLn S) (ssLn S) 60 5
theorem cLn0_fam : Fam cLn0 := mk_fam psLn ssLn 60 5 psLn_ok ssLn_ok
noncomputable def cLn (S : Stat) : Ctx := withMake (cLn0 S) mkLn
theorem cLn_fam : Fam cLn := make_fam cLn0_fam mkLn_ok
noncomputable def lnT (S : Stat) (id : Int) (rst : Bool) (t : Times) (hold : Int) (L : List Conf) : Out SV := valF 1 (inline (withLoops (cLn (S.rd 0 1)) []) 60 (fnOf 3) [.v (.int .u64 id), .v (.bool rst), .rcd (.times t), .v (.int .i64 hold), .slr 0 L.length 0 false] [(0, .rows (.conf L))] 1)
def nB (x : Bri × List Port × Bool) (y : Bri × List Port × Bool) : Bool := (x.2.2 == y.2.2) && sameF ⟨x.1, y.1, x.2.1, y.2.1, [], [], [], [], false, false, false, false, false, false⟩
def okL (L : List Conf) : Bool := decide (L.length = L.length ∧ L.length ≤ 1000)
def smOk (a b : List Port) : Bool := decide (a.length = a.length ∧ 0 = ([] : List Sent).length ∧ 0 = ([] : List Int).length ∧ b.length = b.length ∧ 0 = ([] : List Sent).length ∧ 0 = ([] : List Int).length ∧ a.length < 9223372036854775808 ∧ ([] : List Sent).length < 9223372036854775808 ∧ ([] : List Int).length < 9223372036854775808)
theorem ln_run (S : Stat) (id : Int) (rst : Bool) (t : Times) (hold : Int) (L : List Conf) : lnT S id rst t hold L = .ite (decide ((L.length : Int) > 40)) (.ret (.kb true)) (.ite (okL L && okL L) (.ite (okL L)
    (.ite (smOk (newOf cRightF id rst t hold L).2.1 (newOf rightF id rst t hold L).2.1) (.ret (.v (.bool (nB (newOf cRightF id rst t hold L) (newOf rightF id rst t hold L))))) .bad) .bad) .bad) := by kernel_rfl
/-! ### the two ways to tell whether a bridge may be are one -/
theorem farI_few (t : Times) : farT t = !(fewT t) := by
  unfold farT fewT farI
  rw [Bool.eq_iff_iff]
  simp only [Bool.or_eq_true, Bool.not_eq_true', decide_eq_true_eq, Bool.and_eq_false_iff, decide_eq_false_iff_not]
  omega
theorem wrongP_bad (p : Port) : wrongP p = portBad p := by
  unfold wrongP portBad wrongL portBads
  simp only [List.any_cons, List.any_nil, id_eq, Bool.or_false, farI_few, thouI, clkBad, Bool.or_assoc]
theorem findI_tells (f : Port → Bool) : ∀ (l : List Port) (i : Nat), decide (findI f l i ≥ 0) = l.any f
  | [], i => by simp [findI]
  | p :: r, i => by
    unfold findI
    cases h : f p with
    | true => simp [h]
    | false => simp [h, findI_tells f r (i + 1)]
theorem tRight_eq (t : Times) : tRight t = rightT t := by
  unfold tRight rightT clampT clI
  rw [Bool.eq_iff_iff]
  simp only [Bool.and_eq_true, decide_eq_true_eq, Bool.or_eq_true]
  constructor
  · rintro ⟨⟨h, h1⟩, h2⟩
    have ha := congrArg Times.age h
    have hm := congrArg Times.max h
    have hh := congrArg Times.hello h
    have hd := congrArg Times.delay h
    dsimp only at ha hm hh hd
    rw [if_neg]
    · exact (by simp only [Bool.and_eq_true, decide_eq_true_eq]; exact ⟨h1, h2⟩)
    · repeat' split at ha
      all_goals repeat' split at hm
      all_goals repeat' split at hh
      all_goals repeat' split at hd
      all_goals omega
  · intro h
    split at h
    · cases h
    · rename_i hb
      simp only [Bool.and_eq_true, decide_eq_true_eq] at h
      refine ⟨⟨?_, h.1⟩, h.2⟩
      have e1 : ¬ (0 > t.age) ∧ ¬ (255 < t.age) ∧ ¬ (6 > t.max) ∧ ¬ (40 < t.max) ∧ ¬ (1 > t.hello) ∧ ¬ (10 < t.hello) ∧ ¬ (4 > t.delay) ∧ ¬ (30 < t.delay) := by omega
      obtain ⟨a1, a2, a3, a4, a5, a6, a7, a8⟩ := e1
      simp only [a1, a2, a3, a4, a5, a6, a7, a8, if_false]
theorem cRight_eq (b : Bri) (ps : List Port) : cRightF b ps = rightF b ps := by
  unfold cRightF rightF crBad crOk headBad
  rw [findI_tells, tRight_eq, farI_few, show wrongP = portBad from funext wrongP_bad, show (b.times.age != 0) = !(b.times.age == 0) from rfl]
  cases rightT b.times <;> cases fewT b.rootT <;> cases (b.times.age == 0) <;> cases ps.any portBad <;> cases decide ((ps.length : Int) > 32) <;> cases decide (b.rootPort < -1) <;> cases decide (b.rootPort ≥ (ps.length : Int)) <;> cases decide (b.hold < 1) <;> cases decide (b.hold > 10) <;> rfl
theorem any_zip_self {α : Type} {f : α × α → Bool} (h : ∀ x, f (x, x) = false) : ∀ l : List α, (l.zip l).any f = false
  | [] => rfl
  | x :: r => by simp [h, any_zip_self h r]
theorem sameF_self (b : Bri) (ps : List Port) : sameF ⟨b, b, ps, ps, [], [], [], [], false, false, false, false, false, false⟩ = true := by
  unfold sameF
  have h1 : headNe b b = false := by simp [headNe]
  have h2 : lenNe ⟨b, b, ps, ps, [], [], [], [], false, false, false, false, false, false⟩ = false := by simp [lenNe]
  have h3 : (ps.zip ps).any neqP = false := any_zip_self (by simp [neqP]) ps
  rw [h1, h2]
  simp [h3]
theorem newOf_len (R : Bri → List Port → Bool) (id : Int) (rst : Bool) (t : Times) (hold : Int) (L : List Conf) : (newOf R id rst t hold L).2.1.length ≤ L.length := by
  unfold newOf
  split
  · show (newPs L rst t).length ≤ _; rw [newPs_length]; exact Nat.le_refl _
  · exact Nat.zero_le _
theorem ln_true (S : Stat) (id : Int) (rst : Bool) (t : Times) (hold : Int) (L : List Conf) : ∃ v, (lnT S id rst t hold L).sel = some v ∧ ∀ S' E, v.den S' E = .bool true := by
  rw [ln_run]
  simp only [Out.sel]
  split
  · exact ⟨_, rfl, fun _ _ => rfl⟩
  · rename_i h
    have hl : L.length ≤ 40 := by
      have : ¬ ((L.length : Int) > 40) := by simpa using h
      omega
    have h1 : okL L = true := decide_eq_true ⟨rfl, by omega⟩
    have e : newOf cRightF id rst t hold L = newOf rightF id rst t hold L := by rw [show cRightF = rightF from funext fun b => funext fun ps => cRight_eq b ps]
    have hn := newOf_len rightF id rst t hold L
    have h2 : smOk (newOf cRightF id rst t hold L).2.1 (newOf rightF id rst t hold L).2.1 = true := by
      rw [e]
      exact decide_eq_true ⟨rfl, rfl, rfl, rfl, rfl, rfl, by omega, by decide, by decide⟩
    simp only [h1, h2, Bool.and_self, if_true]
    refine ⟨_, rfl, fun S' E => ?_⟩
    rw [e]
    have : nB (newOf rightF id rst t hold L) (newOf rightF id rst t hold L) = true := by
      unfold nB
      rw [sameF_self]
      simp
    rw [this]
    rfl
end Go.Proofs.YtjemfkoamfnofaaGreat
