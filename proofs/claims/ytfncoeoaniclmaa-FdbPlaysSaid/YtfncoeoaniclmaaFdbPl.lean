/- fordlaw07.FdbPlays: its walk, and why it holds. -/
import Derived.Test.YtfncoeoaniclmaaFdbRk
import Derived.Test.YtfncoeoaniclmaaFdbW
import Derived.Test.YtfncoeoaniclmaaBldL
import Derived.Test.YtfncoeoaniclmaaFdbBd
set_option linter.unusedVariables false
set_option maxRecDepth 100000
namespace Go.Proofs.Ytfncoeoaniclmaa
open Go Go.RowKit

noncomputable def psY (S : Stat) : List (Nat × ReadFn) := (23, specRead (spc gRFind) S 3) :: (27, specRead (spc gSame) S 3) :: psV S
theorem psY_ok (S : Stat) : ReadsOk S [] (psY S) := .cons (specRead_ok (fun S' => spc_ok rfind_ok S') 3) <| .cons (specRead_ok (fun S' => spc_ok same_ok S') 3) <| psV_ok S
noncomputable def ssY (g : CanonFn) (S : Stat) : List (Nat × SpecFn) := (22, spc g S) :: (24, spc gRTick S) :: (26, spc gRShort S) :: ssW S
theorem ssY_ok {g : CanonFn} (hg : CanonOk 22 g) (S : Stat) : ∀ f h, (f, h) ∈ ssY g S → SpecOk S [] f h := specs_cons (spc_ok hg S) <| specs_cons (spc_ok rtick_ok S) <| specs_cons (spc_ok rshort_ok S) <| ssW_ok S
noncomputable def cYg (S : Stat) : Ctx := mkCtx S [] (psY S) (ssY gRLearnG S) 20 4
noncomputable def cYb (S : Stat) : Ctx := mkCtx S [] (psY S) (ssY gRLearnB S) 20 4
noncomputable def cY (S : Stat) : Ctx := mkCtx S [] (psY S) (ssW S) 20 4
theorem cYg_fam : Fam cYg := fam_of psY_ok (ssY_ok rlearnG_ok)
theorem cYb_fam : Fam cYb := fam_of psY_ok (ssY_ok rlearnB_ok)
theorem cY_fam : Fam cY := fam_of psY_ok ssW_ok
structure PyP where
  x : Int
  y : Int
  n : Nat
  c : Nat
  l : PL
  L : List FAct
  X : Int
  Y : Int
  m : Nat
  A : List Entry
def pySl (p : PyP) (i : SV) : Slots := [(0, [], .v (.int .u8 p.x)), (1, [], .v (.int .u8 p.y)), (2, [], .slr 0 p.n 0 false), (7, [], .kb true), (8, [], .ptr 2 0), (9, [], .ptr 3 0), (10, [], i)]
def pyHp (p : PyP) (b : Nat) : Heap := [(2, .agg [.v (.int .i64 p.X), .v (.int .i64 p.Y), .mp 1]), (1, .tab (.place .u64 p.c p.l)), (3, .agg [.v (.int .i64 p.X), .v (.int .i64 p.Y), .slr b p.m b false]), (b, .rows (.entry p.A)), (0, .rows (.fact p.L))]
def pySt (p : PyP) (i : SV) : St := ⟨pySl p i, pyHp p 4, 5⟩
def pyTs : List Nat := [0, 1, 2, 7, 8, 9, 10]
noncomputable def pyR (c : Ctx) (p : PyP) (i : Nat) (b : Nat) : Out (Ex × St) := trimC pyTs [2, 1, 3, b, 0] (exec c (fnOf 7).ntmps 20 (lpOf 7 0) (pySt p (.v (.int .i64 i))))
def pySz (A : List Entry) : Bool := Nat.beq (Nat.mul A.length 3) (Nat.mul A.length 3)
def pyHd (p : PyP) (i : Nat) : List Bool := [decide ((i : Int) < p.n), decide (0 ≤ (i : Int)) && decide ((i : Int) < p.n), decide (i < p.L.length)]
def pyAct (p : PyP) (i : Nat) : FAct := p.L.getD i FAct.dflt
def lnT (p : PyP) (a : FAct) : Bool := decide (1 ≤ p.l.length ∧ p.l.length ≤ 67108864) || (badF a.mac a.port || !(fullF p.X p.l a.mac))
def rfT (p : PyP) : Bool := decide (p.A.length = p.m ∧ p.m ≤ 67108864)
def lnT2 (p : PyP) (a : FAct) : Bool := !(badR a.mac a.port) && (rfT p && (!(fullR p.X p.A.length p.A a.mac) || decide (1 ≤ p.A.length)))
def pyL (p : PyP) (a : FAct) : PL := learnL p.X p.Y p.c p.l a.mac a.port
def pyA (p : PyP) (a : FAct) : List Entry := learnR p.X p.Y p.A a.mac a.port
/-- all are told, and held against the document's -/
def pyT (l : PL) (A : List Entry) (m : Nat) : List Bool := [(decide (l.length ≤ 67108864) && true) && decide ((allE l).length = l.length ∧ A.length = m ∧ l.length ≤ 67108864), !(decide (allE l = A))]
def pyS1 (p : PyP) (c : Nat) (l : PL) (m : Nat) (A : List Entry) (b : Nat) (i : Nat) : St := ⟨pySl p (.v (.int .i64 (IntKind.i64.wrap (i + 1)))), pyHp ⟨p.x, p.y, p.n, c, l, p.L, p.X, p.Y, m, A⟩ b, 0⟩
theorem py_learn (S : Stat) (p : PyP) (i : Nat) : Out.way [true, true, true, true, true, false, true, false] (pyR (cYg (S.rd i 1)) p i 6) = some (pyHd p i ++ (((pyAct p i).kind == 0) :: ((lnT p (pyAct p i) && true) && (lnT2 p (pyAct p i) && (pySz p.A && true))) :: (!((!(badF (pyAct p i).mac (pyAct p i).port)) == true)) :: pyT (pyL p (pyAct p i)) (pyA p (pyAct p i)) (pyA p (pyAct p i)).length),
  (.nrm, pyS1 p (learnC p.X p.Y p.c p.l (pyAct p i).mac (pyAct p i).port) (pyL p (pyAct p i)) (pyA p (pyAct p i)).length (pyA p (pyAct p i)) 6 i)) := by kernel_rfl
theorem py_bad (S : Stat) (p : PyP) (i : Nat) : Out.way [true, true, true, true, true, false, true, false] (pyR (cYb (S.rd i 1)) p i 4) = some (pyHd p i ++ (((pyAct p i).kind == 0) :: ((lnT p (pyAct p i) && true) && (badR (pyAct p i).mac (pyAct p i).port && (pySz p.A && true))) :: (!((!(badF (pyAct p i).mac (pyAct p i).port)) == false)) :: pyT (pyL p (pyAct p i)) p.A p.m),
  (.nrm, pyS1 p (learnC p.X p.Y p.c p.l (pyAct p i).mac (pyAct p i).port) (pyL p (pyAct p i)) p.m p.A 4 i)) := by kernel_rfl
def pyK (p : PyP) (a : FAct) : Int := atI (adrR a.mac) p.A 0
theorem py_find (S : Stat) (p : PyP) (i : Nat) : Out.way [true, true, true, false, true, true, false, true, false] (pyR (cYb (S.rd i 1)) p i 4) = some (pyHd p i ++ (((pyAct p i).kind == 0) :: ((pyAct p i).kind == 1) :: rfT p :: ((portF p.l (pyAct p i).mac != rPort p.A (pyK p (pyAct p i))) || !(hasK p.l (addrF (pyAct p i).mac) == !(decide (pyK p (pyAct p i) < 0)))) :: pyT p.l p.A p.m),
  (.nrm, pyS1 p p.c p.l p.m p.A 4 i)) := by kernel_rfl
theorem py_tick (S : Stat) (p : PyP) (i : Nat) : Out.way [true, true, true, false, false, true, true, true, false] (pyR (cYb (S.rd i 1)) p i 6) = some (pyHd p i ++ (((pyAct p i).kind == 0) :: ((pyAct p i).kind == 1) :: ((pyAct p i).kind == 2) :: rfT p :: pyT (tickL p.l) (tickR p.A) (tickR p.A).length),
  (.nrm, pyS1 p p.c (tickL p.l) (tickR p.A).length (tickR p.A) 6 i)) := by kernel_rfl
def shT (p : PyP) : Bool := (decide (p.l.length ≤ 67108864) && true) && (rfT p && (pySz p.A && true))
theorem py_flush (S : Stat) (p : PyP) (i : Nat) : Out.way [true, true, true, false, false, false, true, true, false, true, false] (pyR (cYb (S.rd i 1)) p i 6) = some (pyHd p i ++ (((pyAct p i).kind == 0) :: ((pyAct p i).kind == 1) :: ((pyAct p i).kind == 2) :: ((pyAct p i).kind == 3) :: shT p :: (((cntP (pyAct p i).port p.l : Nat) : Int) != ((shCnt (pyAct p i).port p.A : Nat) : Int)) :: pyT (shortL (pyAct p i).port 0 p.l) (shortR (pyAct p i).port 0 p.A) (shortR (pyAct p i).port 0 p.A).length),
  (.nrm, pyS1 p p.c (shortL (pyAct p i).port 0 p.l) (shortR (pyAct p i).port 0 p.A).length (shortR (pyAct p i).port 0 p.A) 6 i)) := by kernel_rfl
def mx0 (s : Int) : Int := if 0 < s then s else 0
theorem py_short (S : Stat) (p : PyP) (i : Nat) : Out.way [true, true, true, false, false, false, false, true, false, true, false] (pyR (cYb (S.rd i 1)) p i 6) = some (pyHd p i ++ (((pyAct p i).kind == 0) :: ((pyAct p i).kind == 1) :: ((pyAct p i).kind == 2) :: ((pyAct p i).kind == 3) :: shT p :: (((cntP (pyAct p i).port p.l : Nat) : Int) != ((shCnt (pyAct p i).port p.A : Nat) : Int)) :: pyT (shortL (pyAct p i).port (pyAct p i).sec p.l) (shortR (pyAct p i).port (mx0 (pyAct p i).sec) p.A) (shortR (pyAct p i).port (mx0 (pyAct p i).sec) p.A).length),
  (.nrm, pyS1 p p.c (shortL (pyAct p i).port (pyAct p i).sec p.l) (shortR (pyAct p i).port (mx0 (pyAct p i).sec) p.A).length (shortR (pyAct p i).port (mx0 (pyAct p i).sec) p.A) 6 i)) := by kernel_rfl
theorem py_over (S : Stat) (p : PyP) (i : Nat) : Out.way [false] (pyR (cYb (S.rd i 1)) p i 4) = some ([decide ((i : Int) < p.n)], (.exit 0, ⟨pySl p (.v (.int .i64 i)), pyHp p 4, 0⟩)) := by kernel_rfl

open Go Go.RowKit

def pyStep (X Y : Int) (s : Nat × PL) (a : FAct) : Nat × PL := if a.kind = 0 then (learnC X Y s.1 s.2 a.mac a.port, learnL X Y s.1 s.2 a.mac a.port) else if a.kind = 1 then s else if a.kind = 2 then (s.1, tickL s.2) else
  if a.kind = 3 then (s.1, shortL a.port 0 s.2) else (s.1, shortL a.port a.sec s.2)
def pyGood (a : FAct) : Bool := a.kind == 0 && !(badF a.mac a.port)
noncomputable def pyCx (S : Stat) (p : PyP) (i : Nat) : Ctx := bif pyGood (p.L.getD i FAct.dflt) then cYg (S.rd i 1) else cYb (S.rd i 1)
theorem pyCx_S (S : Stat) (p : PyP) (i : Nat) : (pyCx S p i).S = S.rd i 1 := by
  unfold pyCx
  cases pyGood (p.L.getD i FAct.dflt) with
  | true => exact cYg_fam.S _
  | false => exact cYb_fam.S _
theorem pyCx_ok (S : Stat) (p : PyP) (i : Nat) : CtxFull Try.prog (pyCx S p i) ∧ (pyCx S p i).win = [] ∧ LoopsOk Try.prog (pyCx S p i) (fnOf 7).ntmps (lpOf 7 0) := by
  unfold pyCx
  cases pyGood (p.L.getD i FAct.dflt) with
  | true => exact ⟨cYg_fam.full _, cYg_fam.win _, LoopsOk.none (cYg_fam.loop _) _⟩
  | false => exact ⟨cYb_fam.full _, cYb_fam.win _, LoopsOk.none (cYb_fam.loop _) _⟩
/-- what is seen when so much is known -/
def pyV (p : PyP) (s : Nat × PL) : PyP := ⟨p.x, p.y, p.n, s.1, s.2, p.L, p.X, p.Y, (allE s.2).length, allE s.2⟩
def pyW (p : PyP) (i : Nat) (s : Nat × PL) : St := pySt (pyV p s) (.v (.int .i64 i))
structure PyI (p : PyP) (s : Nat × PL) : Prop where
  len : p.L.length = p.n
  few : p.n ≤ 60
  mac : ∀ a ∈ p.L, 0 ≤ a.mac ∧ a.mac < 18446744073709551616
  x : 1 ≤ p.X ∧ p.X ≤ 4096
  y : 1 ≤ p.Y ∧ p.Y ≤ 1000000
  tab : TabOk p.X p.Y s.2
theorem py_step {X Y : Int} {s : Nat × PL} {a : FAct} (h : TabOk X Y s.2) (hX : 1 ≤ X) (hY : 1 ≤ Y ∧ Y ≤ 1000000) : TabOk X Y (pyStep X Y s a).2 := by
  unfold pyStep
  split
  · exact h.learn hX hY.1 _ _ _
  · split
    · exact h
    · split
      · exact h.tick (by omega)
      · split
        · exact h.short _ _
        · exact h.short _ _
theorem pyHd_ok {p : PyP} {i : Nat} (h : i < p.L.length) (hn : p.L.length = p.n) : pyHd p i = [true, true, true] := by
  have h1 : (i : Int) < p.n := by omega
  unfold pyHd
  simp [h1, h]
theorem pyT_ok {X Y : Int} {l : PL} (h : TabOk X Y l) (hX : X ≤ 4096) : pyT l (allE l) (allE l).length = [true, false] := by
  have := h.len
  have h1 : l.length ≤ 67108864 := by omega
  unfold pyT
  simp [h1, allE_len]
theorem rfT_ok {p : PyP} {s : Nat × PL} (h : PyI p s) : rfT (pyV p s) = true := by
  have := h.tab.len
  have := h.x
  have h1 : (allE s.2).length ≤ 67108864 := by rw [allE_len]; omega
  unfold rfT pyV
  simp [h1]
theorem pySz_ok (A : List Entry) : pySz A = true := Nat.beq_refl _
theorem shT_ok {p : PyP} {s : Nat × PL} (h : PyI p s) : shT (pyV p s) = true := by
  have h0 := h.tab.len
  have := h.x
  have h1 : s.2.length ≤ 67108864 := by omega
  have h2 : (pyV p s).l = s.2 := rfl
  unfold shT
  rw [rfT_ok h, pySz_ok, h2]
  simp [h1]
theorem py_re (S : Stat) (p : PyP) (i : Nat) (c : Nat) (l : PL) (m : Nat) (A : List Entry) (b : Nat) (hb : b = 4 ∨ b = 6) (hi : i < 61) (E1 E2 : Env) (hu : Env.upto 4 E1 E2) (ha : E2.ad 4 = E1.ad b) (hc : E2.cp 4 = E1.cp b) :
    ReN (S.rd i 1) E1 (pyS1 p c l m A b i) (S.rd (i + 1 : Nat) 1) E2 (swp 4 b) (pySt ⟨p.x, p.y, p.n, c, l, p.L, p.X, p.Y, m, A⟩ (.v (.int .i64 ((i + 1 : Nat) : Int)))) := by
  have u0 := hu 0 (by omega)
  have u1 := hu 1 (by omega)
  have u2 := hu 2 (by omega)
  have u3 := hu 3 (by omega)
  unfold pyS1
  rw [wrap_succ (n := 61) (by omega) (by omega)]
  rcases hb with rfl | rfl
  · refine ⟨⟨⟨_, rfl, rfl⟩, ⟨_, rfl, rfl⟩, ⟨_, rfl, ?_⟩, ⟨_, rfl, rfl⟩, ⟨_, rfl, ?_⟩, ⟨_, rfl, ?_⟩, ⟨_, rfl, rfl⟩, trivial⟩, ⟨⟨trivial, .inr ⟨_, rfl, ?_, ?_, rfl⟩⟩, ⟨trivial, .inr ⟨_, rfl, ?_, ?_, rfl⟩⟩, ⟨trivial, .inr ⟨_, rfl, ?_, ?_, rfl⟩⟩, ⟨trivial, .inr ⟨_, rfl, ?_, ?_, rfl⟩⟩, ⟨trivial, .inr ⟨_, rfl, ?_, ?_, rfl⟩⟩, trivial⟩, rfl⟩
    all_goals first | exact ha | exact u0.1 | exact u1.1 | exact u2.1 | exact u3.1 | (simp [SV.den, SV.cells, SV.cellss, u0, u1, u2, u3, ha, hc, Env.place])
  · refine ⟨⟨⟨_, rfl, rfl⟩, ⟨_, rfl, rfl⟩, ⟨_, rfl, ?_⟩, ⟨_, rfl, rfl⟩, ⟨_, rfl, ?_⟩, ⟨_, rfl, ?_⟩, ⟨_, rfl, rfl⟩, trivial⟩, ⟨⟨trivial, .inr ⟨_, rfl, ?_, ?_, rfl⟩⟩, ⟨trivial, .inr ⟨_, rfl, ?_, ?_, rfl⟩⟩, ⟨trivial, .inr ⟨_, rfl, ?_, ?_, rfl⟩⟩, ⟨trivial, .inr ⟨_, rfl, ?_, ?_, rfl⟩⟩, ⟨trivial, .inr ⟨_, rfl, ?_, ?_, rfl⟩⟩, trivial⟩, rfl⟩
    all_goals first | exact ha | exact u0.1 | exact u1.1 | exact u2.1 | exact u3.1 | (simp [SV.den, SV.cells, SV.cellss, u0, u1, u2, u3, ha, hc, Env.place])
theorem py_sel (S : Stat) (p : PyP) (s : Nat × PL) (i : Nat) (h : PyI p s) (hi : i < p.L.length) : ∃ b, (b = 4 ∨ b = 6) ∧ (trimC pyTs [2, 1, 3, b, 0] (exec (pyCx S p i) (fnOf 7).ntmps 20 (lpOf 7 0) (pyW p i s))).sel =
    some (.nrm, pyS1 p (pyStep p.X p.Y s (pyAct p i)).1 (pyStep p.X p.Y s (pyAct p i)).2 (allE (pyStep p.X p.Y s (pyAct p i)).2).length (allE (pyStep p.X p.Y s (pyAct p i)).2) b i) := by
  have hin : pyAct p i ∈ p.L := by
    unfold pyAct
    rw [List.getD, List.getElem?_eq_getElem hi]
    exact List.getElem_mem _
  have hm := h.mac _ hin
  have hhd : pyHd (pyV p s) i = [true, true, true] := pyHd_ok hi h.len
  have hact : pyAct (pyV p s) i = pyAct p i := rfl
  have hgd : p.L.getD i FAct.dflt = pyAct p i := rfl
  have hrf := rfT_ok h
  have hsh := shT_ok h
  have hnext := py_step (a := pyAct p i) h.tab h.x.1 h.y
  have hT := pyT_ok hnext h.x.2
  generalize ha : pyAct p i = a at *
  unfold pyCx
  rw [hgd]
  by_cases k0 : a.kind = 0
  · have hst : pyStep p.X p.Y s a = (learnC p.X p.Y s.1 s.2 a.mac a.port, learnL p.X p.Y s.1 s.2 a.mac a.port) := by unfold pyStep; rw [if_pos k0]
    rw [hst] at hT hnext ⊢
    have hgo : lnT (pyV p s) a = true := learn_go h.tab ⟨h.x.1, by have := h.x.2; omega⟩ a.mac a.port
    cases hb : badF a.mac a.port with
    | true =>
      have hg : pyGood a = false := by unfold pyGood; rw [hb]; simp
      have hl : learnL p.X p.Y s.1 s.2 a.mac a.port = s.2 := by unfold learnL; rw [hb]; rfl
      have hpl : pyL (pyV p s) a = s.2 := hl
      rw [hg]
      refine ⟨4, .inl rfl, ?_⟩
      have h0 := py_bad S (pyV p s) i
      rw [hact, hhd, hgo, badR_eq hm, hb, pySz_ok, hpl] at h0
      rw [hl] at hT ⊢
      refine Out.way_sel h0 ?_
      have hT' : pyT s.2 (pyV p s).A (pyV p s).m = [true, false] := hT
      rw [hT']
      simp [k0]
    | false =>
      have hg : pyGood a = true := by unfold pyGood; rw [hb, k0]; rfl
      obtain ⟨hs1, hs2⟩ := learn_same (c := s.1) h.tab h.x.1 hm hb
      have hpa : pyA (pyV p s) a = allE (learnL p.X p.Y s.1 s.2 a.mac a.port) := hs1
      have hpl : pyL (pyV p s) a = learnL p.X p.Y s.1 s.2 a.mac a.port := rfl
      have h2 : lnT2 (pyV p s) a = true := by
        unfold lnT2
        rw [hrf, badR_eq hm, hb]
        have : (!(fullR (pyV p s).X (pyV p s).A.length (pyV p s).A a.mac) || decide (1 ≤ (pyV p s).A.length)) = true := by
          rcases hs2 with hs2 | hs2
          · have : fullR (pyV p s).X (pyV p s).A.length (pyV p s).A a.mac = false := hs2
            rw [this]; rfl
          · have : decide (1 ≤ (pyV p s).A.length) = true := decide_eq_true hs2
            rw [this]; simp
        rw [this]; rfl
      rw [hg]
      refine ⟨6, .inr rfl, ?_⟩
      have h0 := py_learn S (pyV p s) i
      rw [hact, hhd, hgo, h2, hb, pySz_ok, hpl, hpa, hT] at h0
      refine Out.way_sel h0 ?_
      simp [k0]
  · have hg : pyGood a = false := by unfold pyGood; simp [k0]
    have e0 : (a.kind == 0) = false := by simp [k0]
    rw [hg]
    by_cases k1 : a.kind = 1
    · have hst : pyStep p.X p.Y s a = s := by unfold pyStep; rw [if_neg k0, if_pos k1]
      rw [hst] at hT hnext ⊢
      refine ⟨4, .inl rfl, ?_⟩
      have h0 := py_find S (pyV p s) i
      obtain ⟨f1, f2⟩ := find_same h.tab hm
      have hT' : pyT (pyV p s).l (pyV p s).A (pyV p s).m = [true, false] := hT
      have f1' : rPort (pyV p s).A (pyK (pyV p s) a) = portF (pyV p s).l a.mac := f1
      have f2' : (!(decide (pyK (pyV p s) a < 0))) = hasK (pyV p s).l (addrF a.mac) := f2
      rw [hact, hhd, hrf, hT', f1', f2', e0] at h0
      refine Out.way_sel h0 ?_
      simp [k1]
    · have e1 : (a.kind == 1) = false := by simp [k1]
      refine ⟨6, .inr rfl, ?_⟩
      by_cases k2 : a.kind = 2
      · have hst : pyStep p.X p.Y s a = (s.1, tickL s.2) := by unfold pyStep; rw [if_neg k0, if_neg k1, if_pos k2]
        rw [hst] at hT hnext ⊢
        have h0 := py_tick S (pyV p s) i
        have ht : tickR (pyV p s).A = allE (tickL s.2) := tick_same h.tab
        have hl : (pyV p s).l = s.2 := rfl
        rw [hact, hhd, hrf, ht, hl, hT, e0, e1] at h0
        refine Out.way_sel h0 ?_
        simp [k2]
      · have e2 : (a.kind == 2) = false := by simp [k2]
        have hcn : (((cntP a.port (pyV p s).l : Nat) : Int) != ((shCnt a.port (pyV p s).A : Nat) : Int)) = false := by
          have : shCnt a.port (pyV p s).A = cntP a.port (pyV p s).l := cnt_same s.2 a.port
          rw [this]; simp
        by_cases k3 : a.kind = 3
        · have hst : pyStep p.X p.Y s a = (s.1, shortL a.port 0 s.2) := by unfold pyStep; rw [if_neg k0, if_neg k1, if_neg k2, if_pos k3]
          rw [hst] at hT hnext ⊢
          have h0 := py_flush S (pyV p s) i
          have ht : shortR a.port 0 (pyV p s).A = allE (shortL a.port 0 s.2) := short_same h.tab a.port 0
          rw [hact, hhd, hsh, hcn, ht, e0, e1, e2] at h0
          have hl : (pyV p s).l = s.2 := rfl
          rw [hl, hT] at h0
          refine Out.way_sel h0 ?_
          simp [k3]
        · have e3 : (a.kind == 3) = false := by simp [k3]
          have hst : pyStep p.X p.Y s a = (s.1, shortL a.port a.sec s.2) := by unfold pyStep; rw [if_neg k0, if_neg k1, if_neg k2, if_neg k3]
          rw [hst] at hT hnext ⊢
          have h0 := py_short S (pyV p s) i
          have ht : shortR a.port (mx0 a.sec) (pyV p s).A = allE (shortL a.port a.sec s.2) := by
            have h1 : shortR a.port (mx0 a.sec) (allE s.2) = allE (shortL a.port (mx0 a.sec) s.2) := short_same h.tab a.port _
            have h2 : shortL a.port (mx0 a.sec) s.2 = shortL a.port a.sec s.2 := by
              unfold mx0
              split
              · rfl
              · rename_i hn
                by_cases hz : a.sec = 0
                · rw [hz]
                · exact (short_neg h.tab a.port a.sec (by omega)).symm
            rw [← h2]; exact h1
          rw [hact, hhd, hsh, hcn, ht, e0, e1, e2, e3] at h0
          have hl : (pyV p s).l = s.2 := rfl
          rw [hl, hT] at h0
          refine Out.way_sel h0 ?_
          simp
def pyFin (s : Nat × PL) (X Y : Int) : St := ⟨[(7, [], .kb true), (8, [], .ptr 2 0), (9, [], .ptr 3 0)], [(2, .agg [.v (.int .i64 X), .v (.int .i64 Y), .mp 1]), (1, .tab (.place .u64 s.1 s.2)), (3, .agg [.v (.int .i64 X), .v (.int .i64 Y), .slr 4 (allE s.2).length 4 false]), (4, .rows (.entry (allE s.2)))], 5⟩
def pyMac (L : List FAct) : Bool := L.all fun a => decide (0 ≤ a.mac ∧ a.mac < 18446744073709551616)
def pyEnd (X Y : Int) (L : List FAct) (s : Nat × PL) : Nat × PL := goL (fun _ a s => pyStep X Y s a) L 0 s
def pyIn (n : Nat) (X Y : Int) (L : List FAct) : Bool := decide (L.length = n ∧ n ≤ 60) && (pyMac L && decide ((1 ≤ X ∧ X ≤ 4096) ∧ 1 ≤ Y ∧ Y ≤ 1000000))
noncomputable def gPy : LoopFn := onTrimB 4 pyTs fun st => match st.slots, st.heap with
  | [(0, [], .v (.int .u8 x)), (1, [], .v (.int .u8 y)), (2, [], .slr 0 n 0 false), (7, [], .kb true), (8, [], .ptr 2 0), (9, [], .ptr 3 0), (10, [], .ki .i64 0)], [(3, .agg [.v (.int .i64 X'), .v (.int .i64 Y'), .v (.slice none 0 0)]), (2, .agg [.v (.int .i64 X), .v (.int .i64 Y), .mp 1]), (1, .tab (.place .u64 c [])), (0, .rows (.fact L))] =>
      some (.ite (pyIn n X Y L && decide (X' = X ∧ Y' = Y)) (.ret (.exit 0, pyFin (pyEnd X Y L (c, [])) X Y)) .bad)
  | _, _ => none
theorem gPy_ok (S : Stat) (ls : List (Nat × LoopFn)) : LoopOk Try.prog (withLoops (cY (S.rd 0 1)) ls) (fnOf 7).ntmps (lpOf 7 0) gPy := by
  refine loop_ren cY_fam (nx := 4) (fuel := 20) (ts0 := pyTs) (π := PyP) (α := FAct) (τ := Nat × PL) (S.rd 0 1) (pyCx S) (fun p i => pyCx_ok S p i) (fun p => p.L) pyW (fun p i s => PyI p s) (fun p i a s => pyStep p.X p.Y s a) (.exit 0) (fun p s => pyFin s p.X p.Y) (fun _ _ _ => rfl) (fun _ _ => Nat.le_succ 4) ?_ ?_ ?_
  · intro st o r ho hr
    split at ho
    · rename_i x y n X' Y' X Y c L hsl hhp
      injection ho with ho
      subst ho
      have hh := Out.ite_bad hr
      obtain ⟨hin, hxy⟩ := Bool.and_eq_true_iff.1 hh.1
      obtain ⟨rfl, rfl⟩ := of_decide_eq_true hxy
      obtain ⟨h1, h2⟩ := Bool.and_eq_true_iff.1 hin
      obtain ⟨h3, h4⟩ := Bool.and_eq_true_iff.1 h2
      obtain ⟨rfl, h5⟩ := of_decide_eq_true h1
      obtain ⟨h6, h7⟩ := of_decide_eq_true h4
      obtain rfl := Option.some.inj hh.2
      refine ⟨⟨x, y, L.length, c, [], L, X', Y', 0, []⟩, (c, []), ⟨rfl, h5, fun a ha => of_decide_eq_true (List.all_eq_true.1 h3 a ha), h6, h7, .nil (by show 0 ≤ X'; omega)⟩, rfl, fun E hE => ?_⟩
      rw [pyCx_S]
      refine ⟨?_, ?_, rfl⟩
      · rw [hsl]
        exact ⟨⟨_, rfl, rfl⟩, ⟨_, rfl, rfl⟩, ⟨_, rfl, rfl⟩, ⟨_, rfl, rfl⟩, ⟨_, rfl, rfl⟩, ⟨_, rfl, rfl⟩, ⟨_, rfl, rfl⟩, trivial⟩
      · rw [hhp]
        exact ⟨⟨trivial, .inr ⟨_, rfl, by simp [SV.cells, SV.cellss, pyV], rfl, rfl⟩⟩, ⟨trivial, .inr ⟨_, rfl, by simp [SV.cells, pyV], rfl, rfl⟩⟩, ⟨trivial, .inr ⟨_, rfl, by simp [SV.cells, SV.cellss, hE, pyV, allE, sortE], rfl, rfl⟩⟩, ⟨trivial, .inl rfl⟩, ⟨trivial, .inr ⟨_, rfl, rfl, rfl, rfl⟩⟩, trivial⟩
    · cases ho
  · intro p i a s ha hinv
    obtain ⟨hi, he⟩ := List.getElem?_eq_some_iff.1 ha
    obtain ⟨b, hb, hsel⟩ := py_sel S p s i hinv hi
    have hact : pyAct p i = a := by unfold pyAct; simp [List.getD, ha]
    rw [hact] at hsel
    have hn := py_step (a := a) hinv.tab hinv.x.1 hinv.y
    refine ⟨pyTs, [2, 1, 3, b, 0], _, b, hsel, ⟨hinv.len, hinv.few, hinv.mac, hinv.x, hinv.y, hn⟩, fun E1 E2 hu h1 h2 => ?_⟩
    rw [pyCx_S, pyCx_S]
    exact py_re S p i _ _ _ _ b hb (by have := hinv.len; have := hinv.few; omega) E1 E2 hu h1 h2
  · intro p s hinv
    have hn : ¬ ((p.L.length : Nat) : Int) < p.n := by have := hinv.len; omega
    have hcx : pyCx S p p.L.length = cYb (S.rd (p.L.length : Nat) 1) := by
      unfold pyCx
      have : p.L.getD p.L.length FAct.dflt = FAct.dflt := by simp [List.getD]
      rw [this]; rfl
    have h0 := py_over S (pyV p s) p.L.length
    refine ⟨pyTs, [2, 1, 3, 4, 0], ⟨pySl (pyV p s) (.v (.int .i64 p.L.length)), pyHp (pyV p s) 4, 0⟩, 4, ?_, by simp, fun E1 E2 hu ha hc => ?_⟩
    · rw [hcx]
      refine Out.way_sel h0 ?_
      have : ((pyV p s).n : Int) = p.n := rfl
      rw [this, decide_eq_false hn]
    · rw [pyCx_S]
      have u1 := hu 1 (by omega)
      have u2 := hu 2 (by omega)
      have u3 := hu 3 (by omega)
      refine ⟨⟨⟨_, rfl, rfl⟩, ⟨_, rfl, ?_⟩, ⟨_, rfl, ?_⟩, trivial⟩, ⟨⟨trivial, .inr ⟨_, rfl, ?_, ?_, rfl⟩⟩, ⟨trivial, .inr ⟨_, rfl, ?_, ?_, rfl⟩⟩, ⟨trivial, .inr ⟨_, rfl, ?_, ?_, rfl⟩⟩, ⟨trivial, .inr ⟨_, rfl, ?_, ?_, rfl⟩⟩, trivial⟩, rfl⟩
      all_goals first | exact ha | exact u1.1 | exact u2.1 | exact u3.1 | (simp [SV.den, SV.cells, SV.cellss, u1, u2, u3, ha, hc, Env.place, pyV])
noncomputable def playsLs : List (Nat × LoopFn) := [(9, gPy)]
theorem playsLs_ok (S : Stat) : ∀ i k g, playsLs[i]? = some (k, g) → LoopOk Try.prog (withLoops (cY (S.rd 0 1)) playsLs) (fnOf 7).ntmps (lpOf 7 i) g := by
  intro i k g h
  match i, h with
  | 0, h => injection h with h; injection h with h1 h2; subst h1 h2; exact gPy_ok S _
  | i + 1, h => cases h
noncomputable def playsO (S : Stat) (x y : Int) (L : List FAct) : Out SV := valF 1 (inline (withLoops (cY (S.rd 0 1)) playsLs) 20 (fnOf 7) [.v (.int .u8 x), .v (.int .u8 y), .slr 0 L.length 0 false] [(0, .rows (.fact L))] 1)
theorem plays_many (S : Stat) (x y : Int) (L : List FAct) : Out.way [true] (playsO S x y L) = some ([decide ((L.length : Int) > 60)], .kb true) := by kernel_rfl
def peE (x y : Int) (L : List FAct) : PL := (pyEnd (bdX x) (bdY y) L (0, [])).2
theorem plays_few (S : Stat) (x y : Int) (L : List FAct) : Out.way [false, false, true, true] (playsO S x y L) = some ([decide ((L.length : Int) > 60), bdOut x y, pyIn L.length (bdX x) (bdY y) L && decide (bdX x = bdX x ∧ bdY y = bdY y),
    (decide ((peE x y L).length ≤ 67108864) && true) && decide ((allE (peE x y L)).length = (peE x y L).length ∧ (allE (peE x y L)).length = (allE (peE x y L)).length ∧ (peE x y L).length ≤ 67108864)],
  .v (.bool (decide (allE (peE x y L) = allE (peE x y L))))) := by kernel_rfl
theorem pyEnd_ok {X Y : Int} (hX : 1 ≤ X) (hY : 1 ≤ Y ∧ Y ≤ 1000000) : ∀ (L : List FAct) (i : Nat) (s : Nat × PL), TabOk X Y s.2 → TabOk X Y (goL (fun _ a s => pyStep X Y s a) L i s).2
  | [], _, _, h => h
  | a :: r, i, s, h => pyEnd_ok hX hY r (i + 1) _ (py_step h hX hY)
theorem plays_true (S : Stat) (x y : Int) (L : List FAct) (hx : 0 ≤ x ∧ x < 256) (hy : 0 ≤ y ∧ y < 256) (hL : ∀ a ∈ L, 0 ≤ a.mac ∧ a.mac < 18446744073709551616) : ∃ v, (playsO S x y L).sel = some v ∧ ∀ S E, v.den S E = .bool true := by
  by_cases hn : (L.length : Int) > 60
  · exact ⟨_, Out.way_sel (plays_many S x y L) (by rw [decide_eq_true hn]), fun _ _ => rfl⟩
  · have hX : 1 ≤ bdX x ∧ bdX x ≤ 8 := by
      unfold bdX
      rw [Int.tmod_eq_emod_of_nonneg hx.1, IntKind.wrap_i64, IntKind.wrap_i64]
      omega
    have hY : 1 ≤ bdY y ∧ bdY y ≤ 256 := by
      unfold bdY
      rw [IntKind.wrap_i64, IntKind.wrap_i64]
      omega
    have ho : bdOut x y = false := by
      unfold bdOut
      simp only [Bool.or_eq_false_iff, decide_eq_false_iff_not]
      omega
    have ht : TabOk (bdX x) (bdY y) (peE x y L) := pyEnd_ok hX.1 (by omega) L 0 (0, []) (.nil (by omega))
    have hlen := ht.len
    have h1 : (peE x y L).length ≤ 67108864 := by omega
    have hm : pyMac L = true := List.all_eq_true.2 fun a ha => decide_eq_true (hL a ha)
    have h60 : L.length ≤ 60 := by omega
    have hin : pyIn L.length (bdX x) (bdY y) L = true := by
      unfold pyIn
      rw [hm, decide_eq_true (show ((1 ≤ bdX x ∧ bdX x ≤ 4096) ∧ 1 ≤ bdY y ∧ bdY y ≤ 1000000) from ⟨⟨hX.1, by omega⟩, hY.1, by omega⟩)]
      simp [h60]
    refine ⟨_, Out.way_sel (plays_few S x y L) ?_, fun S E => ?_⟩
    · rw [decide_eq_false hn, ho, hin, decide_eq_true h1]
      simp [allE_len, h1]
    · simp [SV.den]
end Go.Proofs.Ytfncoeoaniclmaa
