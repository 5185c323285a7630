import Derived.Test.YtjemfkoamfnofaaGreatBq
set_option linter.unusedVariables false
set_option maxRecDepth 100000
namespace Go.Proofs.YtjemfkoamfnofaaGreat
section
open Go Go.RowKit
noncomputable def psEn (S : Stat) : List (Nat × ReadFn) := auto ps0 S 27 :: []
theorem psEn_ok (S : Stat) : ReadsOk S [] (psEn S) := .auto ps0_ok <| .nil S []
noncomputable def cEn (S : Stat) : Ctx := mkCtx S [] (psEn S) [] 60 5
theorem cEn_fam : Fam cEn := mk_fam psEn (fun _ => []) 60 5 psEn_ok (fun _ _ _ h => by cases h)
def ixB (s : BS) (k : Int) : Bool := decide (0 ≤ k) && decide (k < s.ps.length)
def ixL (k : Int) (ps : List Port) : Bool := decide (k.toNat < (Rows.port ps).len)
def portAt (s : BS) (k : Int) : Port := s.ps.getD k.toNat Port.dflt
def wrH (s : BS) (q : Bool) (ps : List Port) : Heap := rowsH s.b s.ps.length q s.out s.fl ps
def outH (s : BS) (q : Bool) (x : Bool) (ps : List Port) : Out (SV × Heap × Nat) := .ret (.kb x, wrH s q ps, 0)
def onP (on : Bool) (p : Port) : Port := { p with enabled := on }
def mcP (p : Port) : Port := { p with flags := { p.flags with mcheck := true } }
def msgP (m : Msg) (p : Port) : Port := { p with msg := m }
def bpP (p : Port) : Port := { p with flags := { p.flags with rcvdBpdu := true } }
theorem en_run (S : Stat) (s : BS) (q : Bool) (k : Int) (on : Bool) : trimR [0, 1, 2, 3] (inline (cEn (S.wt 0)) 60 (fnOf 18) [.ptr 0 0, .v (.int .i64 k), .v (.bool on)] (bsH s q) 4) =
   .ite (ixB s k) (.ite (ixL k s.ps) (.ite (!(decide (k ≥ 0) && decide (k < s.ps.length)) || (portAt s k).enabled == on) (outH s q false s.ps)
     (.ite (ixB s k) (.ite (ixL k s.ps) (outH s q true (s.ps.set k.toNat (onP on (portAt s k)))) .bad) .bad)) .bad) .bad := by kernel_rfl
theorem ck_run (S : Stat) (s : BS) (q : Bool) (k : Int) : trimR [0, 1, 2, 3] (inline (cEn (S.wt 0)) 60 (fnOf 25) [.ptr 0 0, .v (.int .i64 k)] (bsH s q) 4) =
   .ite (!(decide (k ≥ 0) && decide (k < s.ps.length)) || !s.b.rst) (outH s q false s.ps)
     (.ite (ixB s k) (.ite (ixL k s.ps) (outH s q true (s.ps.set k.toNat (mcP (portAt s k)))) .bad) .bad) := by kernel_rfl
theorem hr_run (S : Stat) (s : BS) (q : Bool) (k : Int) (m : Msg) : trimR [0, 1, 2, 3] (inline (cEn (S.wt 0)) 60 (fnOf 20) [.ptr 0 0, .v (.int .i64 k), .rcd (.msg m)] (bsH s q) 4) =
   .ite (decide (k < 0) || decide (k ≥ s.ps.length)) (outH s q false s.ps)
     (.ite (ixB s k) (.ite (ixL k s.ps) (.ite (ixL k s.ps) (.ite ((!(portAt s k).enabled || (portAt s k).flags.rcvdBpdu) || (m.kind == 2 && !s.b.rst)) (outH s q false s.ps)
       (.ite (ixL k s.ps) (.ite (ixL k (s.ps.set k.toNat (msgP m (portAt s k)))) (outH s q true (modI k bpP (s.ps.set k.toNat (msgP m (portAt s k))))) .bad) .bad)) .bad) .bad) .bad) := by kernel_rfl
def argKB : List SV → Option (Int × Bool)
 | [.v (.int .i64 k), .v (.bool b)] => some (k, b)
 | _ => none
theorem argKB_some {l : List SV} {k : Int × Bool} (h : argKB l = some k) : l = [.v (.int .i64 k.1), .v (.bool k.2)] := by
 unfold argKB at h
 split at h
 · rw [← Option.some.inj h]
 · cases h
def argKM : List SV → Option (Int × Msg)
 | [.v (.int .i64 k), .rcd (.msg m)] => some (k, m)
 | _ => none
theorem argKM_some {l : List SV} {k : Int × Msg} (h : argKM l = some k) : l = [.v (.int .i64 k.1), .rcd (.msg k.2)] := by
 unfold argKM at h
 split at h
 · rw [← Option.some.inj h]
 · cases h
def enableF (s : BS) (k : Int) (on : Bool) : BS × Bool := if ((portAt s k).enabled == on) = true then (s, false) else ({ s with ps := s.ps.set k.toNat (onP on (portAt s k)) }, true)
def checkF (s : BS) (k : Int) : BS × Bool := if s.b.rst = true then ({ s with ps := s.ps.set k.toNat (mcP (portAt s k)) }, true) else (s, false)
def hearF (s : BS) (k : Int) (m : Msg) : BS × Bool := if ((!(portAt s k).enabled || (portAt s k).flags.rcvdBpdu) || (m.kind == 2 && !s.b.rst)) = true then (s, false) else ({ s with ps := modI k bpP (s.ps.set k.toNat (msgP m (portAt s k))) }, true)
def gEnable : CanonFn := gBS argKB (fun s a => ixB s a.1) fun s a => ((enableF s a.1 a.2).1, .v (.bool (enableF s a.1 a.2).2))
def gCheck : CanonFn := gBS argI (fun s a => ixB s a) fun s a => ((checkF s a).1, .v (.bool (checkF s a).2))
def gHear : CanonFn := gBS argKM (fun s a => ixB s a.1) fun s a => ((hearF s a.1 a.2).1, .v (.bool (hearF s a.1 a.2).2))
theorem told_ports {S S' : Stat} {E' : Env} {s : BS} {q x : Bool} {ps : List Port} {H1 : Heap} {m1 : Nat} {s' : BS} (hs : s' = { s with ps := ps }) (hget : ∀ k x, (wrH s q ps).get k = some x → H1.get k = some x) :
   Told S S' (.kb x, H1, m1) (.v (.bool x), bsH' s' s.ps.length q, 6) 4 E' (movE E' 2 3) (movR 2 3) := by
 subst hs
 exact told_bs (by decide) (fun _ => rfl) (hget 0 _ rfl) (bri_mov _ _ _ _ _ _ 2 3 q) (hget 1 _ rfl) rfl (.inr ⟨hget 2 _ rfl, rfl⟩) (.inr ⟨hget 3 _ rfl, rfl⟩)
theorem enable_ok : CanonOk 18 gEnable := by
 refine whole_ok Tryz.func18 (by kernel_rfl) fun S s q rest a ha hC => ?_
 obtain rfl := argKB_some ha
 obtain ⟨k, on⟩ := a
 dsimp only at hC ⊢
 have h2 := hC
 simp only [ixB, Bool.and_eq_true, decide_eq_true_eq] at h2
 have hL : ixL k s.ps = true := by simp only [ixL, decide_eq_true_eq]; show k.toNat < s.ps.length; omega
 have hsel := congrArg Out.sel (en_run S s q k on)
 simp only [Out.sel, hC, hL, if_true, outH, ge_iff_le, h2.1, h2.2, decide_true, Bool.and_self, Bool.not_true, Bool.false_or] at hsel
 by_cases h : ((portAt s k).enabled == on) = true
 · rw [if_pos h] at hsel
   obtain ⟨H1, m1, hrun, hget⟩ := trimR_sel hsel
   refine ⟨cEn (S.wt 0), 60, [.v (.int .i64 k), .v (.bool on)], _, H1, m1, 2, 3, good_none cEn_fam (S.wt 0), cEn_fam.S _, fun E => rfl, hrun, fun S' E' => ?_⟩
   rw [show enableF s k on = (s, false) from if_pos h]
   exact told_ports rfl hget
 · rw [if_neg h] at hsel
   obtain ⟨H1, m1, hrun, hget⟩ := trimR_sel hsel
   refine ⟨cEn (S.wt 0), 60, [.v (.int .i64 k), .v (.bool on)], _, H1, m1, 2, 3, good_none cEn_fam (S.wt 0), cEn_fam.S _, fun E => rfl, hrun, fun S' E' => ?_⟩
   rw [show enableF s k on = (_, true) from if_neg h]
   exact told_ports rfl hget
theorem check_ok : CanonOk 25 gCheck := by
 refine whole_ok Tryz.func25 (by kernel_rfl) fun S s q rest k ha hC => ?_
 obtain rfl := argI_some ha
 have h2 := hC
 simp only [ixB, Bool.and_eq_true, decide_eq_true_eq] at h2
 have hL : ixL k s.ps = true := by simp only [ixL, decide_eq_true_eq]; show k.toNat < s.ps.length; omega
 have hsel := congrArg Out.sel (ck_run S s q k)
 simp only [Out.sel, hC, hL, if_true, outH, ge_iff_le, h2.1, h2.2, decide_true, Bool.and_self, Bool.not_true, Bool.false_or] at hsel
 by_cases h : s.b.rst = true
 · rw [if_neg (by simp [h])] at hsel
   obtain ⟨H1, m1, hrun, hget⟩ := trimR_sel hsel
   refine ⟨cEn (S.wt 0), 60, [.v (.int .i64 k)], _, H1, m1, 2, 3, good_none cEn_fam (S.wt 0), cEn_fam.S _, fun E => rfl, hrun, fun S' E' => ?_⟩
   rw [show checkF s k = (_, true) from if_pos h]
   exact told_ports rfl hget
 · rw [if_pos (by simp [h])] at hsel
   obtain ⟨H1, m1, hrun, hget⟩ := trimR_sel hsel
   refine ⟨cEn (S.wt 0), 60, [.v (.int .i64 k)], _, H1, m1, 2, 3, good_none cEn_fam (S.wt 0), cEn_fam.S _, fun E => rfl, hrun, fun S' E' => ?_⟩
   rw [show checkF s k = (s, false) from if_neg h]
   exact told_ports rfl hget
theorem hear_ok : CanonOk 20 gHear := by
 refine whole_ok Tryz.func20 (by kernel_rfl) fun S s q rest a ha hC => ?_
 obtain rfl := argKM_some ha
 obtain ⟨k, m⟩ := a
 dsimp only at hC ⊢
 have h2 := hC
 simp only [ixB, Bool.and_eq_true, decide_eq_true_eq] at h2
 have hL : ixL k s.ps = true := by simp only [ixL, decide_eq_true_eq]; show k.toNat < s.ps.length; omega
 have hL2 : ixL k (s.ps.set k.toNat (msgP m (portAt s k))) = true := by simp only [ixL, decide_eq_true_eq]; show k.toNat < (s.ps.set _ _).length; rw [List.length_set]; omega
 have hno : (decide (k < 0) || decide (k ≥ (s.ps.length : Int))) = false := by simp; omega
 have hsel := congrArg Out.sel (hr_run S s q k m)
 simp only [Out.sel, hC, hL, hL2, hno, if_true, outH, Bool.false_eq_true, if_false] at hsel
 by_cases h : ((!(portAt s k).enabled || (portAt s k).flags.rcvdBpdu) || (m.kind == 2 && !s.b.rst)) = true
 · rw [if_pos h] at hsel
   obtain ⟨H1, m1, hrun, hget⟩ := trimR_sel hsel
   refine ⟨cEn (S.wt 0), 60, [.v (.int .i64 k), .rcd (.msg m)], _, H1, m1, 2, 3, good_none cEn_fam (S.wt 0), cEn_fam.S _, fun E => rfl, hrun, fun S' E' => ?_⟩
   rw [show hearF s k m = (s, false) from if_pos h]
   exact told_ports rfl hget
 · rw [if_neg h] at hsel
   obtain ⟨H1, m1, hrun, hget⟩ := trimR_sel hsel
   refine ⟨cEn (S.wt 0), 60, [.v (.int .i64 k), .rcd (.msg m)], _, H1, m1, 2, 3, good_none cEn_fam (S.wt 0), cEn_fam.S _, fun E => rfl, hrun, fun S' E' => ?_⟩
   rw [show hearF s k m = (_, true) from if_neg h]
   exact told_ports rfl hget
end
section
open Go Go.RowKit
noncomputable def cTk (S : Stat) : Ctx := mkCtx S [] [] [] 60 5
theorem cTk_fam : Fam cTk := mk_fam (fun _ => []) (fun _ => []) 60 5 (fun _ _ _ h => by cases h) (fun _ _ _ h => by cases h)
def downI (x : Int) : Int := if 0 > IntKind.i64.wrap (x - 1) then 0 else IntKind.i64.wrap (x - 1)
def tickP (p : Port) : Port := { p with clocks := ⟨downI p.clocks.edgeDelay, downI p.clocks.fd, downI p.clocks.hello, downI p.clocks.mdelay, downI p.clocks.rb, downI p.clocks.rcvdInfo, downI p.clocks.rr, downI p.clocks.tc, downI p.clocks.txCount⟩ }
def tkSl (n : Nat) (i : SV) : Slots := [(0, [], .ptr 0 0), (9, [], .v (.int .i64 n)), (10, [], i)]
theorem tk_run (S : Stat) (b : Bri) (a r : List Port) (k : Nat) (p : Port) (n : Nat) (q : Bool) (out : List Sent) (fl : List Int) : trimC [0, 9, 10] [0, 1, 2, 3] (exec (cTk (S.wt k)) (fnOf 28).ntmps 60 (lpOf 28 0) ⟨tkSl n (.ix 0), fullH b a r p n q out fl, 4⟩) =
   .ite (decide ((k : Int) < n)) (.ite (decide (0 ≤ (k : Int)) && decide ((k : Int) < n)) (.ret (.nrm, ⟨tkSl n (.v (.int .i64 (IntKind.i64.wrap (k + 1)))), fullH b a r (tickP p) n q out fl, 0⟩)) .bad)
     (.ret (.exit 0, ⟨tkSl n (.ix 0), fullH b a r p n q out fl, 0⟩)) := by kernel_rfl
theorem tk_end (S : Stat) (s : BS) (q : Bool) (k : Nat) : Out.way [false] (trimC [0, 9, 10] [0, 1, 2, 3] (exec (cTk (S.wt k)) (fnOf 28).ntmps 60 (lpOf 28 0) ⟨tkSl s.ps.length (.ix 0), bsH s q, 4⟩)) =
   some ([decide ((k : Int) < s.ps.length)], (.exit 0, ⟨tkSl s.ps.length (.ix 0), bsH s q, 0⟩)) := by kernel_rfl
structure TkX where
 s : BS
 q : Bool
 i : Nat
def tkH (s : BS) (q : Bool) (i : Nat) : Heap := match s.ps.drop i with
 | p :: r => fullH s.b (s.ps.take i) r p s.ps.length q s.out s.fl
 | [] => bsH s q
def tkEnd (x : TkX) : BS := { x.s with ps := x.s.ps.take x.i ++ (x.s.ps.drop x.i).map tickP }
def tkRes (x : TkX) : Ex × St := (.exit 0, ⟨[], bsH (tkEnd x) x.q, 4⟩)
def tkInv (x : TkX) : Prop := x.i ≤ x.s.ps.length ∧ x.s.ps.length < 134217728
theorem re_id {S S' : Stat} {E : Env} {H : Heap} {s : BS} {q : Bool} {x1 : SV} (hro : S'.ro = S.ro) (g0 : H.get 0 = some (s.b.sv (.slr 1 s.ps.length 1 q) (.slr 2 s.out.length 2 false) (.slr 3 s.fl.length 3 false))) (g1 : H.get 1 = some x1) {x1' : SV} (c1 : x1.cells S E = x1'.cells S' E)
   (g2 : H.get 2 = some (.rows (.sent s.out))) (g3 : H.get 3 = some (.rows (.int .i64 s.fl))) (fo : x1'.foOk S') :
   ReHeapN H S E S' E id [(0, s.b.sv (.slr 1 s.ps.length 1 q) (.slr 2 s.out.length 2 false) (.slr 3 s.fl.length 3 false)), (1, x1'), (2, .rows (.sent s.out)), (3, .rows (.int .i64 s.fl))] :=
 ⟨⟨trivial, .inr ⟨_, g0, rfl, rfl, by rw [hro]; rfl⟩⟩, ⟨fo, .inr ⟨_, g1, c1, rfl, by rw [hro]; rfl⟩⟩, ⟨trivial, .inr ⟨_, g2, rfl, rfl, by rw [hro]; rfl⟩⟩, ⟨trivial, .inr ⟨_, g3, rfl, rfl, by rw [hro]; rfl⟩⟩, trivial⟩
theorem foc_rows (S S' : Stat) (E : Env) (a r : List Port) (p : Port) : (SV.foc 0 (.port a) (.rcd (.port p)) (.port r)).cells S E = (SV.rows (.port (a ++ p :: r))).cells S' E := by
 simp only [SV.cells, Rows.cells, Rec.cells]
 rw [List.flatMap_append, List.flatMap_cons]
theorem tkH_re {S : Stat} {E : Env} {H : Heap} {s : BS} {q : Bool} {i : Nat} {x1 : SV} {k : Int} (hi : i ≤ s.ps.length) (g0 : H.get 0 = some (s.b.sv (.slr 1 s.ps.length 1 q) (.slr 2 s.out.length 2 false) (.slr 3 s.fl.length 3 false))) (g1 : H.get 1 = some x1) (c1 : ∀ S', x1.cells (S.wt k) E = (SV.rows (.port s.ps)).cells S' E)
   (g2 : H.get 2 = some (.rows (.sent s.out))) (g3 : H.get 3 = some (.rows (.int .i64 s.fl))) : ReHeapN H (S.wt k) E (S.wt i) E id (tkH s q i) := by
 unfold tkH
 cases hd : s.ps.drop i with
 | nil => exact re_id (S := S.wt k) (S' := S.wt i) (s := s) (q := q) (x1' := .rows (.port s.ps)) rfl g0 g1 (c1 (S.wt i)) g2 g3 trivial
 | cons p r =>
   have hps : s.ps = s.ps.take i ++ p :: r := by rw [← hd, List.take_append_drop]
   refine re_id (S := S.wt k) (S' := S.wt i) (s := s) (q := q) (x1' := .foc 0 (.port (s.ps.take i)) (.rcd (.port p)) (.port r)) rfl g0 g1 ?_ g2 g3 ?_
   · rw [foc_rows (S.wt i) (S.wt i), ← hps]
     exact c1 (S.wt i)
   · show (i : Int).toNat = (s.ps.take i).length
     rw [List.length_take, Nat.min_eq_left hi]; rfl
theorem id_inj {H : Heap} : injOn id H = true := by
 unfold injOn
 rw [List.all_eq_true]
 intro e _
 rw [List.all_eq_true]
 intro f _
 cases h : Nat.beq e.1 f.1 <;> simp [h]
def gTkL : LoopFn := onTrimB 4 [0, 9, 10] fun st => match st with
 | ⟨[(0, [], .ptr 0 0), (9, [], .v (.int .i64 l)), (10, [], .ki .i64 0)], [(0, bx), (1, .rows (.port ps)), (2, .rows (.sent out)), (3, .rows (.int .i64 fl))], _⟩ =>
   (match unBri bx with
   | some (b, .slr 1 n 1 q, .slr 2 lo 2 false, .slr 3 lf 3 false) =>
       some (.ite (decide (n = ps.length ∧ lo = out.length ∧ lf = fl.length ∧ l = ps.length) && decide (ps.length < 134217728)) (.ret (.exit 0, ⟨[], bsH ⟨b, ps.map tickP, out, fl⟩ q, 4⟩)) .bad)
   | _ => none)
 | _ => none
theorem gTkL_ok (S : Stat) (ls : List (Nat × LoopFn)) : LoopOk Tryz.prog (withLoops (cTk (S.wt 0)) ls) (fnOf 28).ntmps (lpOf 28 0) gTkL := by
 have hS : ∀ S, (cTk S).S = S := cTk_fam.S
 refine loop_gen cTk_fam (fx := 4) (nx := 4) (fuel := 60) (S.wt 0) (fun x : TkX => cTk (S.wt x.i)) (fun x : TkX => ⟨tkSl x.s.ps.length (.ix 0), tkH x.s x.q x.i, 4⟩) tkInv (fun x => x.s.ps.length - x.i) tkRes (fun x => ⟨cTk_fam.full _, cTk_fam.win _, LoopsOk.none (cTk_fam.loop _) _⟩) (fun x => by show 4 ≤ 4; decide) ?_ ?_
 · intro st o r ho hr
   split at ho
   · rename_i l bx ps out fl _
     split at ho
     · rename_i b n q lo lf hb
       injection ho with ho
       subst ho
       obtain ⟨ht, hr2⟩ := Out.ite_bad hr
       simp only [Bool.and_eq_true, decide_eq_true_eq] at ht
       obtain ⟨⟨rfl, rfl, rfl, rfl⟩, hp⟩ := ht
       obtain ⟨rfl, _, _⟩ := unBri_ok hb
       obtain rfl := Option.some.inj hr2
       refine ⟨⟨⟨b, ps, out, fl⟩, q, 0⟩, ⟨Nat.zero_le _, hp⟩, rfl, Nat.le_refl 4, fun E => ⟨E, id, Env.upto.refl _ _, ?_, ?_, id_inj⟩⟩
       · exact ⟨⟨_, rfl, rfl⟩, ⟨_, rfl, rfl⟩, ⟨_, rfl, rfl⟩, trivial⟩
       · rw [hS]
         exact tkH_re (s := ⟨b, ps, out, fl⟩) (Nat.zero_le _) rfl rfl (fun _ => rfl) rfl rfl
     · cases ho
   · cases ho
 · intro x hI
   obtain ⟨hi, hp⟩ := hI
   cases hd : x.s.ps.drop x.i with
   | nil =>
     have hge : x.s.ps.length ≤ x.i := by
       have := congrArg List.length hd
       simp at this; omega
     have hle : ¬ (x.i : Int) < x.s.ps.length := by omega
     have hw := Out.way_sel (tk_end S x.s x.q x.i) (by simp [hle])
     have hH : tkH x.s x.q x.i = bsH x.s x.q := by unfold tkH; rw [hd]
     have hE : tkEnd x = x.s := by unfold tkEnd; rw [hd, List.take_of_length_le hge]; simp
     refine ⟨[0, 9, 10], [0, 1, 2, 3], .exit 0, ⟨tkSl x.s.ps.length (.ix 0), bsH x.s x.q, 0⟩, by rw [hH]; exact hw, .inr ⟨by simp, rfl, fun E0 E1 hu => ⟨E1, id, hu, trivial, ?_, id_inj⟩⟩⟩
     rw [hS]
     show ReHeapN _ _ _ _ _ _ (bsH (tkEnd x) x.q)
     rw [hE]
     exact re_id (S := S.wt x.i) (S' := S.wt 0) (s := x.s) (q := x.q) (x1' := .rows (.port x.s.ps)) rfl rfl rfl rfl rfl rfl trivial
   | cons p r =>
     have hlt : x.i < x.s.ps.length := by
       have := congrArg List.length hd
       simp at this; omega
     have hlt' : (x.i : Int) < x.s.ps.length := by omega
     have hps : x.s.ps = x.s.ps.take x.i ++ p :: r := by rw [← hd, List.take_append_drop]
     have hH : tkH x.s x.q x.i = fullH x.s.b (x.s.ps.take x.i) r p x.s.ps.length x.q x.s.out x.s.fl := by unfold tkH; rw [hd]
     have hsel := congrArg Out.sel (tk_run S x.s.b (x.s.ps.take x.i) r x.i p x.s.ps.length x.q x.s.out x.s.fl)
     simp only [Out.sel, hlt', decide_true, Bool.and_true, if_true, show decide (0 ≤ (x.i : Int)) = true from by simp] at hsel
     have htl : (x.s.ps.take x.i).length = x.i := by rw [List.length_take, Nat.min_eq_left hi]
     have hl2 : (x.s.ps.take x.i ++ tickP p :: r).length = x.s.ps.length := by
       conv => rhs; rw [hps]
       simp
     refine ⟨_, _, _, _, by rw [hH]; exact hsel, .inl ⟨rfl, ⟨{ x.s with ps := x.s.ps.take x.i ++ tickP p :: r }, x.q, x.i + 1⟩, ⟨by show x.i + 1 ≤ (x.s.ps.take x.i ++ tickP p :: r).length; rw [hl2]; exact hlt, by show (x.s.ps.take x.i ++ tickP p :: r).length < _; rw [hl2]; exact hp⟩, ?_, ?_, fun E1 => ⟨E1, id, Env.upto.refl _ _, ?_, ?_, id_inj⟩⟩⟩
     · show (x.s.ps.take x.i ++ tickP p :: r).length - (x.i + 1) < _; rw [hl2]; omega
     · have h1 : (x.s.ps.take x.i ++ tickP p :: r).take (x.i + 1) = x.s.ps.take x.i ++ [tickP p] := by
         rw [List.take_append, htl, List.take_of_length_le (by rw [htl]; omega)]; simp
       have h2 : (x.s.ps.take x.i ++ tickP p :: r).drop (x.i + 1) = r := by
         rw [List.drop_append, htl, List.drop_of_length_le (by rw [htl]; omega)]; simp
       have : tkEnd ⟨{ x.s with ps := x.s.ps.take x.i ++ tickP p :: r }, x.q, x.i + 1⟩ = tkEnd x := by
         unfold tkEnd
         dsimp only
         rw [h1, h2, hd]
         simp
       unfold tkRes
       rw [this]
     · have hw : IntKind.i64.wrap ((x.i : Int) + 1) = ((x.i + 1 : Nat) : Int) := wrap_succ hlt (by omega)
       refine ⟨⟨_, rfl, rfl⟩, ⟨_, rfl, ?_⟩, ⟨_, rfl, ?_⟩, trivial⟩
       · simp only [SV.den]
         rw [hl2]
       · rw [hS]
         simp only [SV.den, hw]
         rfl
     · rw [hS, hS]
       refine tkH_re (s := { x.s with ps := x.s.ps.take x.i ++ tickP p :: r }) (by show x.i + 1 ≤ (x.s.ps.take x.i ++ tickP p :: r).length; rw [hl2]; exact hlt) ?_ rfl (fun S' => foc_rows _ _ _ _ _ _) rfl rfl
       show some _ = some _
       rw [hl2]
def tickF (s : BS) : BS := { s with ps := s.ps.map tickP }
def gTick : CanonFn := gBS argN (fun s _ => decide (s.ps.length < 134217728)) fun s _ => (tickF s, .tup [])
def tkOk (s : BS) : Bool := decide (s.ps.length = s.ps.length ∧ s.out.length = s.out.length ∧ s.fl.length = s.fl.length ∧ (s.ps.length : Int) = s.ps.length) && decide (s.ps.length < 134217728)
theorem tkk_run (S : Stat) (s : BS) (q : Bool) : trimR [0, 1, 2, 3] (inline (withLoops (cTk (S.wt 0)) [(1, gTkL), (4, noLoop)]) 60 (fnOf 28) [.ptr 0 0] (bsH s q) 4) = .ite (tkOk s) (.ret (.tup [], bsH (tickF s) q, 0)) .bad := by kernel_rfl
theorem ctick_ok : CanonOk 28 gTick := by
 refine whole_ok Tryz.func28 (by kernel_rfl) fun S s q rest a ha hC => ?_
 obtain rfl := argN_some ha
 have hgood : GoodCtx (withLoops (cTk (S.wt 0)) [(1, gTkL), (4, noLoop)]) (fnOf 28) := good_loops cTk_fam _ _ (by kernel_rfl) rfl fun i k g hg => by
   match i, hg with
   | 0, hg => obtain ⟨rfl, rfl⟩ := Prod.mk.inj (Option.some.inj hg); exact gTkL_ok S _
   | 1, hg => obtain ⟨rfl, rfl⟩ := Prod.mk.inj (Option.some.inj hg); exact noLoop_ok
 have hsel := congrArg Out.sel (tkk_run S s q)
 have hA : tkOk s = true := by simp only [tkOk]; simpa using hC
 simp only [Out.sel, hA, if_true] at hsel
 obtain ⟨H1, m1, hrun, hget⟩ := trimR_sel hsel
 refine ⟨_, 60, [], _, H1, m1, 2, 3, hgood, cTk_fam.S _, fun E => rfl, hrun, fun S' E' => ?_⟩
 refine told_bs (by decide) (fun _ => rfl) (hget 0 _ rfl) ?_ (hget 1 _ rfl) rfl (.inr ⟨hget 2 _ rfl, rfl⟩) (.inr ⟨hget 3 _ rfl, rfl⟩)
 rw [show (tickF s).ps.length = s.ps.length from List.length_map ..]
 exact bri_mov _ _ _ _ _ _ 2 3 q
noncomputable def ssTk (S : Stat) : List (Nat × SpecFn) := (28, spc gTick S) :: []
theorem ssTk_ok (S : Stat) : ∀ f g, (f, g) ∈ ssTk S → SpecOk S [] f g := specs_cons (spc_ok ctick_ok S) specs_nil
noncomputable def cTi (S : Stat) : Ctx := mkCtx S [] [] (ssTk S) 60 5
theorem cTi_fam : Fam cTi := mk_fam (fun _ => []) ssTk 60 5 (fun _ _ _ h => by cases h) ssTk_ok
def tiOk (s : BS) : Bool := decide (s.ps.length = s.ps.length ∧ s.out.length = s.out.length ∧ s.fl.length = s.fl.length) && (decide (s.ps.length < 134217728) && decide ((tickF s).ps.length = s.ps.length))
theorem tick_run (S : Stat) (s : BS) (q : Bool) : trimR [0, 1, 4, 5] (inline (cTi (S.wt 0)) 60 (fnOf 19) [.ptr 0 0] (bsH s q) 4) = .ite (tiOk s) (.ret (.tup [], [(0, (tickF s).b.sv (.slr 1 s.ps.length 1 q) (.slr 4 s.out.length 4 false) (.slr 5 s.fl.length 5 false)), (1, .rows (.port (tickF s).ps)), (4, .rows (.sent s.out)), (5, .rows (.int .i64 s.fl))], 0)) .bad := by kernel_rfl
theorem tick_ok : CanonOk 19 gTick := by
 refine whole_ok Tryz.func19 (by kernel_rfl) fun S s q rest a ha hC => ?_
 obtain rfl := argN_some ha
 have hsel := congrArg Out.sel (tick_run S s q)
 have hA : tiOk s = true := by simp only [tiOk, tickF]; simpa using hC
 simp only [Out.sel, hA, if_true] at hsel
 obtain ⟨H1, m1, hrun, hget⟩ := trimR_sel hsel
 refine ⟨_, 60, [], _, H1, m1, 4, 5, good_none cTi_fam (S.wt 0), cTi_fam.S _, fun E => rfl, hrun, fun S' E' => ?_⟩
 exact told_bs (by decide) (fun _ => rfl) (hget 0 _ rfl) (bri_mov _ _ _ _ _ _ 4 5 q) (hget 1 _ rfl) rfl (.inr ⟨hget 4 _ rfl, rfl⟩) (.inr ⟨hget 5 _ rfl, rfl⟩)
end
end Go.Proofs.YtjemfkoamfnofaaGreat
