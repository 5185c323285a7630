import Derived.Test.YtjemfkoamfnofaaGreatBl
set_option linter.unusedVariables false
set_option maxRecDepth 100000
namespace Go.Proofs.YtjemfkoamfnofaaGreat
section
open Go Go.RowKit
def rxM : BS → Int → BS × Bool := ofP fun b p => (rxT b p).get (p, false)
def migM : BS → Int → BS × Bool := ofP fun b p => (migT b p).get (p, false)
def edgeM : BS → Int → BS × Bool := ofP fun b p => (edgeT b p).get (p, false)
def infoM : BS → Int → BS × Bool := ofP infoF
def transM : BS → Int → BS × Bool := ofPs transF
def passM : BS → Int → BS × Bool := ofP fun b p => (passT b p).get (p, false)
noncomputable def ssR (S : Stat) : List (Nat × SpecFn) := (36, spc (gN selF) S) :: (47, spc (gM rxM) S) :: (48, spc (gM migM) S) :: (49, spc (gM edgeM) S) :: (50, spc (gM infoM) S) :: (51, spc (gM transM) S) :: (52, spc (gM passM) S) ::
 (53, spc (gM topoF) S) :: (54, spc (gM txF) S) :: []
theorem ssR_ok (S : Stat) : ∀ f g, (f, g) ∈ ssR S → SpecOk S [] f g := specs_cons (spc_ok selM_ok S) <| specs_cons (spc_ok (ofP_ok rx_ok) S) <| specs_cons (spc_ok (ofP_ok mig_ok) S) <| specs_cons (spc_ok (ofP_ok edge_ok) S) <| specs_cons (spc_ok (ofP_ok info_ok) S) <|
 specs_cons (spc_ok (ofPs_ok trans_ok) S) <| specs_cons (spc_ok (ofP_ok pass_ok) S) <| specs_cons (spc_ok topo_ok S) <| specs_cons (spc_ok tx_ok S) specs_nil
noncomputable def cR (S : Stat) : Ctx := mkCtx S [] [] (ssR S) 60 5
theorem cR_fam : Fam cR := mk_fam (fun _ => []) ssR 60 5 (fun _ _ _ h => by cases h) ssR_ok
def rdSt (s : BS) (q : Bool) (c : Int) (i : SV) : St := ⟨[(0, [], .ptr 0 0), (3, [], .v (.int .i64 c)), (15, [], .v (.int .i64 s.ps.length)), (16, [], i)], bsH s q, 4⟩
def fns8 : SV := .agg [.fn (.func 47) [] [], .fn (.func 48) [] [], .fn (.func 49) [] [], .fn (.func 50) [] [], .fn (.func 51) [] [], .fn (.func 52) [] [], .fn (.func 53) [] [], .fn (.func 54) [] []]
def machs : List (BS → Int → BS × Bool) := [rxM, migM, edgeM, infoM, transM, passM, topoF, txF]
def inSt (s : BS) (q : Bool) (c k l : Int) (j : SV) : St := ⟨[(0, [], .ptr 0 0), (3, [], .v (.int .i64 c)), (4, [], .v (.int .i64 k)), (15, [], .v (.int .i64 l)), (16, [], .v (.int .i64 k)), (19, [], fns8), (20, [], j)], bsH s q, 4⟩
def inTs : List Nat := [0, 3, 4, 15, 16, 19, 20]
def inS1 (s : BS) (n : Nat) (q : Bool) (c k l : Int) (j : SV) : St := ⟨[(0, [], .ptr 0 0), (3, [], .v (.int .i64 c)), (4, [], .v (.int .i64 k)), (15, [], .v (.int .i64 l)), (16, [], .v (.int .i64 k)), (19, [], fns8), (20, [], j)],
 [(0, s.b.sv (.slr 1 n 1 q) (.slr 4 s.out.length 4 false) (.slr 5 s.fl.length 5 false)), (1, .rows (.port s.ps)), (4, .rows (.sent s.out)), (5, .rows (.int .i64 s.fl))], 0⟩
def okM (F : BS → Int → BS × Bool) (s : BS) (k : Int) : Bool := decide (s.ps.length = s.ps.length ∧ s.out.length = s.out.length ∧ s.fl.length = s.fl.length) && (cK s k && decide ((F s k).1.ps.length = s.ps.length))
def inRd (F : BS → Int → BS × Bool) (s : BS) (q : Bool) (c k l : Int) (j : SV) : Out (Ex × St) := .ite (okM F s k) (.ite (F s k).2 (.ret (.nrm, inS1 (F s k).1 s.ps.length q (IntKind.i64.wrap (c + 1)) k l j)) (.ret (.nrm, inS1 (F s k).1 s.ps.length q c k l j))) .bad
noncomputable def inO (S : Stat) (s : BS) (q : Bool) (c k l : Int) (j : SV) : Out (Ex × St) := trimC inTs [0, 1, 4, 5] (exec (cR (S.wt 0)) (fnOf 26).ntmps 60 (lpOf 26 1) (inSt s q c k l j))
structure MachOk (F : BS → Int → BS × Bool) : Prop where
 len : ∀ s k, (F s k).1.ps.length = s.ps.length
 out : ∀ s k, (F s k).1.out.length ≤ s.out.length + 1
 fl : ∀ s k, (F s k).1.fl.length ≤ s.fl.length + 1
theorem ofP_mach (F : Bri → Port → Port × Bool) : MachOk (ofP F) := ⟨fun s k => List.length_set, fun s k => Nat.le_succ _, fun s k => Nat.le_succ _⟩
theorem transF_length (b : Bri) (ps : List Port) (k : Int) : (transF b ps k).1.length = ps.length := by
 unfold transF
 cases trR b ps k (ps.getD k.toNat Port.dflt) with
 | no => rfl
 | one p => exact List.length_set
 | oneT p => exact List.length_set
 | syncs => show (syncsF k ps).length = _; unfold syncsF; rw [List.length_set, mapI_length]
 | reRoots => show (reRootsF k ps).length = _; unfold reRootsF; rw [mapI_length]
theorem transM_mach : MachOk transM := ⟨fun s k => transF_length _ _ _, fun s k => Nat.le_succ _, fun s k => Nat.le_succ _⟩
theorem toldF_length (k : Int) (l : List Port) : (toldF k l).length = l.length := by unfold toldF; exact mapI_length _ _ _
theorem topoF_mach : MachOk topoF := by
 refine ⟨fun s k => ?_, fun s k => ?_, fun s k => ?_⟩ <;> unfold topoF <;> cases (toT s.b (s.ps.getD k.toNat Port.dflt)).get <;> simp [toX, modI, toldF_length]
theorem txF_mach : MachOk txF := by
 refine ⟨fun s k => ?_, fun s k => ?_, fun s k => ?_⟩ <;> unfold txF <;> cases txR s.b k (s.ps.getD k.toNat Port.dflt) <;> simp [txX]
theorem machs_ok : ∀ F ∈ machs, MachOk F := by
 intro F hF
 simp only [machs, List.mem_cons, List.not_mem_nil, or_false] at hF
 rcases hF with rfl | rfl | rfl | rfl | rfl | rfl | rfl | rfl
 · exact ofP_mach _
 · exact ofP_mach _
 · exact ofP_mach _
 · exact ofP_mach _
 · exact transM_mach
 · exact ofP_mach _
 · exact topoF_mach
 · exact txF_mach
def stepsL (k : Int) : List (BS → Int → BS × Bool) → BS × Int → BS × Int
 | [], x => x
 | F :: r, (s, c) => stepsL k r ((F s k).1, if (F s k).2 = true then IntKind.i64.wrap (c + 1) else c)
theorem in_run (S : Stat) (s : BS) (q : Bool) (c k l : Int) : ∀ j, j < 8 → ∃ F, machs[j]? = some F ∧ inO S s q c k l (.ki .i64 (j : Nat)) = inRd F s q c k l (.ki .i64 ((j + 1 : Nat) : Int))
 | 0, _ => ⟨_, rfl, by kernel_rfl⟩
 | 1, _ => ⟨_, rfl, by kernel_rfl⟩
 | 2, _ => ⟨_, rfl, by kernel_rfl⟩
 | 3, _ => ⟨_, rfl, by kernel_rfl⟩
 | 4, _ => ⟨_, rfl, by kernel_rfl⟩
 | 5, _ => ⟨_, rfl, by kernel_rfl⟩
 | 6, _ => ⟨_, rfl, by kernel_rfl⟩
 | 7, _ => ⟨_, rfl, by kernel_rfl⟩
 | n + 8, h => absurd h (by omega)
theorem in_end (S : Stat) (s : BS) (q : Bool) (c k l : Int) : trimC inTs [0, 1, 2, 3] (exec (cR (S.wt 0)) (fnOf 26).ntmps 60 (lpOf 26 1) (inSt s q c k l (.ki .i64 ((8 : Nat) : Int)))) =
 .ret (.exit 2, ⟨(inSt s q c k l (.ki .i64 ((8 : Nat) : Int))).slots, bsH s q, 0⟩) := by kernel_rfl
structure InX where
 s : BS
 q : Bool
 c : Int
 k : Int
 l : Int
 j : Nat
def finH (s : BS) (q : Bool) (n2 n3 : Nat) : Heap := [(0, s.b.sv (.slr 1 s.ps.length 1 q) (.slr n2 s.out.length n2 false) (.slr n3 s.fl.length n3 false)), (1, .rows (.port s.ps)), (n2, .rows (.sent s.out)), (n3, .rows (.int .i64 s.fl))]
def inFin (s : BS) (q : Bool) (c k l : Int) : St := ⟨[(0, [], .ptr 0 0), (3, [], .v (.int .i64 c)), (15, [], .v (.int .i64 l)), (16, [], .v (.int .i64 k))], finH s q 5 6, 7⟩
def inRes (x : InX) : Ex × St := (.exit 2, inFin (stepsL x.k (machs.drop x.j) (x.s, x.c)).1 x.q (stepsL x.k (machs.drop x.j) (x.s, x.c)).2 x.k x.l)
def inInv (x : InX) : Prop := x.j ≤ 8 ∧ 0 ≤ x.k ∧ x.k < x.s.ps.length ∧ x.s.ps.length < 134217728 ∧ x.s.out.length + (8 - x.j) ≤ 134217727 ∧ x.s.fl.length + (8 - x.j) ≤ 134217727
def renE (E0 E : Env) (n2 n3 k2 k3 : Nat) : Env := { ad := fun k => if k = n2 then E.ad k2 else if k = n3 then E.ad k3 else E0.ad k, cp := fun k => if k = n2 then E.cp k2 else if k = n3 then E.cp k3 else E0.cp k }
def renR (n2 n3 k2 k3 k : Nat) : Nat := if k = n2 then k2 else if k = n3 then k3 else k
theorem renE_upto (E0 E : Env) {n2 n3 k2 k3 m : Nat} (h2 : m ≤ n2) (h3 : m ≤ n3) : Env.upto m E0 (renE E0 E n2 n3 k2 k3) := by
 intro k hk
 have h4 : k ≠ n2 := by omega
 have h5 : k ≠ n3 := by omega
 simp [renE, h4, h5]
theorem ren_bs {S S' : Stat} {E0 E : Env} {s : BS} {q : Bool} {n2 n3 k2 k3 : Nat} {H : Heap} (hro : S'.ro = S.ro) (hr : ∀ k, S.ro k = false) (h23 : n2 ≠ n3 ∧ 1 < n2 ∧ 1 < n3) (hu : Env.upto 2 E0 E)
   (g0 : H.get 0 = some (s.b.sv (.slr 1 s.ps.length 1 q) (.slr k2 s.out.length k2 false) (.slr k3 s.fl.length k3 false))) (g1 : H.get 1 = some (.rows (.port s.ps))) (g2 : H.get k2 = some (.rows (.sent s.out))) (g3 : H.get k3 = some (.rows (.int .i64 s.fl))) :
   ReHeapN H S E S' (renE E0 E n2 n3 k2 k3) (renR n2 n3 k2 k3) (finH s q n2 n3) := by
 obtain ⟨hne, h2, h3⟩ := h23
 have a0 : (0 : Nat) ≠ n2 := by omega
 have a1 : (0 : Nat) ≠ n3 := by omega
 have b0 : (1 : Nat) ≠ n2 := by omega
 have b1 : (1 : Nat) ≠ n3 := by omega
 have u0 := hu 0 (by decide)
 have u1 := hu 1 (by decide)
 have hne' : n3 ≠ n2 := fun h => hne h.symm
 refine ⟨⟨trivial, .inr ⟨_, by rw [show renR n2 n3 k2 k3 0 = 0 from by simp [renR, a0, a1]]; exact g0, ?_, ?_, ?_⟩⟩, ⟨trivial, .inr ⟨_, by rw [show renR n2 n3 k2 k3 1 = 1 from by simp [renR, b0, b1]]; exact g1, rfl, ?_, ?_⟩⟩,
   ⟨trivial, .inr ⟨_, by rw [show renR n2 n3 k2 k3 n2 = k2 from by simp [renR]]; exact g2, rfl, ?_, ?_⟩⟩, ⟨trivial, .inr ⟨_, by rw [show renR n2 n3 k2 k3 n3 = k3 from by simp [renR, hne']]; exact g3, rfl, ?_, ?_⟩⟩, trivial⟩
 · simp [Bri.sv, SV.cells, SV.cellss, SV.den, Env.place, renE, hne', b0, b1, u1.1, u1.2]
 · simp [renE, renR, a0, a1, u0.1]
 · rw [hro, hr, hr]
 · simp [renE, renR, b0, b1, u1.1]
 · rw [hro, hr, hr]
 · simp [renE, renR]
 · rw [hro, hr, hr]
 · simp [renE, renR, hne']
 · rw [hro, hr, hr]
theorem ren_inj {s : BS} {q : Bool} {n2 n3 k2 k3 : Nat} (h : n2 ≠ n3 ∧ 1 < n2 ∧ 1 < n3) (h' : k2 ≠ k3 ∧ 1 < k2 ∧ 1 < k3) : injOn (renR n2 n3 k2 k3) (finH s q n2 n3) = true := by
 obtain ⟨hne, h2, h3⟩ := h
 obtain ⟨hne', h2', h3'⟩ := h'
 have a0 : (0 : Nat) ≠ n2 := by omega
 have a1 : (0 : Nat) ≠ n3 := by omega
 have b0 : (1 : Nat) ≠ n2 := by omega
 have b1 : (1 : Nat) ≠ n3 := by omega
 have e0 : renR n2 n3 k2 k3 0 = 0 := by simp [renR, a0, a1]
 have e1 : renR n2 n3 k2 k3 1 = 1 := by simp [renR, b0, b1]
 have e2 : renR n2 n3 k2 k3 n2 = k2 := by simp [renR]
 have e3 : renR n2 n3 k2 k3 n3 = k3 := by unfold renR; rw [if_neg (fun h => hne h.symm), if_pos rfl]
 have nb : ∀ {x y : Nat}, x ≠ y → Nat.beq x y = false := fun {x y} h => by cases hb : Nat.beq x y with | false => rfl | true => exact absurd (Nat.eq_of_beq_eq_true hb) h
 simp only [injOn, finH, List.all_cons, List.all_nil, e0, e1, e2, e3, Nat.beq_refl, Bool.or_true, Bool.and_true, Bool.true_and]
 simp [nb (show k2 ≠ 0 by omega), nb (show (0 : Nat) ≠ k2 by omega), nb (show k3 ≠ 0 by omega), nb (show (0 : Nat) ≠ k3 by omega), nb (show k2 ≠ 1 by omega), nb (show (1 : Nat) ≠ k2 by omega), nb (show k3 ≠ 1 by omega), nb (show (1 : Nat) ≠ k3 by omega), nb hne', nb (fun h : k3 = k2 => hne' h.symm), nb (show (0 : Nat) ≠ 1 by decide), nb (show (1 : Nat) ≠ 0 by decide)]
def gIn : LoopFn := onTrimB 5 inTs fun st => match st with
 | ⟨[(0, [], .ptr 0 0), (3, [], .v (.int .i64 c)), (4, [], .v (.int .i64 k)), (15, [], .v (.int .i64 l)), (16, [], .v (.int .i64 k')), (19, [], .agg [.fn (.func f1) [] [], .fn (.func f2) [] [], .fn (.func f3) [] [], .fn (.func f4) [] [], .fn (.func f5) [] [], .fn (.func f6) [] [], .fn (.func f7) [] [], .fn (.func f8) [] []]), (20, [], .ki .i64 0)], [(4, _), (0, bx), (1, .rows (.port ps)), (2, .rows (.sent out)), (3, .rows (.int .i64 fl))], _⟩ =>
   (match unBri bx with
   | some (b, .slr 1 n 1 q, .slr 2 lo 2 false, .slr 3 lf 3 false) => bif Nat.beq f1 47 && Nat.beq f2 48 && Nat.beq f3 49 && Nat.beq f4 50 && Nat.beq f5 51 && Nat.beq f6 52 && Nat.beq f7 53 && Nat.beq f8 54 then
       some (.ite (decide (n = ps.length ∧ lo = out.length ∧ lf = fl.length ∧ k' = k) && decide (0 ≤ k ∧ k < ps.length ∧ ps.length < 134217728 ∧ out.length + 8 ≤ 134217727 ∧ fl.length + 8 ≤ 134217727)) (.ret (inRes ⟨⟨b, ps, out, fl⟩, q, c, k, l, 0⟩)) .bad) else none
   | _ => none)
 | _ => none
theorem gIn_ok (S : Stat) (ls : List (Nat × LoopFn)) : LoopOk Tryz.prog (withLoops (cR (S.wt 0)) ls) (fnOf 26).ntmps (lpOf 26 1) gIn := by
 have hS : ∀ S, (cR S).S = S := cR_fam.S
 refine loop_gen cR_fam (fx := 2) (nx := 5) (fuel := 60) (S.wt 0) (fun _ => cR (S.wt 0)) (fun x : InX => inSt x.s x.q x.c x.k x.l (.ki .i64 (x.j : Nat))) inInv (fun x => 8 - x.j) inRes (fun x => ⟨cR_fam.full _, cR_fam.win _, LoopsOk.none (cR_fam.loop _) _⟩) (fun x => by show 2 ≤ 4; decide) ?_ ?_
 · intro st o r ho hr
   split at ho
   · rename_i c k l k' f1 f2 f3 f4 f5 f6 f7 f8 _ bx ps out fl _
     split at ho
     · rename_i b n q lo lf hb
       cases hf : (Nat.beq f1 47 && Nat.beq f2 48 && Nat.beq f3 49 && Nat.beq f4 50 && Nat.beq f5 51 && Nat.beq f6 52 && Nat.beq f7 53 && Nat.beq f8 54) with
       | false => rw [hf] at ho; cases ho
       | true =>
         rw [hf] at ho
         simp only [cond_true, Option.some.injEq] at ho
         subst ho
         obtain ⟨ht, hr2⟩ := Out.ite_bad hr
         simp only [Bool.and_eq_true, decide_eq_true_eq, Nat.beq_eq] at ht hf
         obtain ⟨⟨rfl, rfl, rfl, rfl⟩, h0, hn, hp, h1, h2⟩ := ht
         obtain ⟨⟨⟨⟨⟨⟨⟨rfl, rfl⟩, rfl⟩, rfl⟩, rfl⟩, rfl⟩, rfl⟩, rfl⟩ := hf
         obtain ⟨rfl, _, _⟩ := unBri_ok hb
         obtain rfl := Option.some.inj hr2
         refine ⟨⟨⟨b, ps, out, fl⟩, q, c, k', l, 0⟩, ⟨Nat.zero_le _, h0, hn, hp, h1, h2⟩, rfl, by show 5 ≤ 7; decide, fun E => ⟨renE E E 2 3 2 3, renR 2 3 2 3, renE_upto _ _ (by decide) (by decide), ?_, ?_, ?_⟩⟩
         · exact ⟨⟨_, rfl, rfl⟩, ⟨_, rfl, rfl⟩, ⟨_, rfl, rfl⟩, ⟨_, rfl, rfl⟩, ⟨_, rfl, rfl⟩, ⟨_, rfl, rfl⟩, ⟨_, rfl, rfl⟩, trivial⟩
         · rw [hS]
           exact ren_bs (s := ⟨b, ps, out, fl⟩) rfl (fun _ => rfl) (by decide) (Env.upto.refl _ _) rfl rfl rfl rfl
         · exact ren_inj (s := ⟨b, ps, out, fl⟩) (by decide) (by decide)
     · cases ho
   · cases ho
 · intro x hI
   obtain ⟨hj, h0, hn, hp, h1, h2⟩ := hI
   rcases Nat.lt_or_ge x.j 8 with hlt | hge
   · obtain ⟨F, hF, hrun⟩ := in_run S x.s x.q x.c x.k x.l x.j hlt
     have hm := machs_ok F (List.mem_of_getElem? hF)
     have hlen := hm.len x.s x.k
     have hout := hm.out x.s x.k
     have hfl := hm.fl x.s x.k
     have hok : okM F x.s x.k = true := by
       have e1 : x.s.out.length < 134217727 := by omega
       have e2 : x.s.fl.length < 134217727 := by omega
       simp [okM, cK, roomB, hlen, h0, hn, hp, e1, e2]
     have hdrop : machs.drop x.j = F :: machs.drop (x.j + 1) := by
       obtain ⟨hl, he⟩ := List.getElem?_eq_some_iff.1 hF
       rw [List.drop_eq_getElem_cons hl, he]
     have hsel := congrArg Out.sel hrun
     unfold inO inRd at hsel
     simp only [Out.sel, hok, if_true] at hsel
     have key : ∀ c' : Int, c' = (if (F x.s x.k).2 = true then IntKind.i64.wrap (x.c + 1) else x.c) → ∃ y, inInv y ∧ 8 - y.j < 8 - x.j ∧ inRes y = inRes x ∧ ∀ E1, ∃ E2 ρ, Env.upto 2 E1 E2 ∧
         ReN (cR (S.wt 0)).S E1 (inS1 (F x.s x.k).1 x.s.ps.length x.q c' x.k x.l (.ki .i64 ((x.j + 1 : Nat) : Int))) (cR (S.wt 0)).S E2 ρ (inSt y.s y.q y.c y.k y.l (.ki .i64 (y.j : Nat))) := by
       intro c' hc'
       refine ⟨⟨(F x.s x.k).1, x.q, c', x.k, x.l, x.j + 1⟩, ⟨hlt, h0, by show x.k < _; rw [hlen]; exact hn, by show _ < _; rw [hlen]; exact hp, by show (F x.s x.k).1.out.length + (8 - (x.j + 1)) ≤ _; omega, by show (F x.s x.k).1.fl.length + (8 - (x.j + 1)) ≤ _; omega⟩, by show 8 - (x.j + 1) < _; omega, ?_, fun E1 => ⟨renE E1 E1 2 3 4 5, renR 2 3 4 5, renE_upto _ _ (by decide) (by decide), ?_, ?_, ?_⟩⟩
       · unfold inRes
         rw [hdrop, hc']
         rfl
       · exact ⟨⟨_, rfl, rfl⟩, ⟨_, rfl, rfl⟩, ⟨_, rfl, rfl⟩, ⟨_, rfl, rfl⟩, ⟨_, rfl, rfl⟩, ⟨_, rfl, rfl⟩, ⟨_, rfl, rfl⟩, trivial⟩
       · rw [hS]
         refine ren_bs (s := (F x.s x.k).1) rfl (fun _ => rfl) (by decide) (Env.upto.refl _ _) ?_ rfl rfl rfl
         rw [hlen]; rfl
       · exact ren_inj (s := (F x.s x.k).1) (by decide) (by decide)
     by_cases hb : (F x.s x.k).2 = true
     · simp only [hb, if_true] at hsel
       exact ⟨_, _, _, _, hsel, .inl ⟨rfl, key _ (by rw [if_pos hb])⟩⟩
     · simp only [hb, if_false] at hsel
       exact ⟨_, _, _, _, hsel, .inl ⟨rfl, key _ (by rw [if_neg hb])⟩⟩
   · have hj8 : x.j = 8 := by omega
     have hsel := congrArg Out.sel (in_end S x.s x.q x.c x.k x.l)
     rw [hj8]
     refine ⟨_, _, _, _, hsel, .inr ⟨by simp, rfl, fun E0 E1 hu => ⟨renE E0 E1 5 6 2 3, renR 5 6 2 3, renE_upto _ _ (by decide) (by decide), ?_, ?_, ?_⟩⟩⟩
     all_goals (unfold inRes; rw [hj8, show machs.drop 8 = [] from rfl])
     · exact ⟨⟨_, rfl, by simp [SV.den, Env.place, renE, hu 0 (by decide)]⟩, ⟨_, rfl, rfl⟩, ⟨_, rfl, rfl⟩, ⟨_, rfl, rfl⟩, trivial⟩
     · rw [hS]
       exact ren_bs (s := x.s) rfl (fun _ => rfl) (by decide) hu rfl rfl rfl rfl
     · exact ren_inj (s := x.s) (by decide) (by decide)
end
section
open Go Go.RowKit
theorem whole_ok {α : Type} {arg : List SV → Option α} {C : BS → α → Bool} {F : BS → α → BS × SV} {fk : FuncId} {fn : Func} (hfn : Tryz.prog.funcs[fk]? = some fn) (hname : ((fnOf fk).name == "runtime.NumGoroutine") = false)
   (hrun : ∀ (S : Stat) (s : BS) (q : Bool) (rest : List SV) (a : α), arg rest = some a → C s a = true → ∃ c fuel rest0 v H1 m1 k2 k3, GoodCtx c (fnOf fk) ∧ c.S = S.wt 0 ∧ (∀ E, SV.dens S E rest = SV.dens (S.wt 0) E rest0) ∧
     (inline c fuel (fnOf fk) (.ptr 0 0 :: rest0) (bsH s q) 4).sel = some (v, H1, m1) ∧
     ∀ S' E', Told (S.wt 0) S' (v, H1, m1) ((F s a).2, bsH' (F s a).1 s.ps.length q, 6) 4 E' (movE E' k2 k3) (movR k2 k3)) : CanonOk fk (gBS arg C F) := by
 refine canon_free hfn hname fun S args H m r' hr => ?_
 obtain ⟨rest, k, s, q, rfl, ha, rfl, rfl, hfree, hC, hl, rfl⟩ := gBS_some hr
 refine ⟨Nat.le_add_right 4 2, fun E => ?_⟩
 obtain ⟨c, fuel, rest0, v, H1, m1, k2, k3, hgood, hcS, hre, hrn, hT⟩ := hrun S s q rest k ha hC
 refine ⟨c, fuel, .ptr 0 0 :: rest0, bsH s q, _, hgood, fun k => by rw [hcS]; rfl, fun j x hj => ?_, hrn, ?_, ?_, fun E' hu => ⟨movE E' k2 k3, movR k2 k3, ?_⟩⟩
 · refine free_lt hfree j ?_
   unfold bsH at hj
   simp only [Heap.get_cons] at hj
   by_cases e0 : j = 0
   · omega
   · by_cases e1 : j = 1
     · omega
     · by_cases e2 : j = 2
       · omega
       · by_cases e3 : j = 3
         · omega
         · simp [e0, e1, e2, e3, Heap.get] at hj
 · rw [hcS]; exact dens_cons rfl (hre E)
 · rw [hcS]
   exact ⟨⟨_, rfl, rfl, trivial⟩, ⟨_, rfl, rfl, trivial⟩, ⟨_, rfl, rfl, trivial⟩, ⟨_, rfl, rfl, trivial⟩, trivial⟩
 · rw [hcS]
   exact hT S E'
def portsL : Nat → Nat → BS × Int → BS × Int
 | 0, _, x => x
 | n + 1, i, x => portsL n (i + 1) (stepsL (i : Int) machs x)
theorem stepsL_len {k : Int} : ∀ (l : List (BS → Int → BS × Bool)) (x : BS × Int), (∀ F ∈ l, MachOk F) → (stepsL k l x).1.ps.length = x.1.ps.length ∧ (stepsL k l x).1.out.length ≤ x.1.out.length + l.length ∧ (stepsL k l x).1.fl.length ≤ x.1.fl.length + l.length
 | [], (s, c), _ => ⟨rfl, Nat.le_refl _, Nat.le_refl _⟩
 | F :: r, (s, c), h => by
   have hF := h F (List.mem_cons_self ..)
   obtain ⟨h1, h2, h3⟩ := stepsL_len (k := k) r ((F s k).1, if (F s k).2 = true then IntKind.i64.wrap (c + 1) else c) fun G hG => h G (List.mem_cons_of_mem _ hG)
   have := hF.len s k
   have := hF.out s k
   have := hF.fl s k
   simp only [stepsL, List.length_cons]
   dsimp only at h1 h2 h3 ⊢
   omega
theorem steps8 (k : Int) (x : BS × Int) : (stepsL k machs x).1.ps.length = x.1.ps.length ∧ (stepsL k machs x).1.out.length ≤ x.1.out.length + 8 ∧ (stepsL k machs x).1.fl.length ≤ x.1.fl.length + 8 := stepsL_len machs x machs_ok
theorem portsL_len : ∀ (n i : Nat) (x : BS × Int), (portsL n i x).1.ps.length = x.1.ps.length ∧ (portsL n i x).1.out.length ≤ x.1.out.length + 8 * n ∧ (portsL n i x).1.fl.length ≤ x.1.fl.length + 8 * n
 | 0, _, x => ⟨rfl, Nat.le_refl _, Nat.le_refl _⟩
 | n + 1, i, x => by
   obtain ⟨h1, h2, h3⟩ := portsL_len n (i + 1) (stepsL (i : Int) machs x)
   obtain ⟨g1, g2, g3⟩ := steps8 (i : Int) x
   simp only [portsL]
   omega
structure OutX where
 s : BS
 q : Bool
 c : Int
 i : Nat
def outRes (x : OutX) : Ex × St := (.exit 0, ⟨[(0, [], .ptr 0 0), (3, [], .v (.int .i64 (portsL (x.s.ps.length - x.i) x.i (x.s, x.c)).2))], finH (portsL (x.s.ps.length - x.i) x.i (x.s, x.c)).1 x.q 6 7, 8⟩)
def outInv (x : OutX) : Prop := x.i ≤ x.s.ps.length ∧ x.s.ps.length < 134217728 ∧ x.s.out.length + 8 * (x.s.ps.length - x.i) ≤ 134217727 ∧ x.s.fl.length + 8 * (x.s.ps.length - x.i) ≤ 134217727
def outS1 (s0 s : BS) (q : Bool) (c : Int) (i : SV) : St := ⟨[(0, [], .ptr 0 0), (3, [], .v (.int .i64 c)), (15, [], .v (.int .i64 s0.ps.length)), (16, [], i)], finH s q 5 6, 0⟩
def inOk (s : BS) (k : Int) : Bool := decide (s.ps.length = s.ps.length ∧ s.out.length = s.out.length ∧ s.fl.length = s.fl.length ∧ k = k) && decide (0 ≤ k ∧ k < s.ps.length ∧ s.ps.length < 134217728 ∧ s.out.length + 8 ≤ 134217727 ∧ s.fl.length + 8 ≤ 134217727)
theorem out_run (S : Stat) (s : BS) (q : Bool) (c : Int) (i : Nat) : trimC [0, 3, 15, 16] [0, 1, 2, 3, 5, 6] (exec (withLoops (cR (S.wt 0)) [(8, gIn)]) (fnOf 26).ntmps 60 (lpOf 26 0) (rdSt s q c (.v (.int .i64 i)))) =
   .ite (decide ((i : Int) < s.ps.length)) (.ite (inOk s i) (.ret (.nrm, outS1 s (stepsL (i : Int) machs (s, c)).1 q (stepsL (i : Int) machs (s, c)).2 (.v (.int .i64 (IntKind.i64.wrap (i + 1)))))) .bad)
     (.ret (.exit 0, ⟨(rdSt s q c (.v (.int .i64 i))).slots, bsH s q, 0⟩)) := by kernel_rfl
def numOf : SV → Option Int
 | .ki .i64 c => some c
 | .v (.int .i64 c) => some c
 | _ => none
theorem numOf_den {x : SV} {c : Int} (h : numOf x = some c) (S : Stat) (E : Env) : x.den S E = .int .i64 c := by
 unfold numOf at h
 split at h
 · injection h with h; subst h; rfl
 · injection h with h; subst h; rfl
 · cases h
def gOut : LoopFn := onTrimB 6 [0, 3, 15, 16] fun st => match st with
 | ⟨[(0, [], .ptr 0 0), (3, [], cx), (15, [], .v (.int .i64 l)), (16, [], .ki .i64 0)], [(0, bx), (1, .rows (.port ps)), (2, _), (3, _), (5, .rows (.int .i64 fl)), (4, .rows (.sent out))], _⟩ =>
   (match numOf cx, unBri bx with
   | some c, some (b, .slr 1 n 1 q, .slr 4 lo 4 false, .slr 5 lf 5 false) =>
       some (.ite (decide (n = ps.length ∧ lo = out.length ∧ lf = fl.length ∧ l = ps.length) && decide (ps.length < 134217728 ∧ out.length + 8 * ps.length ≤ 134217727 ∧ fl.length + 8 * ps.length ≤ 134217727)) (.ret (outRes ⟨⟨b, ps, out, fl⟩, q, c, 0⟩)) .bad)
   | _, _ => none)
 | _ => none
theorem gOut_ok (S : Stat) (ls : List (Nat × LoopFn)) : LoopOk Tryz.prog (withLoops (cR (S.wt 0)) ls) (fnOf 26).ntmps (lpOf 26 0) gOut := by
 have hS : ∀ S, (cR S).S = S := cR_fam.S
 have hS' : ∀ S ls, (withLoops (cR S) ls).S = S := fun S ls => cR_fam.S S
 refine loop_gen cR_fam (fx := 2) (nx := 6) (fuel := 60) (S.wt 0) (fun _ => withLoops (cR (S.wt 0)) [(8, gIn)]) (fun x : OutX => rdSt x.s x.q x.c (.v (.int .i64 x.i))) outInv (fun x => x.s.ps.length - x.i) outRes (fun x => ⟨withLoops_full (cR_fam.full (S.wt 0)) _, cR_fam.win (S.wt 0), ?_⟩) (fun x => by show 2 ≤ 4; decide) ?_ ?_
 · refine LoopsOk.of fun j hj => ?_
   have hlen : (loopsOf (lpOf 26 0)).length = 1 := by kernel_rfl
   have : j = 0 := by omega
   subst this
   rw [show loopAt (lpOf 26 0) 0 = lpOf 26 1 from by kernel_rfl]
   exact gIn_ok S _
 · intro st o r ho hr
   split at ho
   · rename_i cx l bx ps _ _ fl out _
     split at ho
     · rename_i c b n q lo lf hc hb
       injection ho with ho
       subst ho
       obtain ⟨ht, hr2⟩ := Out.ite_bad hr
       simp only [Bool.and_eq_true, decide_eq_true_eq] at ht
       obtain ⟨⟨rfl, rfl, rfl, rfl⟩, hp, h1, h2⟩ := ht
       obtain ⟨rfl, _, _⟩ := unBri_ok hb
       obtain rfl := Option.some.inj hr2
       refine ⟨⟨⟨b, ps, out, fl⟩, q, c, 0⟩, ⟨Nat.zero_le _, hp, h1, h2⟩, rfl, by show 6 ≤ 8; decide, fun E => ⟨renE E E 2 3 4 5, renR 2 3 4 5, renE_upto _ _ (by decide) (by decide), ?_, ?_, ?_⟩⟩
       · exact ⟨⟨_, rfl, rfl⟩, ⟨_, rfl, numOf_den hc _ _⟩, ⟨_, rfl, rfl⟩, ⟨_, rfl, rfl⟩, trivial⟩
       · rw [hS']
         exact ren_bs (s := ⟨b, ps, out, fl⟩) rfl (fun _ => rfl) (by decide) (Env.upto.refl _ _) rfl rfl rfl rfl
       · exact ren_inj (s := ⟨b, ps, out, fl⟩) (by decide) (by decide)
     · cases ho
   · cases ho
 · intro x hI
   obtain ⟨hi, hp, h1, h2⟩ := hI
   have hsel := congrArg Out.sel (out_run S x.s x.q x.c x.i)
   rcases Nat.lt_or_ge x.i x.s.ps.length with hlt | hge
   · have hlt' : (x.i : Int) < x.s.ps.length := by omega
     obtain ⟨g1, g2, g3⟩ := steps8 (x.i : Int) (x.s, x.c)
     dsimp only at g1 g2 g3
     have hok : inOk x.s x.i = true := by
       have e1 : x.s.out.length + 8 ≤ 134217727 := by omega
       have e2 : x.s.fl.length + 8 ≤ 134217727 := by omega
       have e3 : (0 : Int) ≤ x.i := by omega
       simp [inOk, hlt, hp, e1, e2, e3]
     simp only [Out.sel, hlt', hok, decide_true, if_true] at hsel
     refine ⟨_, _, _, _, hsel, .inl ⟨rfl, ⟨(stepsL (x.i : Int) machs (x.s, x.c)).1, x.q, (stepsL (x.i : Int) machs (x.s, x.c)).2, x.i + 1⟩, ⟨by show x.i + 1 ≤ _; rw [g1]; exact hlt, by show _ < _; rw [g1]; exact hp, ?_, ?_⟩, ?_, ?_, fun E1 => ⟨renE E1 E1 2 3 5 6, renR 2 3 5 6, renE_upto _ _ (by decide) (by decide), ?_, ?_, ?_⟩⟩⟩
     · show (stepsL (x.i : Int) machs (x.s, x.c)).1.out.length + 8 * ((stepsL (x.i : Int) machs (x.s, x.c)).1.ps.length - (x.i + 1)) ≤ _
       rw [g1]; omega
     · show (stepsL (x.i : Int) machs (x.s, x.c)).1.fl.length + 8 * ((stepsL (x.i : Int) machs (x.s, x.c)).1.ps.length - (x.i + 1)) ≤ _
       rw [g1]; omega
     · show (stepsL (x.i : Int) machs (x.s, x.c)).1.ps.length - (x.i + 1) < _
       rw [g1]; omega
     · unfold outRes
       dsimp only
       rw [g1, show x.s.ps.length - x.i = (x.s.ps.length - (x.i + 1)) + 1 from by omega]
       rfl
     · have hw : IntKind.i64.wrap ((x.i : Int) + 1) = ((x.i + 1 : Nat) : Int) := wrap_succ hlt (by omega)
       refine ⟨⟨_, rfl, rfl⟩, ⟨_, rfl, rfl⟩, ⟨_, rfl, ?_⟩, ⟨_, rfl, ?_⟩, trivial⟩
       · simp only [SV.den, g1]
       · simp only [SV.den, hw]
     · rw [hS']
       exact ren_bs (s := (stepsL (x.i : Int) machs (x.s, x.c)).1) rfl (fun _ => rfl) (by decide) (Env.upto.refl _ _) rfl rfl rfl rfl
     · exact ren_inj (s := (stepsL (x.i : Int) machs (x.s, x.c)).1) (by decide) (by decide)
   · have hle : ¬ (x.i : Int) < x.s.ps.length := by omega
     simp only [Out.sel, hle, decide_false, if_false, Bool.false_eq_true] at hsel
     refine ⟨_, _, _, _, hsel, .inr ⟨by simp, rfl, fun E0 E1 hu => ⟨renE E0 E1 6 7 2 3, renR 6 7 2 3, renE_upto _ _ (by decide) (by decide), ?_, ?_, ?_⟩⟩⟩
     all_goals (unfold outRes; rw [show x.s.ps.length - x.i = 0 from by omega]; simp only [portsL])
     · exact ⟨⟨_, rfl, by simp [SV.den, Env.place, renE, hu 0 (by decide)]⟩, ⟨_, rfl, rfl⟩, trivial⟩
     · rw [hS']
       exact ren_bs (s := x.s) rfl (fun _ => rfl) (by decide) hu rfl rfl rfl rfl
     · exact ren_inj (s := x.s) (by decide) (by decide)
def roundF (s : BS) : BS × Int := portsL (selF s).1.ps.length 0 ((selF s).1, if (selF s).2 = true then 1 else 0)
theorem selF_len (s : BS) : (selF s).1.ps.length = s.ps.length ∧ (selF s).1.out = s.out ∧ (selF s).1.fl = s.fl := by
 unfold selF
 split
 · exact ⟨mapI_length _ _ _, rfl, rfl⟩
 · exact ⟨rfl, rfl, rfl⟩
theorem roundF_len (s : BS) : (roundF s).1.ps.length = s.ps.length ∧ (roundF s).1.out.length ≤ s.out.length + 8 * s.ps.length ∧ (roundF s).1.fl.length ≤ s.fl.length + 8 * s.ps.length := by
 obtain ⟨h1, h2, h3⟩ := selF_len s
 have := portsL_len (selF s).1.ps.length 0 ((selF s).1, if (selF s).2 = true then 1 else 0)
 unfold roundF
 rw [h1] at this ⊢
 rw [h2, h3] at this
 exact this
def roomR (s : BS) : Bool := decide (s.ps.length < 134217728 ∧ s.out.length + 8 * s.ps.length < 134217727 ∧ s.fl.length + 8 * s.ps.length < 134217727)
def gRound : CanonFn := gBS argN (fun s _ => roomR s) fun s _ => ((roundF s).1, .v (.int .i64 (roundF s).2))
def selOk (s : BS) : Bool := decide (s.ps.length = s.ps.length ∧ s.out.length = s.out.length ∧ s.fl.length = s.fl.length) && (roomB s && decide ((selF s).1.ps.length = s.ps.length))
def outOk (n : Nat) (s : BS) : Bool := decide (n = s.ps.length ∧ s.out.length = s.out.length ∧ s.fl.length = s.fl.length ∧ (n : Int) = s.ps.length) && decide (s.ps.length < 134217728 ∧ s.out.length + 8 * s.ps.length ≤ 134217727 ∧ s.fl.length + 8 * s.ps.length ≤ 134217727)
theorem round_run (S : Stat) (s : BS) (q : Bool) : trimR [0, 1, 6, 7] (inline (withLoops (cR (S.wt 0)) [(5, gOut), (8, noLoop)]) 60 (fnOf 26) [.ptr 0 0] (bsH s q) 4) =
   .ite (selOk s) (.ite (selF s).2 (.ite (outOk s.ps.length (selF s).1) (.ret (.v (.int .i64 (portsL (selF s).1.ps.length 0 ((selF s).1, 1)).2), finH (portsL (selF s).1.ps.length 0 ((selF s).1, 1)).1 q 6 7, 0)) .bad)
     (.ite (outOk s.ps.length (selF s).1) (.ret (.v (.int .i64 (portsL (selF s).1.ps.length 0 ((selF s).1, 0)).2), finH (portsL (selF s).1.ps.length 0 ((selF s).1, 0)).1 q 6 7, 0)) .bad)) .bad := by kernel_rfl
theorem round_ok : CanonOk 26 gRound := by
 refine whole_ok Tryz.func26 (by kernel_rfl) fun S s q rest a ha hC => ?_
 obtain rfl := argN_some ha
 simp only [roomR, decide_eq_true_eq] at hC
 obtain ⟨h1, h2, h3⟩ := selF_len s
 have hA : selOk s = true := by
   have e1 : s.out.length < 134217727 := by omega
   have e2 : s.fl.length < 134217727 := by omega
   simp [selOk, roomB, h1, hC.1, e1, e2]
 have hB : outOk s.ps.length (selF s).1 = true := by
   have e1 : s.out.length + 8 * s.ps.length ≤ 134217727 := by omega
   have e2 : s.fl.length + 8 * s.ps.length ≤ 134217727 := by omega
   simp [outOk, h1, h2, h3, hC.1, e1, e2]
 have hlen := (roundF_len s).1
 have hgood : GoodCtx (withLoops (cR (S.wt 0)) [(5, gOut), (8, noLoop)]) (fnOf 26) := good_loops cR_fam _ _ (by kernel_rfl) rfl fun i k g hg => by
   match i, hg with
   | 0, hg => obtain ⟨rfl, rfl⟩ := Prod.mk.inj (Option.some.inj hg); exact gOut_ok S _
   | 1, hg => obtain ⟨rfl, rfl⟩ := Prod.mk.inj (Option.some.inj hg); exact noLoop_ok
 have hsel := congrArg Out.sel (round_run S s q)
 simp only [Out.sel, hA, hB, if_true] at hsel
 have key : (trimR [0, 1, 6, 7] (inline (withLoops (cR (S.wt 0)) [(5, gOut), (8, noLoop)]) 60 (fnOf 26) [.ptr 0 0] (bsH s q) 4)).sel = some (.v (.int .i64 (roundF s).2), finH (roundF s).1 q 6 7, 0) := by
   rw [hsel]
   unfold roundF
   split <;> rfl
 obtain ⟨H1, m1, hrun, hget⟩ := trimR_sel key
 refine ⟨_, 60, [], _, H1, m1, 6, 7, hgood, cR_fam.S _, fun E => rfl, hrun, fun S' E' => ?_⟩
 refine told_bs (by decide) (fun _ => rfl) (hget 0 _ rfl) ?_ (hget 1 _ rfl) rfl (.inr ⟨hget 6 _ rfl, rfl⟩) (.inr ⟨hget 7 _ rfl, rfl⟩)
 rw [hlen]
 exact bri_mov _ _ _ _ _ _ 6 7 q
end
end Go.Proofs.YtjemfkoamfnofaaGreat
