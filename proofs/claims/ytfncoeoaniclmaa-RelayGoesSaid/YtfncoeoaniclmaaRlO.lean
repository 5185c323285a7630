/- relay.Out: where a frame goes. -/
import Derived.Test.YtfncoeoaniclmaaRlI
import Derived.Test.YtfncoeoaniclmaaFdbW
import Derived.Test.YtfncoeoaniclmaaRlX
import Derived.Shelf.Abstract
set_option linter.unusedVariables false
set_option maxRecDepth 100000
namespace Go.Proofs.Ytfncoeoaniclmaa
open Go Go.RowKit

noncomputable def psA (S : Stat) : List (Nat × ReadFn) := auto ps0 S 44 :: []
theorem psA_ok (S : Stat) : ReadsOk S [] (psA S) := .auto ps0_ok <| ReadsOk.nil S []
noncomputable def psX (S : Stat) : List (Nat × ReadFn) := [(69, specRead (spc gIx) S 1)]
theorem psX_ok (S : Stat) : ReadsOk S [] (psX S) := .cons (specRead_ok (fun S' => spc_ok index_ok S') 1) <| ReadsOk.nil S []
noncomputable def psOt (S : Stat) : List (Nat × ReadFn) := (20, specRead (spc gFind) S 3) :: auto psA S 33 :: auto ps0 S 45 :: auto ps0 S 56 :: auto psX S 58 :: psA S
theorem psOt_ok (S : Stat) : ReadsOk S [] (psOt S) := .cons (specRead_ok (fun S' => spc_ok find_ok S') 3) <| .auto psA_ok <| .auto ps0_ok <| .auto ps0_ok <| .auto psX_ok <| psA_ok S
noncomputable def cTh (S : Stat) : Ctx := mkCtx S [] [] [] 20 2
theorem cTh_fam : Fam cTh := mk_fam (fun _ => []) (fun _ => []) 20 2 (fun S f g h => by cases h) (fun S f g h => by cases h)
noncomputable def ssOt (S : Stat) : List (Nat × SpecFn) := (57, inl (cTh S) 20 57) :: (18, spc gLearn S) :: []
theorem ssOt_ok (S : Stat) : ∀ f g, (f, g) ∈ ssOt S → SpecOk S [] f g := specs_cons (inl_ok (cTh_fam.full S) (cTh_fam.S S) (cTh_fam.win S) (cTh_fam.loop S) (fnOf_eq Try.func57) (by kernel_rfl)) <| specs_cons (spc_ok learn_ok S) <| specs_nil
noncomputable def cOt (S : Stat) : Ctx := mkCtx S [] (psOt S) (ssOt S) 20 6
theorem cOt_fam : Fam cOt := fam_of psOt_ok ssOt_ok
/-- the database may be written, the ports not -/
def Stat.r2 (S : Stat) : Stat := { sl := S.sl, ix := fun _ => 0, ro := fun k => Nat.beq k 2 }
structure OtP where
  b : Bri
  q : Bool
  n : Nat
  ps : List Port
  x : Int
  y : Int
  c : Nat
  l : PL
  i : Int
  s : Int
  d : Int
def OtP.hp (p : OtP) (c : Nat) (l : PL) : Heap := [(0, .agg [.v (.int .i64 p.x), .v (.int .i64 p.y), .mp 1]), (1, .tab (.place .u64 c l)), (2, .rows (.port p.ps))]
def OtP.args (p : OtP) : List SV := [p.b.sv (.slr 2 p.n 2 p.q) (.sl 0) (.sl 1), .ptr 0 0, .v (.int .i64 p.i), .v (.int .u64 p.s), .v (.int .u64 p.d)]
def OtP.st (p : OtP) : St := ⟨argSlots p.args 0, p.hp p.c p.l, 3⟩
noncomputable abbrev otN : Nat := (fnOf 31).ntmps
theorem ot_code : codeOf 31 = .seq (.region 0 (regL 31 0).toArray false) (.seq (.seq (.region 1 (regL 31 1).toArray false) (.cond (.tmp 36) (.seq (.region 2 (regL 31 2).toArray false) .ret) .skip)) (tailC 2 (codeOf 31))) := by kernel_rfl
noncomputable abbrev otO : List Oper := regL 31 1
def OtP.bx (p : OtP) (q : SV) : SV := p.b.sv q (.sl 0) (.sl 1)
def OtP.sl (p : OtP) (r : Slots) : Slots := [(1, [], .ptr 0 0), (2, [], .v (.int .i64 p.i)), (3, [], .v (.int .u64 p.s)), (4, [], .v (.int .u64 p.d)), (5, [], .ptr 3 0), (10, [], .v (.slice none 0 0))] ++ r
def OtP.h3 (p : OtP) (c : Nat) (l : PL) : Heap := (3, p.bx (.slr 2 p.n 2 p.q)) :: p.hp c l
def OtP.at (p : OtP) (r : Slots) : St := ⟨p.sl r, p.h3 p.c p.l, 4⟩
def otT : List Nat := [1, 2, 3, 4, 5, 10, 24, 36]
theorem ot_0 (S : Stat) (p : OtP) : trimO otT 4 (exec (cOt S.r2) otN 20 (.region 0 (regL 31 0).toArray false) p.st) = .ret (.nrm, p.at []) := by kernel_rfl
def OtP.out (p : OtP) : Bool := decide (p.i < 0) || decide (p.i ≥ p.n)
def OtP.in (p : OtP) : Bool := decide (0 ≤ p.i) && decide (p.i < p.n)
def resF (d : Int) : Bool := (addrF d).fdiv (2 ^ min (Int.toNat 4) IntKind.u64.bits) == 103282638848
def OtP.pt (p : OtP) : Port := p.ps.getD p.i.toNat Port.dflt
theorem ot_1 (S : Stat) (p : OtP) : trimR otT 4 (region (cOt S.r2) otN otO (otO.take 10) (p.at [])) = .ret (p.at [(24, [], .v (.bool p.out))]) := by kernel_rfl
theorem ot_1t (S : Stat) (p : OtP) : trimR otT 4 (region (cOt S.r2) otN otO (otO.drop 10) (p.at [(24, [], .kb true)])) = .ret (p.at [(24, [], .kb true), (36, [], .kb true)]) := by kernel_rfl
theorem ot_1f (S : Stat) (p : OtP) : Out.way [true, true] (trimR otT 4 (region (cOt S.r2) otN otO (otO.drop 10) (p.at [(24, [], .kb false)]))) = some ([p.in, decide (p.i.toNat < p.ps.length)], p.at [(24, [], .kb false), (36, [], .v (.bool (!p.pt.enabled || resF p.d)))]) := by kernel_rfl
theorem ot_2 (S : Stat) (p : OtP) (r : Slots) : trimO otT 4 (exec (cOt S.r2) otN 20 (.cond (.tmp 36) (.seq (.region 2 (regL 31 2).toArray false) .ret) .skip) (p.at [(36, [], .kb true)])) = .ret (.ret, p.at [(36, [], .kb true)]) := by kernel_rfl
theorem ot_2n (S : Stat) (p : OtP) (b : Bool) : trimO [1, 2, 3, 4, 5, 10] 4 (exec (cOt S.r2) otN 20 (.cond (.tmp 36) (.seq (.region 2 (regL 31 2).toArray false) .ret) .skip) (p.at [(36, [], .v (.bool b))])) = .ite b (.ret (.ret, p.at [])) (.ret (.nrm, p.at [])) := by kernel_rfl
noncomputable def ot3 (S : Stat) (p : OtP) : Out (Ex × St) := trimO [1, 2, 3, 4, 5, 10, 11] 5 (exec (cOt S.r2) otN 20 (headC 3 (tailC 2 (codeOf 31))) (p.at []))
def OtP.lt (p : OtP) : Bool := decide (p.i.toNat < p.ps.length)
def OtP.go (p : OtP) : Bool := decide (1 ≤ p.l.length ∧ p.l.length ≤ 67108864) || (badF p.s p.i || !(fullF p.x p.l p.s))
def OtP.at4 (p : OtP) (c : Nat) (l : PL) : St := ⟨p.sl [(11, [], .ptr 4 0)], (4, .v (.slice none 0 0)) :: p.h3 c l, 5⟩
def OtP.at3 (p : OtP) (c : Nat) (l : PL) : St := ⟨p.sl [], p.h3 c l, 5⟩
theorem ot_ln (S : Stat) (p : OtP) : Out.way [true, true, true, true, true, true, false] (ot3 S p) = some ([p.in, p.lt, p.pt.flags.learning, p.go, p.in, p.lt, !(openP p.pt)], (.nrm, p.at4 (learnC p.x p.y p.c p.l p.s p.i) (learnL p.x p.y p.c p.l p.s p.i))) := by kernel_rfl
theorem ot_lr (S : Stat) (p : OtP) : Out.way [true, true, true, true, true, true, true] (ot3 S p) = some ([p.in, p.lt, p.pt.flags.learning, p.go, p.in, p.lt, !(openP p.pt)], (.ret, p.at3 (learnC p.x p.y p.c p.l p.s p.i) (learnL p.x p.y p.c p.l p.s p.i))) := by kernel_rfl
theorem ot_nn (S : Stat) (p : OtP) : Out.way [true, true, false, true, true, false] (ot3 S p) = some ([p.in, p.lt, p.pt.flags.learning, p.in, p.lt, !(openP p.pt)], (.nrm, p.at4 p.c p.l)) := by kernel_rfl
theorem ot_nr (S : Stat) (p : OtP) : Out.way [true, true, false, true, true, true] (ot3 S p) = some ([p.in, p.lt, p.pt.flags.learning, p.in, p.lt, !(openP p.pt)], (.ret, p.at3 p.c p.l)) := by kernel_rfl
def OtP.at8 (p : OtP) (c : Nat) (l : PL) : St := ⟨p.sl [(11, [], .ptr 4 0), (57, [], .fn (.func 68) [] [.ptr 5 0, .ptr 6 0])], (6, .v (.int .i64 p.i)) :: (5, p.bx (.slr 2 p.n 2 p.q)) :: (4, .v (.slice none 0 0)) :: p.h3 c l, 7⟩
theorem ot_8 (S : Stat) (p : OtP) (c : Nat) (l : PL) : trimO [1, 2, 3, 4, 5, 10, 11, 57] 7 (exec (cOt S.r2) otN 20 (.region 8 (regL 31 8).toArray false) (p.at4 c l)) = .ret (.nrm, p.at8 c l) := by kernel_rfl
/-- the regions of the first range over a function: what is assigned, its body -/
def rangeOf : Code → Option (Code × Code)
  | .rangeFunc _ _ a b => some (a, b)
  | .seq x y => (match rangeOf x with | some r => some r | none => rangeOf y)
  | .cond _ x y => (match rangeOf x with | some r => some r | none => rangeOf y)
  | .block _ x => rangeOf x
  | .loop x => rangeOf x
  | .scope x => rangeOf x
  | _ => none
noncomputable def otA : List Oper := match rangeOf (codeOf 31) with | some r => (regsOf r.1).headD [] | none => []
noncomputable def otB : List Oper := match rangeOf (codeOf 31) with | some r => (regsOf r.2).headD [] | none => []
theorem ot_code5 : tailC 5 (codeOf 31) = .seq (.seq (.region 8 (regL 31 8).toArray false) (.block 0 (.rangeFunc (.tmp 57) #[58] (.region 9 otA.toArray false) (.block 1 (.region 10 otB.toArray false))))) (tailC 6 (codeOf 31)) := by kernel_rfl
/-! ### a round: one more is appended -/
def OtP.h7 (p : OtP) (c : Nat) (l : PL) (b k : Nat) : Heap := (6, .v (.int .i64 p.i)) :: (5, p.bx (.slr 2 p.n 2 p.q)) :: (4, tok b k) :: p.h3 c l
def OtP.bst (p : OtP) (c : Nat) (l : PL) (b : Nat) (nx : Nat) (r : Slots) (xs : List Int) : BSt := ⟨⟨p.sl ([(11, [], .ptr 4 0), (57, [], .fn (.func 68) [] [.ptr 5 0, .ptr 6 0])] ++ r), p.h7 c l b xs.length, nx⟩, b, .int .i64 xs⟩
def trimBs (ts : List Nat) (nx : Nat) (o : Out BSt) : Out BSt := o.bind fun s => .ret ⟨⟨keepT s.st.slots ts, keepH nx s.st.heap, s.st.next⟩, s.b, s.R⟩
def otSz (p : OtP) : Bool := Nat.beq (SV.rows (.port p.ps)).size (SV.rows (.port p.ps)).size && true
theorem otSz_ok (p : OtP) : otSz p = true := by unfold otSz; rw [Nat.beq_refl]; rfl
theorem ot_push (S : Stat) (p : OtP) (c : Nat) (l : PL) (xs : List Int) (x : Int) : Out.way [true, true, true] (trimBs [1, 2, 3, 4, 5, 10, 11, 57] 7 (regionB (cOt S.r2) otN 3 otB otB [] (p.bst c l 7 8 [(12, [], .v (.int .i64 x))] xs))) =
    some ([otSz p, decide (xs.length = xs.length ∧ xs.length ≤ 134217727), otSz p], p.bst c l 9 10 [] (xs ++ [x])) := by kernel_rfl
theorem trimBs_sel {ts : List Nat} {nx : Nat} {o : Out BSt} {s1 : BSt} (h : (trimBs ts nx o).sel = some s1) : ∃ s0, o.sel = some s0 ∧ s1 = ⟨⟨keepT s0.st.slots ts, keepH nx s0.st.heap, s0.st.next⟩, s0.b, s0.R⟩ := by
  unfold trimBs at h
  rw [Out.sel_bind] at h
  cases h0 : o.sel with
  | none => rw [h0] at h; cases h
  | some r =>
    rw [h0] at h
    simp only [Option.bind_some, Out.sel, Option.some.injEq] at h
    exact ⟨r, rfl, h.symm⟩
theorem otA_ok : otA = [{ dst := some 12, op := .assign (.tmp 58), type := 3, pos := "relay.go:47", after := #[], guard := none }] := by kernel_rfl
theorem otB_nd : (otB.all fun o => match o.op with | .defer _ => false | _ => true) = true := by kernel_rfl
theorem ot_puts (p : OtP) (c : Nat) (l : PL) (xs : List Int) (x : Int) : ((putSlot (p.bst c l 7 8 [] xs).st.slots otN (some 58) [] (some (.v (.int .i64 x)))).bind fun s => putSlot s otN (some 12) [] (some (.v (.int .i64 x)))).map (fun s => keepT s [1, 2, 3, 4, 5, 10, 11, 57, 12]) = some (p.bst c l 7 8 [(12, [], .v (.int .i64 x))] xs).st.slots := by kernel_rfl
theorem ot_size : otN = 82 := by kernel_rfl
theorem h7_at8 {p : OtP} {c : Nat} {l : PL} {b n k : Nat} {x : SV} (h : (p.h7 c l b n).get k = some x) : k < 7 ∧ ∃ y, (p.at8 c l).heap.get k = some y ∧ y.size = x.size := by
  unfold OtP.h7 OtP.h3 OtP.hp at h
  unfold OtP.at8 OtP.h3 OtP.hp
  simp only [Heap.get_cons] at h ⊢
  repeat' split at h
  all_goals first | (injection h with h; subst h; subst_vars; exact ⟨by omega, _, rfl, rfl⟩) | cases h
/-! ### behind the range -/
def OtP.stT (p : OtP) (c : Nat) (l : PL) (L : List Int) : St := ⟨(p.bst c l 7 8 [] L).st.slots, (7, .rows (.int .i64 L)) :: p.h7 c l 7 L.length, 8⟩
noncomputable def otT6 (S : Stat) (p : OtP) (c : Nat) (l : PL) (L : List Int) : Out (Ex × St) := trimO [10] 9 (exec (cOt S.r2) otN 20 (tailC 6 (codeOf 31)) (p.stT c l L))
def otAll (p : OtP) (l : PL) : Bool := !(hasK l (addrF p.d)) || manyF p.d
theorem ot_t1 (S : Stat) (p : OtP) (c : Nat) (l : PL) (L : List Int) : Out.way [true] (otT6 S p c l L) = some ([otAll p l], (.ret, ⟨[(10, [], tok 7 L.length)], (p.stT c l L).heap, 9⟩)) := by kernel_rfl
def otHas (p : OtP) (l : PL) (L : List Int) : Bool := decide (idxI (portF l p.d) L 0 ≥ 0)
theorem ot_t2 (S : Stat) (p : OtP) (c : Nat) (l : PL) (L : List Int) : Out.way [false, true, true] (otT6 S p c l L) = some ([otAll p l, decide (L.length = L.length ∧ L.length ≤ 67108864), !(otHas p l L)], (.ret, ⟨[(10, [], .v (.slice none 0 0))], (p.stT c l L).heap, 9⟩)) := by kernel_rfl
theorem ot_t3 (S : Stat) (p : OtP) (c : Nat) (l : PL) (L : List Int) : Out.way [false, true, false] (otT6 S p c l L) = some ([otAll p l, decide (L.length = L.length ∧ L.length ≤ 67108864), !(otHas p l L)], (.ret, ⟨[(10, [], .slc 8 0 1 1)], (8, .agg [.v (.int .i64 (portF l p.d))]) :: (p.stT c l L).heap, 9⟩)) := by kernel_rfl
theorem ot_plain : plainC (tailC 6 (codeOf 31)) = true := by kernel_rfl

open Go Go.RowKit

section
variable {S : Stat} {p : OtP} {c : Nat} {l : PL} {w0 : World} {M : Nat → Nat → Prop} {E : Env} {a : Act} {w : World}
def otI (S : Stat) (p : OtP) (c : Nat) (l : PL) (w0 : World) (M : Nat → Nat → Prop) (E : Env) (a : Act) : List Int → World → Prop :=
  fun xs W => ∃ E', Env.upto 7 E E' ∧ SatB (cOt S.r2) otN w0 M 3 E' (p.bst c l 7 8 [] xs) a W
/-- how the function that is gone over sees the chunks -/
def itE (E : Env) : Env := ⟨fun k => match k with | 0 => E.ad 2 | 1 => E.ad 5 | 2 => E.ad 6 | k => E.ad k, fun _ => E.cp 2⟩
theorem ot_itF (hn : p.ps.length = p.n) {xs : List Int} {nb : Nat} {H : Heap} (h2 : H.get 2 = some (.rows (.port p.ps))) (h5 : H.get 5 = some (p.bx (.slr 2 p.n 2 p.q))) (h6 : H.get 6 = some (.v (.int .i64 p.i))) {W : World} (hs : HS S.r2 E H W) (l' : Nat) :
    ItF S (itE E) ⟨p.b, p.q, p.ps.length, p.ps, p.i, l'⟩ W := by
  intro k x hk hp
  unfold ItP.hp at hk
  simp only [Heap.get_cons] at hk
  repeat' split at hk
  · rename_i hk1; subst hk1; injection hk with hk; subst hk
    have := hs.at_ 5 _ h5 (by simp [OtP.bx, Bri.sv, SV.size, SV.sizes]; omega)
    have e : (p.bx (.slr 2 p.n 2 p.q)).cells S.r2 E = (p.b.sv (.slr 0 p.ps.length 0 p.q) (.sl 0) (.sl 1)).cells (S.rd 0 3) (itE E) := by
      simp [OtP.bx, Bri.sv, SV.cells, SV.cellss, hn, itE, Env.place, Stat.r2, Stat.rd]
    rw [e] at this
    exact this
  · rename_i hk1; subst hk1; injection hk with hk; subst hk
    exact hs.at_ 6 _ h6 Nat.one_pos
  · rename_i hk1; subst hk1; injection hk with hk; subst hk
    exact hs.at_ 2 _ h2 hp
  · cases hk
theorem otI_own (sat : Sat (cOt S.r2) otN w0 M E (p.at8 c l) a w) : OwnFrom w.heap.size (otI S p c l w0 M E a) := by
  intro xs W W' row hI hg hr
  obtain ⟨E', hu, satB⟩ := hI
  have hS : (cOt S.r2).S = S.r2 := cOt_fam.S _
  have hhid : ∀ g, w.heap.size ≤ g → Hid (p.bst c l 7 8 [] xs).st E' g := by
    intro g hge k x hk hp he
    obtain ⟨hk7, y, hy, hsz⟩ := h7_at8 hk
    have := (sat.hs.at_ k y hy (by omega)).lt
    rw [(hu k hk7).1] at he
    omega
  refine ⟨E', hu, satB.sat.grown hg (fun g hgr => ?_), bl_blk satB.bld.own (fun g hgo => ?_), satB.bld.lt, satB.bld.hid, satB.bld.ad⟩
  · obtain ⟨h1, _⟩ := hr g hgr
    exact ⟨Nat.le_trans sat.fr.size h1, hhid g h1⟩
  · refine hg.block g (satB.bld.own.lt g hgo).2 fun he => ?_
    obtain ⟨_, o, ho, hc⟩ := hr g he.symm
    rcases satB.bld.own.2 with ⟨h0, _⟩ | ⟨g1, cap1, cur1, h0, _, h3, _⟩
    · rw [h0] at hgo; cases hgo
    · rw [h0] at hgo
      simp only [Value.ownBlock, Option.some.injEq] at hgo
      subst hgo
      rw [ho] at h3
      injection h3 with h3
      subst h3
      cases hc
theorem otI_start (sat : Sat (cOt S.r2) otN w0 M E (p.at8 c l) a w) : otI S p c l w0 M E a [] w := by
  obtain ⟨E2, hu2, hc2, satB⟩ := SatB.start (e := 3) (R := .int .i64 []) sat rfl rfl
  have hu2' : Env.upto 7 E E2 := hu2
  refine ⟨E2, hu2', satB.re2 ⟨⟨⟨_, rfl, rfl⟩, ⟨_, rfl, rfl⟩, ⟨_, rfl, rfl⟩, ⟨_, rfl, rfl⟩, ⟨_, rfl, rfl⟩, ⟨_, rfl, rfl⟩, ⟨_, rfl, rfl⟩, ⟨_, rfl, rfl⟩, trivial⟩, ⟨⟨_, rfl, rfl, trivial, rfl⟩, ⟨_, rfl, rfl, trivial, rfl⟩, ⟨_, rfl, ?_, trivial, rfl⟩, ⟨_, rfl, rfl, trivial, rfl⟩, ⟨_, rfl, rfl, trivial, rfl⟩, ⟨_, rfl, rfl, trivial, rfl⟩, ⟨_, rfl, rfl, trivial, rfl⟩, trivial⟩⟩ rfl (cOt_fam.win _) rfl ⟨rfl, rfl⟩ (Nat.lt_succ_self _)⟩
  have hc2' : E2.cp 7 = (0, true) := hc2
  simp [tok, SV.cells, hc2']
def otAct (a : Act) (x : Int) : Act := { tmps := (a.tmps.setIfInBounds 58 (.int .i64 x)).setIfInBounds 12 (.int .i64 x), defers := [] }
theorem otI_body (sat : Sat (cOt S.r2) otN w0 M E (p.at8 c l) a w) (hn : p.ps.length = p.n) (hn2 : p.n ≤ 67108864) {lp n : Nat} {xs : List Int} {x : Int} {W : World} (hI : otI S p c l w0 M E a xs W) (hlen : xs.length < p.ps.length) {Ix : Code → List Int → World → Prop} {Kp : World → World → Prop}
    (hKp : ∀ W W' E' H, Env.upto 7 E E' → HS S.r2 E' H W' → H.get 2 = some (.rows (.port p.ps)) → H.get 5 = some (p.bx (.slr 2 p.n 2 p.q)) → H.get 6 = some (.v (.int .i64 p.i)) → Kp W W') :
    (Code.block 1 (.region 10 otB.toArray false)).wpIn (Fence.wide.inRound lp) n Try.prog (ownPostG w.heap.size Kp (otI S p c l w0 M E a) Ix (xs ++ [x]) W) (otAct a x) W := by
  obtain ⟨E1, hu1, satB⟩ := hI
  have hS : (cOt S.r2).S = S.r2 := cOt_fam.S _
  have hfull := cOt_fam.full S.r2
  -- the loop's variable
  have hact : otAct a x = (a.put (some 58) (.int .i64 x)).put (some 12) (.int .i64 x) := by
    cases a with
    | mk t d =>
      have : d = [] := sat.defers
      subst this; rfl
  have hnil : ∀ a : Act, PathHolds a [] := fun _ _ _ hm => by cases hm
  have hv : ∀ E : Env, (Value.int .i64 x) = vOf (cOt S.r2).S E (some (.v (.int .i64 x))) := fun E => rfl
  obtain ⟨s2, hs2, hk2⟩ := Option.map_eq_some_iff.1 (ot_puts p c l xs x)
  obtain ⟨s1, hp1, hp2⟩ := Option.bind_eq_some_iff.1 hs2
  have so1 := putSlot_ok hp1 satB.sat.slots satB.sat.size (v := .int .i64 x) (fun _ => hv E1) (fun hh => absurd (hnil _) hh)
  have so2 := putSlot_ok hp2 so1 (by rw [Act.put_size]; exact satB.sat.size) (v := .int .i64 x) (fun _ => hv E1) (fun hh => absurd (hnil _) hh)
  have so : SlotsOk (cOt S.r2).S E1 (p.bst c l 7 8 [(12, [], .v (.int .i64 x))] xs).st.slots (otAct a x) := by
    rw [hact, ← hk2]
    exact fun d q y hy => so2 d q y (keepT_get hy)
  have satB1 : SatB (cOt S.r2) otN w0 M 3 E1 (p.bst c l 7 8 [(12, [], .v (.int .i64 x))] xs) (otAct a x) W :=
    ⟨⟨so, satB.sat.hs, satB.sat.own, satB.sat.fr, satB.sat.win, satB.sat.winb, by rw [hact, Act.put_size, Act.put_size]; exact satB.sat.size, rfl⟩, ⟨satB.bld.own, satB.bld.lt, satB.bld.hid, satB.bld.ad⟩⟩
  have hlen2 : decide (xs.length = xs.length ∧ xs.length ≤ 134217727) = true := decide_eq_true ⟨rfl, by omega⟩
  obtain ⟨s0, h0, e0⟩ := trimBs_sel (Out.way_sel (ot_push S p c l xs x) (by rw [otSz_ok, hlen2]))
  have hnd : ∀ o ∈ otB, ∀ c, o.op ≠ .defer c := by
    intro o ho c hc
    have := List.all_eq_true.1 otB_nd o ho
    rw [hc] at this; cases this
  refine wpIn_block ?_
  generalize hQ : Exit.inBlock 1 (ownPostG w.heap.size Kp (otI S p c l w0 M E a) Ix (xs ++ [x]) W) = Qb
  have hQn : ∀ a' w', ownPostG w.heap.size Kp (otI S p c l w0 M E a) Ix (xs ++ [x]) W .normal a' w' → Qb .normal a' w' := fun a' w' h => by rw [← hQ]; exact h
  clear hQ
  have hwp : wpList Try.prog otB.toArray (fun e a' w' => e = .normal ∧ Qb .normal a' w') otB (otAct a x) W := by
    refine regionB_ok hfull (Q := fun e a' w' => e = .normal ∧ Qb .normal a' w') otB otB [] _ s0 _ W E1 satB1 h0 ?_
    intro E2 a2 W2 hu2 _ satB2 hq
    refine ⟨rfl, hQn _ _ ?_⟩
    have hu12 : Env.upto 7 E E2 := hu1.trans (show Env.upto 7 E1 E2 from fun k hk => hu2 k (by show k < 8; omega)) (Nat.le_refl _)
    -- what is left, told anew
    have hb0 : s0.b = 9 := (congrArg BSt.b e0).symm
    have hR0 : s0.R = .int .i64 (xs ++ [x]) := (congrArg BSt.R e0).symm
    have hH0 : keepH 7 s0.st.heap = p.h7 c l 9 (xs ++ [x]).length := (congrArg (fun s => s.st.heap) e0).symm
    have hg : ∀ k y, (p.h7 c l 9 (xs ++ [x]).length).get k = some y → s0.st.heap.get k = some y := fun k y h => keepH_get (by rw [hH0]; exact h)
    refine ⟨⟨hq.1, fun k o hk ho hc => ?_⟩, hKp W W2 E2 s0.st.heap hu12 (by rw [← hS]; exact satB2.sat.hs) (hg 2 _ rfl) (hg 5 _ rfl) (hg 6 _ rfl), ?_⟩
    · refine (hq.2 k o ho hc fun j y hj hp he => ?_).1
      obtain ⟨hj7, z, hz, hsz⟩ := h7_at8 hj
      have := (sat.hs.at_ j z hz (by omega)).lt
      rw [(hu1 j hj7).1] at he
      omega
    · obtain ⟨E3, hu3, ha3, hc3⟩ := Env.alias E2 7 9
      have hu13 : Env.upto 7 E E3 := hu12.trans hu3 (Nat.le_refl _)
      have e4 : (tok 9 (xs ++ [x]).length).cells S.r2 E2 = (tok 7 (xs ++ [x]).length).cells S.r2 E3 := by simp [tok, SV.cells, Env.place, ha3, hc3]
      have hcell : ∀ k y, k ≠ 4 → (p.h7 c l 9 (xs ++ [x]).length).get k = some y → y.bnd 7 = true → y.cells S.r2 E2 = y.cells S.r2 E3 := fun k y _ _ hb => (SV.cells_upto _ hu3 y hb).symm
      have hre : SatB (cOt S.r2) otN w0 M 3 E3 ⟨⟨[], p.h7 c l 7 (xs ++ [x]).length, 8⟩, 7, .int .i64 (xs ++ [x])⟩ a2 W2 := by
        refine satB2.re2 ⟨trivial, ⟨⟨_, hg 6 _ rfl, ?_, trivial, (hu3 6 (by omega)).1⟩, ⟨_, hg 5 _ rfl, ?_, trivial, (hu3 5 (by omega)).1⟩, ⟨_, hg 4 _ rfl, ?_, trivial, (hu3 4 (by omega)).1⟩, ⟨_, hg 3 _ rfl, ?_, trivial, (hu3 3 (by omega)).1⟩, ⟨_, hg 0 _ rfl, ?_, trivial, (hu3 0 (by omega)).1⟩, ⟨_, hg 1 _ rfl, ?_, trivial, (hu3 1 (by omega)).1⟩, ⟨_, hg 2 _ rfl, ?_, trivial, (hu3 2 (by omega)).1⟩, trivial⟩⟩ rfl (cOt_fam.win _) hR0.symm (by rw [hb0]; exact ⟨ha3, hc3⟩) (Nat.lt_succ_self _)
        all_goals rw [hS]
        · exact (SV.cells_upto _ hu3 _ rfl).symm
        · exact (SV.cells_upto _ hu3 _ rfl).symm
        · exact e4
        · exact (SV.cells_upto _ hu3 _ rfl).symm
        · exact (SV.cells_upto _ hu3 _ rfl).symm
        · exact (SV.cells_upto _ hu3 _ rfl).symm
        · exact (SV.cells_upto _ hu3 _ rfl).symm
      have hso : SlotsOk (cOt S.r2).S E3 (p.bst c l 7 8 [] (xs ++ [x])).st.slots a := by
        have h1 : SlotsOk (cOt S.r2).S E (p.at8 c l).slots a := sat.slots
        exact h1.upto hu13 rfl
      exact ⟨E3, hu13, ⟨⟨hso, hre.sat.hs, hre.sat.own, hre.sat.fr, hre.sat.win, hre.sat.winb, sat.size, sat.defers⟩, ⟨hre.bld.own, hre.bld.lt, hre.bld.hid, hre.bld.ad⟩⟩⟩
  have hin : wpListIn (Fence.wide.inRound lp) n Try.prog otB.toArray Qb otB (otAct a x) W := list_round (fun e a w h => h) otB _ W hnd hwp
  generalize otB = ops at hin
  exact wpIn_region_lit hin
/-- what is kept from round to round -/
def otK (S : Stat) (p : OtP) (E : Env) (W W' : World) : Prop := (∀ l', ItF S (itE E) ⟨p.b, p.q, p.ps.length, p.ps, p.i, l'⟩ W) → ∀ l', ItF S (itE E) ⟨p.b, p.q, p.ps.length, p.ps, p.i, l'⟩ W'
def otMark (D : Nat) : Deferred := { target := .collected D, args := #[] }
theorem ot_range (sat : Sat (cOt S.r2) otN w0 M E (p.at8 c l) a w) (hn : p.ps.length = p.n) (hn2 : p.n ≤ 67108864) {Q : Exit → Act → World → Prop}
    (hK : ∀ E' D W, Env.upto 7 E E' → w.heap.size ≤ D → W.heap[D]? = some (.deferred (some [])) → SatB (cOt S.r2) otN w0 M 3 E' (p.bst c l 7 8 [] (oth p.i 0 p.ps)) a W → Q .normal (Act.and a [otMark D]) W) :
    (Code.block 0 (.rangeFunc (.tmp 57) #[58] (.region 9 otA.toArray false) (.block 1 (.region 10 otB.toArray false)))).wp Try.prog Q a w := by
  have hS : (cOt S.r2).S = S.r2 := cOt_fam.S _
  have hnil : ∀ a : Act, PathHolds a [] := fun _ _ _ hm => by cases hm
  have hd : a.defers = [] := sat.defers
  have hsz : a.tmps.size = 82 := by rw [sat.size]; exact ot_size
  have h57 : a.eval (.tmp 57) = .func (.func 68) #[] #[.pointer (some ((itE E).place 1 0)), .pointer (some ((itE E).place 2 0))] := by
    have := (sat.slots 57 [] (.fn (.func 68) [] [.ptr 5 0, .ptr 6 0]) rfl).1 (hnil _)
    simp [Act.eval, this, SV.den, SV.cellss, SV.cells, Env.place, itE]
  have hF : ∀ l', ItF S (itE E) ⟨p.b, p.q, p.ps.length, p.ps, p.i, l'⟩ w := fun l' => ot_itF (xs := []) (nb := 0) hn (H := (p.at8 c l).heap) rfl rfl rfl (by rw [← hS]; exact sat.hs) l'
  refine (wpIn_wide (n := 5)).1 (wpIn_block ?_)
  refine wpIn_rangeFunc_ownG (F := Fence.wide) (n := 5) rfl (by decide) (gf := 68) h57 trivial (Go.Proofs.enters_of (c := codeOf 68) Try.func68 (by kernel_rfl) (by kernel_rfl))
    (others_stops (n := 5 - 1) (Kp := otK S p E) (by omega) hF (fun l' W W' hf hk => hk (fun _ => hf) l')) (fun h1 h2 h => h2 (h1 h)) ?_ (Below.refl _ _) (fun _ => rfl)
    (otI S p c l w0 M E a) (fun _ _ _ => False) (otI_own sat) (fun _ _ _ _ _ h _ _ => h) (otI_start sat) (otAct a) ?assign ?body ?done ?stop
  · intro W k o o' hk ho _ _ hf l' j y hj hp
    have h1 := hf l' j y hj hp
    have h2 := (hF l' j y hj hp).lt
    exact h1.blk (World.putObj_heap_other (by omega)) (by simp)
  case assign =>
    intro lp x W K hKx
    rw [otA_ok]
    refine wpIn_region_lit ?_
    unfold wpListIn
    have hw : Region.wanted ({ dst := some 12, op := .assign (.tmp 58), type := 3, pos := "relay.go:47", after := #[], guard := none } : Oper) = fun _ => true := rfl
    rw [if_pos (by simp [Region.wanted])]
    refine ⟨fun _ _ => trivial, ?_⟩
    rw [Oper.semAt_eq _ _ _ (by intro c hc; cases hc)]
    have hrun : (execOp (Act.eval { tmps := (#[58].zip (#[Value.int .i64 x] : Array Value)).foldl (fun t (p, v) => t.setIfInBounds p v) a.tmps, defers := [] }) { dst := some 12, op := .assign (.tmp 58), type := 3, pos := "relay.go:47", after := #[], guard := none }).run Try.prog W = .ok (.value (.int .i64 x)) W := by
      simp [execOp, Act.eval, hsz]
    rw [hrun]
    have : otAct a x = Act.put { tmps := (#[58].zip (#[Value.int .i64 x] : Array Value)).foldl (fun t (p, v) => t.setIfInBounds p v) a.tmps, defers := [] } (some 12) (.int .i64 x) := by
      simp [otAct, Act.put]
    rw [Oper.uponIn_value]
    show wpListIn _ _ _ _ _ [] (Act.put _ (some 12) (.int .i64 x)) W
    rw [← this]
    exact hKx
  case body =>
    intro lp xs x W hI hlen
    refine otI_body sat hn hn2 hI hlen ?_
    intro W W' E' H hu hs h2 h5 h6 _ l'
    have := ot_itF (xs := []) (nb := 0) hn h2 h5 h6 hs l'
    have e : Env.upto 3 (itE E') (itE E) := by
      intro k hk
      have a2 := hu 2 (by omega)
      have a5 := hu 5 (by omega)
      have a6 := hu 6 (by omega)
      match k, hk with
      | 0, _ => exact ⟨a2.1.symm, a2.2.symm⟩
      | 1, _ => exact ⟨a5.1.symm, a2.2.symm⟩
      | 2, _ => exact ⟨a6.1.symm, a2.2.symm⟩
    exact this.env e
  case done =>
    intro D xs W hD hxs hI hdf
    subst hxs
    obtain ⟨E', hu, satB⟩ := hI
    have hin : ∀ a' : Act, Q .normal a' W → Exit.inBlock 0 Q .normal a' W := fun a' h => h
    refine hin _ ?_
    have ha : ({ tmps := a.tmps, defers := { target := .collected D, args := #[] } :: a.defers } : Act) = Act.and a [otMark D] := by
      rw [hd]; unfold Act.and; rw [hd]; rfl
    show Q .normal ({ tmps := a.tmps, defers := { target := .collected D, args := #[] } :: a.defers } : Act) W
    rw [ha]
    exact hK E' D W hu hD hdf satB
  case stop =>
    intro D c pre W _ _ h _
    exact h.elim
end

open Go Go.RowKit

def OtP.dead (p : OtP) : Bool := p.out || (!p.pt.enabled || resF p.d)
def OtP.C (p : OtP) : Nat := if p.dead = true then p.c else if p.pt.flags.learning = true then learnC p.x p.y p.c p.l p.s p.i else p.c
def OtP.L (p : OtP) : PL := if p.dead = true then p.l else if p.pt.flags.learning = true then learnL p.x p.y p.c p.l p.s p.i else p.l
/-- where a frame goes -/
def OtP.to (p : OtP) : List Int := if p.dead = true then [] else if openP p.pt = false then [] else if otAll p p.L = true then oth p.i 0 p.ps else if otHas p p.L (oth p.i 0 p.ps) = true then [portF p.L p.d] else []
def OtP.hF (p : OtP) : Heap := (3, .rows (.int .i64 p.to)) :: p.hp p.C p.L
/-- what is shown of a call -/
def OtR (S : Stat) (p : OtP) (E : Env) (w : World) (e : Ending) (W : World) : Prop :=
  ∃ E', Env.upto 3 E E' ∧ e = .returned ((tok 3 p.to.length).den S.r2 E') ∧ HS S.r2 E' p.hF W ∧ Fr w W (MH S.r2 E (p.hp p.c p.l)) ∧ Own S.r2 E' p.hF w.heap.size (MH S.r2 E (p.hp p.c p.l))
section
variable {S : Stat} {p : OtP} {E : Env} {w : World}
theorem ot_back {st : St} {E1 E2 : Env} {a : Act} {W : World} {n : Nat} (sat : Sat (cOt S.r2) otN w (MH S.r2 E (p.hp p.c p.l)) E1 st a W) (hu : Env.upto 3 E E1) {v : SV} (h10 : st.slots.get 10 = some ([], v)) (b : Nat)
    (h0 : st.heap.get 0 = some (.agg [.v (.int .i64 p.x), .v (.int .i64 p.y), .mp 1])) (h1 : st.heap.get 1 = some (.tab (.place .u64 p.C p.L))) (h2 : st.heap.get 2 = some (.rows (.port p.ps)))
    (hu2 : Env.upto 3 E1 E2) (hv : v.den S.r2 E1 = (tok 3 p.to.length).den S.r2 E2) (hinj : injOn (swp 3 b) p.hF = true) (hro : Nat.beq b 2 = false)
    (hb : p.to = [] ∨ (E2.ad 3 = E1.ad b ∧ ∃ x, st.heap.get b = some x ∧ x.cells S.r2 E1 = (SV.rows (.int .i64 p.to)).cells S.r2 E2)) :
    LeavesInM Fence.wide n Try.prog (fnOf 31) a.tmps (OtR S p E w) [] .returning W := by
  have hS : (cOt S.r2).S = S.r2 := cOt_fam.S _
  have hnil : ∀ a : Act, PathHolds a [] := fun _ _ _ hm => by cases hm
  have hv10 := (sat.slots 10 [] v h10).1 (hnil _)
  rw [hS] at hv10
  have c1 : (.agg [.v (.int .i64 p.x), .v (.int .i64 p.y), .mp 1] : SV).cells S.r2 E1 = (.agg [.v (.int .i64 p.x), .v (.int .i64 p.y), .mp 1] : SV).cells S.r2 E2 := (SV.cells_upto _ hu2 _ rfl).symm
  have satR : Sat (cOt S.r2) otN w (MH S.r2 E (p.hp p.c p.l)) E2 ⟨[], p.hF, 4⟩ a W := by
    refine sat.reN (ρ := swp 3 b) ⟨trivial, ⟨⟨trivial, ?_⟩, ⟨trivial, .inr ⟨_, h0, by rw [hS]; exact c1, (hu2 0 (by omega)).1, rfl⟩⟩, ⟨trivial, .inr ⟨_, h1, rfl, (hu2 1 (by omega)).1, rfl⟩⟩, ⟨trivial, .inr ⟨_, h2, rfl, (hu2 2 (by omega)).1, rfl⟩⟩, trivial⟩, hinj⟩ (cOt_fam.win _)
    rcases hb with h | ⟨ha, x, hx, hc⟩
    · refine .inl ?_
      rw [h]; rfl
    · refine .inr ⟨x, hx, by rw [hS]; exact hc, ha, ?_⟩
      rw [hS]
      show Nat.beq 3 2 = Nat.beq (swp 3 b 3) 2
      exact hro.symm
  refine ⟨_, results_tmp (t := 10) (by kernel_rfl) _ _ _, E2, hu.trans hu2 (Nat.le_refl _), ?_, by have := satR.hs; rwa [hS] at this, satR.fr, by have := satR.own; rwa [hS] at this⟩
  rw [← hv]
  obtain ⟨hlt, he⟩ := Array.getElem?_eq_some_iff.1 hv10
  simp [Array.getD, hlt, he]
/-- nothing is told -/
theorem ot_nil {st : St} {E1 : Env} {a : Act} {W : World} {n : Nat} (hto : p.to = []) (sat : Sat (cOt S.r2) otN w (MH S.r2 E (p.hp p.c p.l)) E1 st a W) (hu : Env.upto 3 E E1) (h10 : st.slots.get 10 = some ([], .v (.slice none 0 0)))
    (h0 : st.heap.get 0 = some (.agg [.v (.int .i64 p.x), .v (.int .i64 p.y), .mp 1])) (h1 : st.heap.get 1 = some (.tab (.place .u64 p.C p.L))) (h2 : st.heap.get 2 = some (.rows (.port p.ps))) :
    LeavesInM Fence.wide n Try.prog (fnOf 31) a.tmps (OtR S p E w) [] .returning W := by
  refine ot_back (E2 := { ad := E1.ad, cp := fun k => if k = 3 then (0, true) else E1.cp k }) sat hu h10 7 h0 h1 h2 (fun k hk => ?_) ?_ rfl rfl (.inl hto)
  · have : k ≠ 3 := by omega
    simp [this]
  · rw [hto]; simp [SV.den, tok]
theorem obj_hid {st : St} {E' : Env} {c : Ctx} {n : Nat} {w0 : World} {M : Nat → Nat → Prop} {a : Act} {W : World} (sat : Sat c n w0 M E' st a W) {D : Nat} {ds : Option (List Deferred)} (h : W.heap[D]? = some (.deferred ds)) : Hid st E' D := by
  intro k x hk hp he
  have hat := sat.hs.at_ k x hk hp
  have hlen : 0 < (x.cells c.S E').length := by rw [SV.len]; exact hp
  rw [← he] at h
  rcases hat.2 with ⟨cs, t, fr, h1, _⟩ | ⟨_, es, clk, h1, _⟩ | ⟨h1, _⟩
  · rw [h] at h1; cases h1
  · rw [h] at h1; cases h1
  · rw [h1] at hlen; cases hlen
theorem oth_len (i0 : Int) : ∀ (L : List Port) (i : Nat), (oth i0 i L).length ≤ L.length
  | [], i => Nat.le_refl _
  | q :: r, i => by
    rw [oth]
    split
    · have := oth_len i0 r (i + 1)
      simp only [List.length_cons]; omega
    · have := oth_len i0 r (i + 1)
      simp only [List.length_cons]; omega
theorem ot_t35 : tailC 3 (tailC 2 (codeOf 31)) = tailC 5 (codeOf 31) := by kernel_rfl
/-- from the range on -/
theorem ot_tail {E1 : Env} {a : Act} {w1 : World} {n : Nat} (hn : p.ps.length = p.n) (hn2 : p.n ≤ 67108864) (hdead : p.dead = false) (hop : openP p.pt = true) (hu : Env.upto 3 E E1) (sat : Sat (cOt S.r2) otN w (MH S.r2 E (p.hp p.c p.l)) E1 (p.at8 p.C p.L) a w1) :
    (Code.block 0 (.rangeFunc (.tmp 57) #[58] (.region 9 otA.toArray false) (.block 1 (.region 10 otB.toArray false)))).wp Try.prog (Exit.then (Code.wp Try.prog (tailC 6 (codeOf 31)) (bodyPostM Fence.wide n Try.prog (fnOf 31) (OtR S p E w))) (bodyPostM Fence.wide n Try.prog (fnOf 31) (OtR S p E w))) a w1 := by
  have hfull := cOt_fam.full S.r2
  have hwin := cOt_fam.win S.r2
  have hS : (cOt S.r2).S = S.r2 := cOt_fam.S _
  refine ot_range sat hn hn2 ?_
  intro E2 D W hu2 hD hdf satB
  show Code.wp Try.prog (tailC 6 (codeOf 31)) _ _ W
  have satT := satB.adopt (fun k x hk => by have := (h7_at8 hk).1; show k ≠ 7; omega)
  have hlen : (oth p.i 0 p.ps).length ≤ 67108864 := by have := oth_len p.i p.ps 0; omega
  have hlen2 : decide ((oth p.i 0 p.ps).length = (oth p.i 0 p.ps).length ∧ (oth p.i 0 p.ps).length ≤ 67108864) = true := decide_eq_true ⟨rfl, hlen⟩
  have hw0 : w.heap.size ≤ D := Nat.le_trans sat.fr.size hD
  -- however it ends
  have fin : ∀ (st' : St), (otT6 S p p.C p.L (oth p.i 0 p.ps)).sel = some (.ret, st') → (∀ E3 a3 W3, Env.upto 8 E2 E3 → Sat (cOt S.r2) otN w (MH S.r2 E (p.hp p.c p.l)) E3 st' a3 W3 → LeavesInM Fence.wide n Try.prog (fnOf 31) a3.tmps (OtR S p E w) [] .returning W3) →
      (tailC 6 (codeOf 31)).wp Try.prog (bodyPostM Fence.wide n Try.prog (fnOf 31) (OtR S p E w)) (Act.and a [otMark D]) W := by
    intro st' hsel hK
    obtain ⟨s0, h0, e0⟩ := trimO_sel hsel
    refine exec_okD hfull [otMark D] _ ot_plain W _ _ _ s0 .ret a W E2 satT.local h0 ?_
    intro E3 a3 W3 hu3 _ sat3
    have hdf3 : W3.heap[D]? = some (.deferred (some [])) := by
      rcases sat3.fr.blk D _ hdf with h | ⟨cs, cs', t, fr, h, _⟩ | ⟨_, es, ck, es', ck', h, _⟩
      · exact h
      · cases h
      · cases h
    have satg := satT.global sat3
    have satg := satg.grown (grownBy_putObj' W3 D (.deferred none)) (fun g hg => by cases hg; exact ⟨hw0, obj_hid satg hdf3⟩)
    have satg := satg.trim hwin [10] 9
    rw [← e0] at satg
    show LeavesInM Fence.wide n Try.prog (fnOf 31) a3.tmps (OtR S p E w) (Act.and a3 [otMark D]).defers .returning W3
    have hdd : (Act.and a3 [otMark D]).defers = [otMark D] := by
      unfold Act.and
      rw [sat3.defers]; rfl
    rw [hdd]
    exact ⟨by simp, .inl ⟨D, _, rfl, run_takeDeferred hdf3, hK E3 a3 _ hu3 satg⟩⟩
  have hu13 : ∀ E3, Env.upto 8 E2 E3 → Env.upto 3 E E3 := fun E3 h => (hu.trans (show Env.upto 3 E1 E2 from fun k hk => hu2 k (by omega)) (Nat.le_refl _)).trans (show Env.upto 3 E2 E3 from fun k hk => h k (by omega)) (Nat.le_refl _)
  have hgo : p.to = if otAll p p.L = true then oth p.i 0 p.ps else if otHas p p.L (oth p.i 0 p.ps) = true then [portF p.L p.d] else [] := by
    unfold OtP.to
    rw [hdead, hop]; rfl
  cases hall : otAll p p.L with
  | true =>
    have hto : p.to = oth p.i 0 p.ps := by rw [hgo, hall]; rfl
    refine fin _ (Out.way_sel (ot_t1 S p p.C p.L _) (by rw [hall])) ?_
    intro E3 a3 W3 hu3 sat3
    refine ot_back (E2 := { ad := fun k => if k = 3 then E3.ad 7 else E3.ad k, cp := fun k => if k = 3 then E3.cp 7 else E3.cp k }) sat3 (hu13 E3 hu3) (v := tok 7 (oth p.i 0 p.ps).length) rfl 7 rfl rfl rfl (fun k hk => ?_) ?_ rfl rfl (.inr ⟨by simp, _, rfl, ?_⟩)
    · have : k ≠ 3 := by omega
      simp [this]
    · rw [hto]; simp [SV.den, tok, Env.place]
    · rw [hto]; simp [SV.cells]
  | false =>
    cases hhas : otHas p p.L (oth p.i 0 p.ps) with
    | true =>
      have hto : p.to = [portF p.L p.d] := by rw [hgo, hall, hhas]; rfl
      refine fin _ (Out.way_sel (ot_t3 S p p.C p.L _) (by rw [hall, hhas, hlen2]; rfl)) ?_
      intro E3 a3 W3 hu3 sat3
      refine ot_back (E2 := { ad := fun k => if k = 3 then E3.ad 8 else E3.ad k, cp := fun k => if k = 3 then (1, false) else E3.cp k }) sat3 (hu13 E3 hu3) (v := .slc 8 0 1 1) rfl 8 rfl rfl rfl (fun k hk => ?_) ?_ rfl rfl (.inr ⟨by simp, _, rfl, ?_⟩)
      · have : k ≠ 3 := by omega
        simp [this]
      · rw [hto]; simp [SV.den, tok, Env.place]
      · rw [hto]; simp [SV.cells, SV.cellss, Rows.cells]
    | false =>
      have hto : p.to = [] := by rw [hgo, hall, hhas]; rfl
      refine fin _ (Out.way_sel (ot_t2 S p p.C p.L _) (by rw [hall, hhas, hlen2]; rfl)) ?_
      intro E3 a3 W3 hu3 sat3
      exact ot_nil hto sat3 (hu13 E3 hu3) rfl rfl rfl rfl
theorem hd_at (p : OtP) (hdead : p.dead = true) : p.C = p.c ∧ p.L = p.l ∧ p.to = [] := by
  unfold OtP.C OtP.L OtP.to
  simp [hdead]
theorem out_calls (hn : p.ps.length = p.n) (hn2 : p.n ≤ 67108864) (hgo : p.dead = true ∨ p.pt.flags.learning = false ∨ p.go = true) (hs : HS S.r2 E (p.hp p.c p.l) w) : Calls Try.prog 31 (SV.dens S.r2 E p.args).toArray w (OtR S p E w) := by
  have hfull := cOt_fam.full S.r2
  have hwin := cOt_fam.win S.r2
  have hS : (cOt S.r2).S = S.r2 := cOt_fam.S _
  have hl : ∀ code, LoopsOk Try.prog (cOt S.r2) otN code := fun code => LoopsOk.none (cOt_fam.loop _) code
  have hnil : ∀ a : Act, PathHolds a [] := fun _ _ _ hm => by cases hm
  have hslots := enter_slots (S := S.r2) (E := E) (args := p.args) (n := otN)
  refine (callsIn_wide (n := 5)).1 (callsIn_of_wp_marks (c := codeOf 31) Try.func31 (by kernel_rfl) trivial ?_ rfl)
  refine (wpIn_wide (n := 5)).2 ?_
  have sat : Sat (cOt S.r2) otN w (MH S.r2 E (p.hp p.c p.l)) E p.st { tmps := (SV.dens S.r2 E p.args).toArray ++ Array.replicate (otN - (SV.dens S.r2 E p.args).toArray.size) undef, defers := [] } w := by
    refine ⟨by rw [hS]; exact hslots, by rw [hS]; exact hs, fun k x hk hr => ?_, Fr.refl _ _, by rw [hwin]; intro n j k z hm; (cases hm), by rw [hwin]; intro n j k z hm; (cases hm), ?_, rfl⟩
    · rw [hS] at hr
      exact .inr fun j hj => ⟨k, x, hk, hr, rfl, by omega, by omega⟩
    · have : (SV.dens S.r2 E p.args).length = 5 := by simp [SV.dens_map, OtP.args]
      simp [this, ot_size]
  show (codeOf 31).wp Try.prog (bodyPostM Fence.wide 5 Try.prog (fnOf 31) (OtR S p E w)) _ w
  rw [ot_code]
  obtain ⟨s1, h1, e1⟩ := trimO_sel (congrArg Out.sel (ot_0 S p))
  refine wp_seq (exec_ok hfull (draw_ok hfull) _ (hl _) _ _ _ _ _ _ _ w E sat h1 ?_)
  intro E1 a1 w1 hu1 _ sat1
  have sat1 := sat1.trim hwin otT 4
  rw [← e1] at sat1
  have hu1 : Env.upto 3 E E1 := hu1
  -- where it leads
  have hnone : ∀ (E3 : Env) (a3 : Act) (W3 : World) (st : St), p.dead = true → Env.upto 3 E E3 → Sat (cOt S.r2) otN w (MH S.r2 E (p.hp p.c p.l)) E3 st a3 W3 → st.slots.get 10 = some ([], .v (.slice none 0 0)) → (∀ k, k < 3 → st.heap.get k = (p.hp p.c p.l).get k) →
      bodyPostM Fence.wide 5 Try.prog (fnOf 31) (OtR S p E w) .ret a3 W3 := by
    intro E3 a3 W3 st hdead hu3 sat3 h10 hh
    obtain ⟨d1, d2, d3⟩ := hd_at p hdead
    show LeavesInM Fence.wide 5 Try.prog (fnOf 31) a3.tmps (OtR S p E w) a3.defers .returning W3
    rw [sat3.defers]
    exact ot_nil d3 sat3 hu3 h10 (by rw [hh 0 (by omega)]; rfl) (by rw [hh 1 (by omega), d1, d2]; rfl) (by rw [hh 2 (by omega)]; rfl)
  have hrest : ∀ (E3 : Env) (a3 : Act) (W3 : World), p.dead = false → Env.upto 3 E E3 → Sat (cOt S.r2) otN w (MH S.r2 E (p.hp p.c p.l)) E3 (p.at []) a3 W3 → (tailC 2 (codeOf 31)).wp Try.prog (bodyPostM Fence.wide 5 Try.prog (fnOf 31) (OtR S p E w)) a3 W3 := by
    intro E3 a3 W3 hdead hu3 sat3
    have ho : p.out = false ∧ (!p.pt.enabled || resF p.d) = false := by
      unfold OtP.dead at hdead
      simpa using hdead
    have hin : p.in = true ∧ p.lt = true := by
      have ho := ho.1
      unfold OtP.out at ho
      simp only [Bool.or_eq_false_iff, decide_eq_false_iff_not] at ho
      unfold OtP.in OtP.lt
      constructor
      · simp only [Bool.and_eq_true, decide_eq_true_eq]; omega
      · simp only [decide_eq_true_eq]; omega
    -- one of four ways
    have key : ∃ ex st, (ot3 S p).sel = some (ex, st) ∧ ((ex = .nrm ∧ openP p.pt = true ∧ st = p.at4 p.C p.L) ∨ (ex = .ret ∧ openP p.pt = false ∧ st = p.at3 p.C p.L)) := by
      cases hlr : p.pt.flags.learning with
      | true =>
        have hgo' : p.go = true := by
          rcases hgo with h | h | h
          · rw [h] at hdead; cases hdead
          · rw [h] at hlr; cases hlr
          · exact h
        have hC : p.C = learnC p.x p.y p.c p.l p.s p.i := by unfold OtP.C; rw [hdead, hlr]; rfl
        have hL : p.L = learnL p.x p.y p.c p.l p.s p.i := by unfold OtP.L; rw [hdead, hlr]; rfl
        cases hop : openP p.pt with
        | true => exact ⟨_, _, Out.way_sel (ot_ln S p) (by rw [hin.1, hin.2, hlr, hgo', hop]; rfl), .inl ⟨rfl, rfl, by rw [hC, hL]⟩⟩
        | false => exact ⟨_, _, Out.way_sel (ot_lr S p) (by rw [hin.1, hin.2, hlr, hgo', hop]; rfl), .inr ⟨rfl, rfl, by rw [hC, hL]⟩⟩
      | false =>
        have hC : p.C = p.c := by unfold OtP.C; rw [hdead, hlr]; rfl
        have hL : p.L = p.l := by unfold OtP.L; rw [hdead, hlr]; rfl
        cases hop : openP p.pt with
        | true => exact ⟨_, _, Out.way_sel (ot_nn S p) (by rw [hin.1, hin.2, hlr, hop]; rfl), .inl ⟨rfl, rfl, by rw [hC, hL]⟩⟩
        | false => exact ⟨_, _, Out.way_sel (ot_nr S p) (by rw [hin.1, hin.2, hlr, hop]; rfl), .inr ⟨rfl, rfl, by rw [hC, hL]⟩⟩
    obtain ⟨ex, st, hsel, hcase⟩ := key
    obtain ⟨s4, h4, e4⟩ := trimO_sel hsel
    refine cutC hfull (draw_ok hfull) 3 _ _ ex s4 a3 W3 E3 (hl _) sat3 h4 (fun hex E4 a4 W4 hu4 _ sat4 => ?_) (fun hex E4 a4 W4 hu4 _ sat4 => ?_)
    · have sat4 := sat4.trim hwin [1, 2, 3, 4, 5, 10, 11] 5
      rw [← e4] at sat4
      have hu4 : Env.upto 3 E E4 := hu3.trans (show Env.upto 3 E3 E4 from fun k hk => hu4 k (by show k < 4; omega)) (Nat.le_refl _)
      rcases hcase with ⟨_, hop, hst⟩ | ⟨h, _⟩
      · rw [hst] at sat4
        rw [ot_t35, ot_code5]
        obtain ⟨s8, h8, e8⟩ := trimO_sel (congrArg Out.sel (ot_8 S p p.C p.L))
        refine wp_seq (wp_seq (exec_ok hfull (draw_ok hfull) _ (hl _) _ _ _ _ _ _ a4 W4 E4 sat4 h8 ?_))
        intro E8 a8 W8 hu8 _ sat8
        have sat8 := sat8.trim hwin [1, 2, 3, 4, 5, 10, 11, 57] 7
        rw [← e8] at sat8
        exact ot_tail hn hn2 hdead hop (hu4.trans (show Env.upto 3 E4 E8 from fun k hk => hu8 k (by show k < 5; omega)) (Nat.le_refl _)) sat8
      · rw [hex] at h; cases h
    · have sat4 := sat4.trim hwin [1, 2, 3, 4, 5, 10, 11] 5
      rw [← e4] at sat4
      have hu4 : Env.upto 3 E E4 := hu3.trans (show Env.upto 3 E3 E4 from fun k hk => hu4 k (by show k < 4; omega)) (Nat.le_refl _)
      rcases hcase with ⟨h, _⟩ | ⟨h, hop, hst⟩
      · exact absurd h hex
      · subst h
        rw [hst] at sat4
        show LeavesInM Fence.wide 5 Try.prog (fnOf 31) a4.tmps (OtR S p E w) a4.defers .returning W4
        rw [sat4.defers]
        have hto : p.to = [] := by unfold OtP.to; rw [hdead, hop]; rfl
        exact ot_nil hto sat4 hu4 rfl rfl rfl rfl
  -- the guard
  refine wp_seq (wp_seq ?_)
  have hcond : ∀ (b : Bool) (E3 : Env) (a3 : Act) (W3 : World), p.dead = b → Env.upto 3 E E3 → Sat (cOt S.r2) otN w (MH S.r2 E (p.hp p.c p.l)) E3 (p.at [(36, [], .v (.bool b))]) a3 W3 →
      Code.wp Try.prog (.cond (.tmp 36) (.seq (.region 2 (regL 31 2).toArray false) .ret) .skip) (Exit.then (Code.wp Try.prog (tailC 2 (codeOf 31)) (bodyPostM Fence.wide 5 Try.prog (fnOf 31) (OtR S p E w))) (bodyPostM Fence.wide 5 Try.prog (fnOf 31) (OtR S p E w))) a3 W3 := by
    intro b E3 a3 W3 hdead hu3 sat3
    have hsel := congrArg Out.sel (ot_2n S p b)
    cases b with
    | true =>
      obtain ⟨s4, h4, e4⟩ := trimO_sel hsel
      refine exec_ok hfull (draw_ok hfull) _ (hl _) _ _ _ _ _ _ a3 W3 E3 sat3 h4 ?_
      intro E4 a4 W4 hu4 _ sat4
      have sat4 := sat4.trim hwin [1, 2, 3, 4, 5, 10] 4
      rw [← e4] at sat4
      have hu4 : Env.upto 3 E3 E4 := fun k hk => hu4 k (by show k < 4; omega)
      exact hnone E4 a4 W4 (p.at []) hdead (hu3.trans hu4 (Nat.le_refl _)) sat4 rfl (fun k hk => by
        match k, hk with
        | 0, _ => rfl
        | 1, _ => rfl
        | 2, _ => rfl)
    | false =>
      obtain ⟨s4, h4, e4⟩ := trimO_sel hsel
      refine exec_ok hfull (draw_ok hfull) _ (hl _) _ _ _ _ _ _ a3 W3 E3 sat3 h4 ?_
      intro E4 a4 W4 hu4 _ sat4
      have sat4 := sat4.trim hwin [1, 2, 3, 4, 5, 10] 4
      rw [← e4] at sat4
      have hu4 : Env.upto 3 E3 E4 := fun k hk => hu4 k (by show k < 4; omega)
      exact hrest E4 a4 W4 hdead (hu3.trans hu4 (Nat.le_refl _)) sat4
  generalize hQ2 : Code.wp Try.prog (.cond (.tmp 36) (.seq (.region 2 (regL 31 2).toArray false) .ret) .skip) (Exit.then (Code.wp Try.prog (tailC 2 (codeOf 31)) (bodyPostM Fence.wide 5 Try.prog (fnOf 31) (OtR S p E w))) (bodyPostM Fence.wide 5 Try.prog (fnOf 31) (OtR S p E w))) = K2 at hcond ⊢
  generalize hQ3 : Exit.then K2 (Exit.then (Code.wp Try.prog (tailC 2 (codeOf 31)) (bodyPostM Fence.wide 5 Try.prog (fnOf 31) (OtR S p E w))) (bodyPostM Fence.wide 5 Try.prog (fnOf 31) (OtR S p E w))) = Q3
  have hQn : ∀ a w, K2 a w → Q3 .normal a w := fun a w h => by rw [← hQ3]; exact h
  have hreg : wpList Try.prog otO.toArray Q3 otO a1 w1 := by
    obtain ⟨s5, h5, e5⟩ := trimR_sel (congrArg Out.sel (ot_1 S p))
    have := region_pre hfull (Q := Q3) otO (otO.drop 10) (otO.take 10) _ s5 a1 w1 E1 sat1 h5 (fun E2 a2 w2 hu2 _ sat2 => ?_)
    · rw [List.take_append_drop] at this; exact this
    have sat2 := sat2.trim hwin otT 4
    rw [← e5] at sat2
    have hu2 : Env.upto 3 E E2 := hu1.trans (show Env.upto 3 E1 E2 from fun k hk => hu2 k (by show k < 4; omega)) (Nat.le_refl _)
    have hv24 : a2.tmps[24]? = some (.bool p.out) := (sat2.slots 24 [] (.v (.bool p.out)) rfl).1 (hnil _)
    cases ho : p.out with
    | true =>
      rw [ho] at hv24
      have satk : Sat (cOt S.r2) otN w (MH S.r2 E (p.hp p.c p.l)) E2 (p.at [(24, [], .kb true)]) a2 w2 := sat2.know hv24
      obtain ⟨s6, h6, e6⟩ := trimR_sel (congrArg Out.sel (ot_1t S p))
      refine region_ok hfull otO (otO.drop 10) _ s6 a2 w2 E2 satk h6 fun E3 a3 w3 hu3 _ sat3 => hQn _ _ ?_
      have sat3 := sat3.trim hwin otT 4
      rw [← e6] at sat3
      have hu3 : Env.upto 3 E E3 := hu2.trans (show Env.upto 3 E2 E3 from fun k hk => hu3 k (by show k < 4; omega)) (Nat.le_refl _)
      have hd : p.dead = true := by unfold OtP.dead; rw [ho]; rfl
      refine hcond true E3 a3 w3 hd hu3 ⟨?_, sat3.hs, sat3.own, sat3.fr, sat3.win, sat3.winb, sat3.size, sat3.defers⟩
      have hr : ReSlots2 (p.at [(24, [], .kb true), (36, [], .kb true)]).slots (cOt S.r2).S E3 (cOt S.r2).S E3 (p.at [(36, [], .v (.bool true))]).slots :=
        ⟨⟨_, rfl, rfl⟩, ⟨_, rfl, rfl⟩, ⟨_, rfl, rfl⟩, ⟨_, rfl, rfl⟩, ⟨_, rfl, rfl⟩, ⟨_, rfl, rfl⟩, ⟨_, rfl, rfl⟩, trivial⟩
      intro t q x' hx
      obtain ⟨x, hx1, hd⟩ := hr.get t q x' hx
      rw [← hd]; exact sat3.slots t q x hx1
    | false =>
      rw [ho] at hv24
      have satk : Sat (cOt S.r2) otN w (MH S.r2 E (p.hp p.c p.l)) E2 (p.at [(24, [], .kb false)]) a2 w2 := sat2.know hv24
      have hin : p.in = true ∧ p.lt = true := by
        unfold OtP.out at ho
        simp only [Bool.or_eq_false_iff, decide_eq_false_iff_not] at ho
        unfold OtP.in OtP.lt
        constructor
        · simp only [Bool.and_eq_true, decide_eq_true_eq]; omega
        · simp only [decide_eq_true_eq]; omega
      obtain ⟨s6, h6, e6⟩ := trimR_sel (Out.way_sel (ot_1f S p) (by rw [hin.1]; have := hin.2; unfold OtP.lt at this; rw [this]))
      refine region_ok hfull otO (otO.drop 10) _ s6 a2 w2 E2 satk h6 fun E3 a3 w3 hu3 _ sat3 => hQn _ _ ?_
      have sat3 := sat3.trim hwin otT 4
      rw [← e6] at sat3
      have sat3 := sat3.trim hwin [1, 2, 3, 4, 5, 10, 36] 4
      have hu3 : Env.upto 3 E E3 := hu2.trans (show Env.upto 3 E2 E3 from fun k hk => hu3 k (by show k < 4; omega)) (Nat.le_refl _)
      exact hcond (!p.pt.enabled || resF p.d) E3 a3 w3 (by unfold OtP.dead; rw [ho]; rfl) hu3 sat3
  have hr : (Code.region 1 otO.toArray false).wp Try.prog Q3 a1 w1 := by
    generalize otO = ops at hreg ⊢
    exact wp_region_lit hreg
  exact hr
end


open Go Go.RowKit

def OtP.ok (p : OtP) : Bool := decide (p.ps.length = p.n ∧ p.n ≤ 67108864) && (p.dead || (!p.pt.flags.learning || p.go))
def gOut : CanonFn := fun ro args H m => match args with
  | [bx, .ptr kf 0, .v (.int .i64 i), .v (.int .u64 s), .v (.int .u64 d)] => (match unBri bx, H.get 0, H.get kf with
    | some (b, .slr 0 n 0 q, o, f), some (.rows (.port ps)), some (.agg [.v (.int .i64 x), .v (.int .i64 y), .mp km]) => (match H.get km with
      | some (.tab (.place .u64 c l)) => bif (ro kf || ro km) || ((Nat.beq kf km || (Nat.beq kf 0 || Nat.beq km 0)) || !(bndH m H)) then .bad else
          .ite (OtP.ok ⟨b, q, n, ps, x, y, c, l, i, s, d⟩) (.ret (.slr m (OtP.to ⟨b, q, n, ps, x, y, c, l, i, s, d⟩).length m false, (m, .rows (.int .i64 (OtP.to ⟨b, q, n, ps, x, y, c, l, i, s, d⟩))) :: H.put km (.tab (.place .u64 (OtP.C ⟨b, q, n, ps, x, y, c, l, i, s, d⟩) (OtP.L ⟨b, q, n, ps, x, y, c, l, i, s, d⟩))), Nat.add m 1)) .bad
      | _ => .bad)
    | _, _, _ => .bad)
  | _ => .bad
def ouE (E : Env) (kf km : Nat) : Env := ⟨fun k => match k with | 0 => E.ad kf | 1 => E.ad km | _ => E.ad 0, fun _ => E.cp 0⟩
theorem ou_hs {S : Stat} {E : Env} {H : Heap} {w : World} {p : OtP} {kf km : Nat} (hs : HS S E H w) (h0 : H.get 0 = some (.rows (.port p.ps))) (hf : H.get kf = some (.agg [.v (.int .i64 p.x), .v (.int .i64 p.y), .mp km])) (hm : H.get km = some (.tab (.place .u64 p.c p.l)))
    (rf : S.ro kf = false) (rm : S.ro km = false) (n1 : kf ≠ km) (n2 : kf ≠ 0) (n3 : km ≠ 0) (S' : Stat) : HS S'.r2 (ouE E kf km) (p.hp p.c p.l) w := by
  have hg : ∀ k x, (p.hp p.c p.l).get k = some x → (k = 0 ∧ x = .agg [.v (.int .i64 p.x), .v (.int .i64 p.y), .mp 1]) ∨ (k = 1 ∧ x = .tab (.place .u64 p.c p.l)) ∨ (k = 2 ∧ x = .rows (.port p.ps)) := by
    intro k x hk
    unfold OtP.hp at hk
    simp only [Heap.get_cons] at hk
    repeat' split at hk
    · injection hk with hk; exact .inl ⟨by omega, hk.symm⟩
    · injection hk with hk; exact .inr (.inl ⟨by omega, hk.symm⟩)
    · injection hk with hk; exact .inr (.inr ⟨by omega, hk.symm⟩)
    · cases hk
  have a0 := hs.at_ kf _ hf (by show 0 < 3; omega)
  have a1 := hs.at_ km _ hm (by show 0 < 1; omega)
  refine ⟨fun k x hk hp => ?_, fun k x hk hp hnt hr => ?_, fun k k' x x' hne hk hk' hp hp' hr => ?_, fun k x hk => ?_⟩
  · rcases hg k x hk with ⟨rfl, rfl⟩ | ⟨rfl, rfl⟩ | ⟨rfl, rfl⟩
    · exact a0
    · exact a1
    · exact hs.at_ 0 _ h0 hp
  · rcases hg k x hk with ⟨rfl, rfl⟩ | ⟨rfl, rfl⟩ | ⟨rfl, rfl⟩
    · exact hs.wr kf _ hf (by show 0 < 3; omega) hnt rf
    · exact hs.wr km _ hm (by show 0 < 1; omega) hnt rm
    · cases hr
  · have d01 := hs.dis kf km _ _ n1 hf hm (by show 0 < 3; omega) (by show 0 < 1; omega) rf
    have d10 := hs.dis km kf _ _ (Ne.symm n1) hm hf (by show 0 < 1; omega) (by show 0 < 3; omega) rm
    rcases hg k x hk with ⟨rfl, rfl⟩ | ⟨rfl, rfl⟩ | ⟨rfl, rfl⟩
    · rcases hg k' x' hk' with ⟨rfl, rfl⟩ | ⟨rfl, rfl⟩ | ⟨rfl, rfl⟩
      · exact absurd rfl hne
      · exact d01
      · have d02 := hs.dis kf 0 _ _ n2 hf h0 (by show 0 < 3; omega) hp' rf
        exact d02
    · rcases hg k' x' hk' with ⟨rfl, rfl⟩ | ⟨rfl, rfl⟩ | ⟨rfl, rfl⟩
      · exact d10
      · exact absurd rfl hne
      · exact hs.dis km 0 _ _ n3 hm h0 (by show 0 < 1; omega) hp' rm
    · cases hr
  · rcases hg k x hk with ⟨rfl, rfl⟩ | ⟨rfl, rfl⟩ | ⟨rfl, rfl⟩ <;> trivial
theorem ou_args {S : Stat} {E : Env} {p : OtP} {kf km : Nat} {o f : SV} (ho : isSl o = true) (hf : isSl f = true) : ∃ ln, (SV.dens S E [p.b.sv (.slr 0 p.n 0 p.q) o f, .ptr kf 0, .v (.int .i64 p.i), .v (.int .u64 p.s), .v (.int .u64 p.d)]) = SV.dens (S.names ln).r2 (ouE E kf km) p.args := by
  obtain ⟨ln, hl⟩ := Bri.sv_named (S := S) (E := E) (b := p.b) (p := .slr 0 p.n 0 p.q) ho hf
  refine ⟨ln, ?_⟩
  have h1 := (hl (S.names ln).r2 rfl rfl).1
  have h2 : (p.b.sv (.slr 0 p.n 0 p.q) (.sl 0) (.sl 1)).den (S.names ln).r2 E = (p.b.sv (.slr 2 p.n 2 p.q) (.sl 0) (.sl 1)).den (S.names ln).r2 (ouE E kf km) := by
    rw [SV.den_agg _ _ _ rfl, SV.den_agg _ _ _ rfl]
    have : (p.b.sv (.slr 0 p.n 0 p.q) (.sl 0) (.sl 1)).cells (S.names ln).r2 E = (p.b.sv (.slr 2 p.n 2 p.q) (.sl 0) (.sl 1)).cells (S.names ln).r2 (ouE E kf km) := by
      simp [Bri.sv, SV.cells, SV.cellss, Env.place, ouE]
    rw [this]
  simp only [OtP.args, SV.dens, h1, h2]
  simp [SV.den, Env.place, ouE]
theorem out_ok : CanonOk 31 gOut := by
  intro S args H m v H' m' hr
  unfold gOut at hr
  split at hr <;> (try cases hr)
  rename_i bx kf i s d
  split at hr <;> (try cases hr)
  rename_i b n q o f ps x y km hb h0 hf
  split at hr <;> (try cases hr)
  rename_i c l hm
  generalize hp : (⟨b, q, n, ps, x, y, c, l, i, s, d⟩ : OtP) = p at hr
  obtain ⟨rfl, ho, hff⟩ := unBri_ok hb
  cases hbad : ((S.ro kf || S.ro km) || ((Nat.beq kf km || (Nat.beq kf 0 || Nat.beq km 0)) || !(bndH m H))) with
  | true => rw [hbad] at hr; cases hr
  | false =>
    rw [hbad] at hr
    obtain ⟨hok, hr⟩ := Out.ite_bad hr
    simp only [Out.sel, Option.some.injEq, Prod.mk.injEq] at hr
    obtain ⟨rfl, rfl, rfl⟩ := hr
    simp only [Bool.or_eq_false_iff, Bool.not_eq_false'] at hbad
    obtain ⟨⟨rf, rm⟩, ⟨⟨b1, b2, b3⟩, hbnd⟩⟩ := hbad
    have n1 : kf ≠ km := fun h => by subst h; simp at b1
    have n2 : kf ≠ 0 := fun h => by subst h; simp at b2
    have n3 : km ≠ 0 := fun h => by subst h; simp at b3
    have hbk : ∀ k x, H.get k = some x → k < m ∧ x.bnd m = true := by
      intro k x hk
      have := heap_all hbnd hk
      simp only [Bool.and_eq_true, Nat.blt_eq] at this
      exact this
    unfold OtP.ok at hok
    simp only [Bool.and_eq_true, decide_eq_true_eq] at hok
    obtain ⟨⟨hn, hn2⟩, hgo⟩ := hok
    have hgo' : p.dead = true ∨ p.pt.flags.learning = false ∨ p.go = true := by
      simp only [Bool.or_eq_true, Bool.not_eq_true'] at hgo
      exact hgo
    refine ⟨⟨_, Try.func31, by kernel_rfl, by kernel_rfl⟩, fun E w hs => ?_⟩
    have hP : p.b = b ∧ p.q = q ∧ p.n = n ∧ p.ps = ps ∧ p.x = x ∧ p.y = y ∧ p.c = c ∧ p.l = l ∧ p.i = i ∧ p.s = s ∧ p.d = d := by subst hp; exact ⟨rfl, rfl, rfl, rfl, rfl, rfl, rfl, rfl, rfl, rfl, rfl⟩
    obtain ⟨p1, p2, p3, p4, p5, p6, p7, p8, p9, p10, p11⟩ := hP
    rw [← p1, ← p2, ← p3, ← p9, ← p10, ← p11]
    rw [← p4] at h0
    rw [← p5, ← p6] at hf
    rw [← p7, ← p8] at hm
    obtain ⟨ln, hargs⟩ := ou_args (S := S) (E := E) (p := p) (kf := kf) (km := km) ho hff
    rw [hargs]
    have hsI := ou_hs hs h0 hf hm rf rm n1 n2 n3 (S.names ln)
    refine (out_calls hn hn2 hgo' hsI).mono ?_
    rintro e W ⟨E1, hu, rfl, hs1, hfr, hown⟩
    have u0 : E1.ad 0 = E.ad kf := (hu 0 (by omega)).1
    have u1 : E1.ad 1 = E.ad km := (hu 1 (by omega)).1
    have hMM : ∀ b j, MH (S.names ln).r2 (ouE E kf km) (p.hp p.c p.l) b j → (b = (E.ad kf).block ∧ (E.ad kf).off ≤ j ∧ j < (E.ad kf).off + 3) ∨ (b = (E.ad km).block ∧ (E.ad km).off ≤ j ∧ j < (E.ad km).off + 1) := by
      rintro b j ⟨k, x, hk, hr, h1, h2, h3⟩
      unfold OtP.hp at hk
      simp only [Heap.get_cons] at hk
      repeat' split at hk
      · rename_i hk0; subst hk0; injection hk with hk; subst hk; exact .inl ⟨h1, h2, h3⟩
      · rename_i hk0; subst hk0; injection hk with hk; subst hk; exact .inr ⟨h1, h2, h3⟩
      · rename_i hk0; subst hk0; cases hr
      · cases hk
    have hMS : ∀ b j, MH (S.names ln).r2 (ouE E kf km) (p.hp p.c p.l) b j → MH S E H b j := fun b j h => by
      rcases hMM b j h with ⟨h1, h2, h3⟩ | ⟨h1, h2, h3⟩
      · exact ⟨kf, _, hf, rf, h1, h2, h3⟩
      · exact ⟨km, _, hm, rm, h1, h2, h3⟩
    -- what is new lies in a block of its own
    have hnew : 0 < (SV.rows (.int .i64 p.to)).size → w.heap.size ≤ (E1.ad 3).block := by
      intro hpos
      rcases hown 3 _ rfl rfl with h | h
      · exact h
      · have h0 := hMM _ _ (h 0 hpos)
        have d0 := hs1.dis 3 0 _ _ (by omega) rfl rfl hpos (by show 0 < 3; omega) rfl
        have d1 := hs1.dis 3 1 _ _ (by omega) rfl rfl hpos (by show 0 < 1; omega) rfl
        rw [u0] at d0
        rw [u1] at d1
        have s0 : (SV.agg [.v (.int .i64 p.x), .v (.int .i64 p.y), .mp 1]).size = 3 := rfl
        have s1 : (SV.tab (.place .u64 p.C p.L)).size = 1 := rfl
        rw [s0] at d0
        rw [s1] at d1
        unfold apart at d0 d1
        omega
    have hget : ∀ k z, Heap.get ((m, .rows (.int .i64 p.to)) :: H.put km (.tab (.place .u64 p.C p.L))) k = some z → (k = m ∧ z = .rows (.int .i64 p.to)) ∨ (k ≠ m ∧ k = km ∧ z = .tab (.place .u64 p.C p.L)) ∨ (k ≠ m ∧ k ≠ km ∧ H.get k = some z) := by
      intro k z hk
      rw [Heap.get_cons] at hk
      split at hk
      · rename_i h; injection hk with hk; exact .inl ⟨h, hk.symm⟩
      · rename_i h
        rw [Heap.get_put] at hk
        split at hk
        · rename_i h2; injection hk with hk; exact .inr (.inl ⟨h, h2, hk.symm⟩)
        · rename_i h2; exact .inr (.inr ⟨h, h2, hk⟩)
    have horg : ∀ k z, k ≠ m → Heap.get ((m, .rows (.int .i64 p.to)) :: H.put km (.tab (.place .u64 p.C p.L))) k = some z → ∃ y, H.get k = some y ∧ y.size = z.size := by
      intro k z hkm hk
      rcases hget k z hk with ⟨h, _⟩ | ⟨_, rfl, rfl⟩ | ⟨_, _, h⟩
      · exact absurd h hkm
      · exact ⟨_, hm, rfl⟩
      · exact ⟨z, h, rfl⟩
    have hE' : Env.upto m E ⟨fun k => if k = m then E1.ad 3 else E.ad k, fun k => if k = m then E1.cp 3 else E.cp k⟩ := by
      intro k hk
      have : k ≠ m := by omega
      simp [this]
    refine ⟨⟨fun k => if k = m then E1.ad 3 else E.ad k, fun k => if k = m then E1.cp 3 else E.cp k⟩, hE', Nat.le_succ m, by simp [SV.den, tok, Env.place], ⟨fun k z hk hp => ?_, fun k z hk hp hnt hr => ?_, fun k k' z z' hne hk hk' hp hp' hr => ?_, fun k z hk => ?_⟩, hfr.mono fun b j _ h => hMS b j h, fun k z hk hr => ?_⟩
    · rcases hget k z hk with ⟨rfl, rfl⟩ | ⟨hkm, rfl, rfl⟩ | ⟨hkm, hkk, hz⟩
      · have := hs1.at_ 3 _ rfl hp
        simpa [SV.cells] using this
      · have := hs1.at_ 1 _ rfl hp
        rw [u1] at this
        simpa [SV.cells, hkm] using this
      · simp only [if_neg hkm]
        rw [SV.cells_upto S hE' z (hbk k z hz).2]
        by_cases hkf : k = kf
        · subst hkf
          rw [hf] at hz
          injection hz with hz
          subst hz
          have := hs1.at_ 0 _ rfl (by show 0 < 3; omega)
          rw [u0] at this
          simpa [SV.cells, SV.cellss, u1] using this
        · refine (hs.at_ k z hz hp).fr hfr fun j hj hM => ?_
          rw [SV.len] at hj
          have df := hs.dis kf k _ _ (Ne.symm hkf) hf hz (by show 0 < 3; omega) hp rf
          have dm := hs.dis km k _ _ (Ne.symm hkk) hm hz (by show 0 < 1; omega) hp rm
          have s0 : (SV.agg [.v (.int .i64 p.x), .v (.int .i64 p.y), .mp km]).size = 3 := rfl
          have s1 : (SV.tab (.place .u64 p.c p.l)).size = 1 := rfl
          rw [s0] at df
          rw [s1] at dm
          unfold apart at df dm
          rcases hMM _ _ hM with ⟨h1, h2, h3⟩ | ⟨h1, h2, h3⟩
          · omega
          · omega
    · rcases hget k z hk with ⟨rfl, rfl⟩ | ⟨hkm, rfl, rfl⟩ | ⟨hkm, hkk, hz⟩
      · have := hs1.wr 3 _ rfl hp (by simpa [SV.cells] using hnt) rfl
        simpa using this
      · exact absurd rfl (hnt _)
      · simp only [if_neg hkm]
        exact (hs.wr k z hz hp (by rw [SV.cells_upto S hE' z (hbk k z hz).2] at hnt; exact hnt) hr).fr hfr
    · by_cases hkm : k = m
      · subst hkm
        have hk'm : k' ≠ k := Ne.symm hne
        obtain ⟨y', hy', hsz'⟩ := horg k' z' hk'm hk'
        have hlt := (hs.at_ k' y' hy' (by omega)).lt
        have hz : z = .rows (.int .i64 p.to) := by
          rcases hget k z hk with ⟨_, h⟩ | ⟨h, _⟩ | ⟨h, _⟩
          · exact h
          · exact absurd rfl h
          · exact absurd rfl h
        rw [hz] at hp
        have := hnew hp
        refine .inl ?_
        simp only [if_true, if_neg hk'm]
        omega
      · by_cases hk'm : k' = m
        · subst hk'm
          obtain ⟨y, hy, hsz⟩ := horg k z hkm hk
          have hlt := (hs.at_ k y hy (by omega)).lt
          have hz : z' = .rows (.int .i64 p.to) := by
            rcases hget k' z' hk' with ⟨_, h⟩ | ⟨h, _⟩ | ⟨h, _⟩
            · exact h
            · exact absurd rfl h
            · exact absurd rfl h
          rw [hz] at hp'
          have := hnew hp'
          refine .inl ?_
          simp only [if_true, if_neg hkm]
          omega
        · obtain ⟨y, hy, hsz⟩ := horg k z hkm hk
          obtain ⟨y', hy', hsz'⟩ := horg k' z' hk'm hk'
          simp only [if_neg hkm, if_neg hk'm]
          rw [← hsz, ← hsz']
          exact hs.dis k k' y y' hne hy hy' (by omega) (by omega) hr
    · rcases hget k z hk with ⟨rfl, rfl⟩ | ⟨hkm, rfl, rfl⟩ | ⟨hkm, hkk, hz⟩
      · trivial
      · trivial
      · exact hs.fo k z hz
    · by_cases hkm : k = m
      · subst hkm
        have hz : z = .rows (.int .i64 p.to) := by
          rcases hget k z hk with ⟨_, h⟩ | ⟨h, _⟩ | ⟨h, _⟩
          · exact h
          · exact absurd rfl h
          · exact absurd rfl h
        subst hz
        simp only [if_pos rfl]
        rcases Nat.eq_zero_or_pos (SV.rows (.int .i64 p.to)).size with h0 | hpos
        · exact .inr fun j hj => by omega
        · exact .inl (hnew hpos)
      · obtain ⟨y, hy, hsz⟩ := horg k z hkm hk
        simp only [if_neg hkm]
        exact .inr fun j hj => ⟨k, y, hy, hr, rfl, by omega, by omega⟩
end Go.Proofs.Ytfncoeoaniclmaa
