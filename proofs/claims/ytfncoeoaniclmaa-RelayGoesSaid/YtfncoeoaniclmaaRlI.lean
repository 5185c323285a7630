/- relay.others' function: which ports a frame goes through. -/
import Derived.Test.YtfncoeoaniclmaaBrg
import Derived.Test.YtfncoeoaniclmaaYl
import Derived.Test.YtfncoeoaniclmaaFdb0
import Derived.Test.YtfncoeoaniclmaaFdbRf
set_option linter.unusedVariables false
set_option maxRecDepth 100000
namespace Go.Proofs.Ytfncoeoaniclmaa
open Go Go.RowKit

def openP (p : Port) : Bool := p.enabled && p.flags.forwarding
noncomputable def psI (S : Stat) : List (Nat × ReadFn) := auto ps0 S 56 :: []
theorem psI_ok (S : Stat) : ReadsOk S [] (psI S) := .auto ps0_ok <| ReadsOk.nil S []
noncomputable def cI (S : Stat) : Ctx := mkCtx S [] (psI S) [] 20 6
theorem cI_fam : Fam cI := fam_of (ss := fun _ => []) psI_ok (fun S => specs_nil)
structure ItP where
  b : Bri
  q : Bool
  n : Nat
  ps : List Port
  i0 : Int
  l : Nat
def ItP.hp (p : ItP) : Heap := [(1, p.b.sv (.slr 0 p.n 0 p.q) (.sl 0) (.sl 1)), (2, .v (.int .i64 p.i0)), (0, .rows (.port p.ps))]
def ItP.sl (p : ItP) (i : SV) : Slots := [(0, [], .fn (.yield p.l) [] []), (1, [], .ptr 1 0), (2, [], .ptr 2 0), (7, [], .slr 0 p.n 0 p.q), (8, [], .v (.int .i64 p.n)), (9, [], i)]
def itTs : List Nat := [0, 1, 2, 4, 5, 7, 8, 9, 21, 22, 23, 26]
def ItP.at (p : ItP) (i : SV) : St := ⟨p.sl i, p.hp, 3⟩
noncomputable abbrev itC : Code := lpOf 68 0
noncomputable abbrev itN : Nat := (fnOf 68).ntmps
theorem it_enter (S : Stat) (p : ItP) : (trimO [0, 1, 2, 7, 8, 9] 3 (exec (cI (S.rd 0 3)) itN 20 (.region 0 (regL 68 0).toArray false) ⟨[(0, [], .fn (.yield p.l) [] []), (1, [], .ptr 1 0), (2, [], .ptr 2 0)], p.hp, 3⟩)) = .ret (.nrm, p.at (.ki .i64 0)) := by kernel_rfl
theorem it_head (S : Stat) (p : ItP) (i : Int) : Out.way [true] (trimO [0, 1, 2, 7, 8, 9] 3 (exec (cI (S.rd 0 3)) itN 20 (headC 2 itC) (p.at (.v (.int .i64 i))))) = some ([decide (i < p.n)], (.nrm, p.at (.v (.int .i64 i)))) := by kernel_rfl
theorem it_over (S : Stat) (p : ItP) (i : Int) : Out.way [false] (trimO [0, 1, 2, 7, 8, 9] 3 (exec (cI (S.rd 0 3)) itN 20 itC (p.at (.v (.int .i64 i))))) = some ([decide (i < p.n)], (.exit 0, p.at (.v (.int .i64 i)))) := by kernel_rfl
theorem it_code : tailC 2 itC = .seq (.block 1 (.seq (.region 2 (regL 68 2).toArray false) (.seq (.region 3 (regL 68 3).toArray false) (.cond (.tmp 26) .ret .skip)))) (.region 4 (regL 68 4).toArray false) := by kernel_rfl
def ItP.pt (p : ItP) (i : Int) : Port := p.ps.getD i.toNat Port.dflt
def ItP.st2 (p : ItP) (i : Int) : St := ⟨[(0, [], .fn (.yield p.l) [] []), (1, [], .ptr 1 0), (2, [], .ptr 2 0), (4, [], .v (.int .i64 i)), (5, [], .ptr 3 0), (7, [], .slr 0 p.n 0 p.q), (8, [], .v (.int .i64 p.n)), (9, [], .v (.int .i64 i))], (3, .rcd (.port (p.pt i))) :: p.hp, 4⟩
theorem it_2 (S : Stat) (p : ItP) (i : Int) : Out.way [true, true] (trimO itTs 4 (exec (cI (S.rd 0 3)) itN 20 (.region 2 (regL 68 2).toArray false) (p.at (.v (.int .i64 i))))) = some ([decide (0 ≤ i) && decide (i < p.n), decide (i.toNat < p.ps.length)], (.nrm, p.st2 i)) := by kernel_rfl
noncomputable abbrev itO : List Oper := regL 68 3
def trimR (ts : List Nat) (nx : Nat) (o : Out St) : Out St := o.bind fun st => .ret (trimSt ts nx st)
theorem trimR_sel {ts : List Nat} {nx : Nat} {o : Out St} {st1 : St} (h : (trimR ts nx o).sel = some st1) : ∃ st0, o.sel = some st0 ∧ st1 = trimSt ts nx st0 := by
  unfold trimR at h
  rw [Out.sel_bind] at h
  cases h0 : o.sel with
  | none => rw [h0] at h; cases h
  | some r =>
    rw [h0] at h
    simp only [Option.bind_some, Out.sel, Option.some.injEq] at h
    exact ⟨r, rfl, h.symm⟩
/-- is it told? -/
def ItP.goes (p : ItP) (i : Int) : Bool := (i != p.i0) && openP (p.pt i)
def ItP.st3 (p : ItP) (i : Int) (r : Slots) : St := ⟨[(0, [], .fn (.yield p.l) [] []), (1, [], .ptr 1 0), (2, [], .ptr 2 0), (4, [], .v (.int .i64 i)), (7, [], .slr 0 p.n 0 p.q), (8, [], .v (.int .i64 p.n)), (9, [], .v (.int .i64 i))] ++ r, p.hp, 3⟩
def it3T : List Nat := [0, 1, 2, 4, 7, 8, 9, 21, 22, 23, 24, 26]
theorem it_3a (S : Stat) (p : ItP) (i : Int) : trimR it3T 3 (region (cI (S.rd 0 3)) itN itO (itO.take 8) (p.st2 i)) = .ret (p.st3 i [(21, [], .v (.bool (p.goes i)))]) := by kernel_rfl
theorem it_3n (S : Stat) (p : ItP) (i : Int) : trimR it3T 3 (region (cI (S.rd 0 3)) itN itO (itO.drop 8) (p.st3 i [(21, [], .kb false)])) = .ret (p.st3 i [(21, [], .kb false), (22, [], .v undef), (23, [], .v undef), (24, [], .v undef), (26, [], .kb false)]) := by kernel_rfl
theorem it_3b (S : Stat) (p : ItP) (i : Int) : trimR it3T 3 (region (cI (S.rd 0 3)) itN itO ((itO.drop 8).take 2) (p.st3 i [(21, [], .kb true)])) = .ret (p.st3 i [(21, [], .kb true), (22, [], .fn (.yield p.l) [] []), (23, [], .v (.int .i64 i))]) := by kernel_rfl
theorem it_3c (S : Stat) (p : ItP) (i : Int) (b : Bool) : trimR it3T 3 (region (cI (S.rd 0 3)) itN itO (itO.drop 11) (p.st3 i [(21, [], .kb true), (24, [], .kb b)])) = .ret (p.st3 i [(21, [], .kb true), (24, [], .kb b), (26, [], .kb (!b))]) := by kernel_rfl
def ItP.st3x (p : ItP) (i : Int) (r : Slots) : St := ⟨(p.st3 i r).slots, [], 3⟩
theorem it_3x (S : Stat) (p : ItP) (i : Int) : trimR it3T 3 (region (cI (S.rd 0 3)) itN itO (itO.drop 11) (p.st3x i [(21, [], .kb true), (24, [], .kb false)])) = .ret (p.st3x i [(21, [], .kb true), (24, [], .kb false), (26, [], .kb true)]) := by kernel_rfl
theorem it_3p (p : ItP) (i : Int) (b : Bool) : (putSlot (p.st3 i [(21, [], .kb true), (22, [], .fn (.yield p.l) [] []), (23, [], .v (.int .i64 i))]).slots itN (some 24) [] (some (.kb b))).map (fun s => keepT s [0, 1, 2, 4, 7, 8, 9, 21, 24]) = some (p.st3 i [(21, [], .kb true), (24, [], .kb b)]).slots := by kernel_rfl
theorem it_3y : itO.drop 10 = opAt 68 3 10 :: itO.drop 11 := by kernel_rfl
theorem it_3o : (opAt 68 3 10).op = .call { callee := .value (.tmp 22), args := #[.tmp 23], argTypes := #[3] } := by kernel_rfl
theorem it_3d : (opAt 68 3 10).dst = some 24 := by kernel_rfl
theorem it_3g (p : ItP) (i : Int) : guarded (p.st3 i [(21, [], .kb true), (22, [], .fn (.yield p.l) [] []), (23, [], .v (.int .i64 i))]).slots itO (opAt 68 3 10) = some (some []) := by kernel_rfl
theorem it_end (S : Stat) (p : ItP) (i : Int) : trimO [0, 1, 2, 7, 8, 9] 3 (exec (cI (S.rd 0 3)) itN 20 (.region 4 (regL 68 4).toArray false) (p.st3 i [])) = .ret (.nrm, p.at (.v (.int .i64 (IntKind.i64.wrap (i + 1))))) := by kernel_rfl

/-- what a round keeps: all that lay, but for a box -/
structure Kept (B bx : Nat) (w w' : World) : Prop where
  os : w'.os = w.os
  tape : w'.tape = w.tape
  output : w'.output = w.output
  size : w.heap.size ≤ w'.heap.size
  blk : ∀ k, k < B → k ≠ bx → w'.heap[k]? = w.heap[k]?
theorem Kept.refl (B bx : Nat) (w : World) : Kept B bx w w := ⟨rfl, rfl, rfl, Nat.le_refl _, fun _ _ _ => rfl⟩
theorem Kept.trans {B bx : Nat} {a b c : World} (h : Kept B bx a b) (k : Kept B bx b c) : Kept B bx a c :=
  ⟨k.os.trans h.os, k.tape.trans h.tape, k.output.trans h.output, Nat.le_trans h.size k.size, fun i hi hx => (k.blk i hi hx).trans (h.blk i hi hx)⟩
theorem Fr.grown {w w' : World} (h : Fr w w' (fun _ _ => False)) : w.grownBy w' none := by
  have hb := h.below
  exact ⟨hb.os, hb.tape, hb.output, hb.size, fun k hk _ => hb.block k hk⟩
def oth (i0 : Int) : Nat → List Port → List Int
  | _, [] => []
  | i, p :: r => if ((i : Int) != i0 && openP p) = true then (i : Int) :: oth i0 (i + 1) r else oth i0 (i + 1) r
def ItF (S : Stat) (E : Env) (p : ItP) (W : World) : Prop := ∀ k x, p.hp.get k = some x → 0 < x.size → At W (E.ad k) (x.cells (S.rd 0 3) E)
theorem hp_lt {p : ItP} {k : Nat} {x : SV} (h : p.hp.get k = some x) : k < 3 := by
  unfold ItP.hp at h
  simp only [Heap.get_cons] at h
  repeat' split at h
  · omega
  · omega
  · omega
  · cases h
theorem hp_fo {S : Stat} {p : ItP} {k : Nat} {x : SV} (h : p.hp.get k = some x) : x.foOk S := by
  unfold ItP.hp at h
  simp only [Heap.get_cons] at h
  repeat' split at h
  · injection h with h; subst h; trivial
  · injection h with h; subst h; trivial
  · injection h with h; subst h; trivial
  · cases h
theorem it_sat {S : Stat} {E : Env} {p : ItP} {s : Slots} {a : Act} {W : World} (h : ItF S E p W) (hs : SlotsOk (S.rd 0 3) E s a) (hz : a.tmps.size = itN) (hd : a.defers = []) : Sat (cI (S.rd 0 3)) itN W (fun _ _ => False) E ⟨s, p.hp, 3⟩ a W := by
  have hS : (cI (S.rd 0 3)).S = S.rd 0 3 := cI_fam.S _
  have hro : ∀ k x, p.hp.get k = some x → (S.rd 0 3).ro k = true := fun k x hk => by
    have := hp_lt hk
    show Nat.blt k 3 = true
    simp [Nat.blt]; omega
  refine ⟨by rw [hS]; exact hs, by rw [hS]; exact ⟨h, fun k x hk _ _ hr => absurd ((hro k x hk).symm.trans hr) (by simp), fun k k' x x' _ hk _ _ _ hr => absurd ((hro k x hk).symm.trans hr) (by simp), fun k x hk => hp_fo hk⟩, ?_, Fr.refl _ _, by rw [cI_fam.win]; intro n j k z hm; (cases hm), by rw [cI_fam.win]; intro n j k z hm; (cases hm), hz, hd⟩
  rw [hS]
  intro k x hk hr
  rw [hro k x hk] at hr; cases hr
theorem hp_bnd {p : ItP} {k : Nat} {x : SV} (h : p.hp.get k = some x) : x.bnd 3 = true := by
  unfold ItP.hp at h
  simp only [Heap.get_cons] at h
  repeat' split at h
  · injection h with h; subst h; rfl
  · injection h with h; subst h; rfl
  · injection h with h; subst h; rfl
  · cases h
theorem ItF.env {S : Stat} {E E' : Env} {p : ItP} {W : World} (h : ItF S E p W) (hu : Env.upto 3 E E') : ItF S E' p W := by
  intro k x hk hp
  rw [(hu k (hp_lt hk)).1, SV.cells_upto _ hu x (hp_bnd hk)]
  exact h k x hk hp
/-- a round keeps what is gone by -/
def ItK (S : Stat) (E : Env) (p : ItP) (Kp : World → World → Prop) : Prop := ∀ W W', ItF S E p W → Kp W W' → ItF S E p W'
theorem Env.upto.symm {n : Nat} {E E' : Env} (h : Env.upto n E E') : Env.upto n E' E := fun k hk => ⟨(h k hk).1.symm, (h k hk).2.symm⟩
theorem ItK.env {S : Stat} {E E' : Env} {p : ItP} {Kp : World → World → Prop} (h : ItK S E p Kp) (hu : Env.upto 3 E E') : ItK S E' p Kp := fun W W' hf hk => (h W W' (hf.env hu.symm) hk).env hu
theorem ItF.of_sat {S : Stat} {E : Env} {p : ItP} {s : Slots} {w0 : World} {M : Nat → Nat → Prop} {a : Act} {W : World} (h : Sat (cI (S.rd 0 3)) itN w0 M E ⟨s, p.hp, 3⟩ a W) : ItF S E p W := by
  have := h.hs.at_
  rw [cI_fam.S] at this
  exact this
theorem act_put_at {a : Act} {t : Nat} {v : Value} (h : t < a.tmps.size) : (a.put (some t) v).tmps[t]? = some v := by
  show (a.tmps.setIfInBounds t v)[t]? = some v
  simp [h]
theorem act_put_ne {a : Act} {t u : Nat} {v : Value} (h : u ≠ t) : (a.put (some t) v).tmps[u]? = a.tmps[u]? := by
  show (a.tmps.setIfInBounds t v)[u]? = _
  simp [Array.getElem?_setIfInBounds, Ne.symm h]
section
variable {S : Stat} {p : ItP} {m : Nat} {Kp : World → World → Prop} {J Jx : List Int → World → Prop} {tot : List Int}
noncomputable def itQ (J Jx : List Int → World → Prop) (tot : List Int) : Exit → Act → World → Prop := fun e a w => (e = .exit 0 ∧ a.defers = [] ∧ J tot w) ∨ (e = .ret ∧ a.defers = [] ∧ ∃ pre, Jx pre w)
theorem it_rounds (hn : p.ps.length = p.n) (hn2 : p.n ≤ 67108864) (hJ : ∀ s W W', J s W → W.grownBy W' none → J s W') (hJx : ∀ s W W', Jx s W → W.grownBy W' none → Jx s W')
    (hY : ∀ pre x W1, J pre W1 → pre.length < p.ps.length → YieldAt Fence.wide m Try.prog p.l #[.int .i64 x] W1 fun e W' => (e = .returned (.bool true) ∧ J (pre ++ [x]) W' ∧ Kp W1 W') ∨ (e = .returned (.bool false) ∧ Jx (pre ++ [x]) W')) :
    ∀ (k i : Nat) (pre : List Int) (E : Env) (a : Act) (W : World), i ≤ p.n → p.n - i < k → J pre W → pre.length ≤ i → pre ++ oth p.i0 i (p.ps.drop i) = tot → ItK S E p Kp →
      Sat (cI (S.rd 0 3)) itN W (fun _ _ => False) E (p.at (.v (.int .i64 i))) a W → Code.rounds Try.prog itC (itQ J Jx tot) k a W
  | 0, _, _, _, _, _, _, h, _, _, _, _, _ => absurd h (Nat.not_lt_zero _)
  | k + 1, i, pre, E, a, W, hi, hk, hj, hpl, ht, hE, sat => by
    have hfull := cI_fam.full (S.rd 0 3)
    have hwin := cI_fam.win (S.rd 0 3)
    have hS : (cI (S.rd 0 3)).S = S.rd 0 3 := cI_fam.S _
    have hl : ∀ code, LoopsOk Try.prog (cI (S.rd 0 3)) itN code := fun code => LoopsOk.none (cI_fam.loop _) code
    rw [rounds_succ]
    by_cases hlt : i < p.n
    · have hii : (i : Int) < p.n := by omega
      have hps : i < p.ps.length := by omega
      obtain ⟨s0, h0, e0⟩ := trimO_sel (Out.way_sel (it_head S p i) (by rw [decide_eq_true hii]))
      refine cutC hfull (draw_ok hfull) 2 _ _ .nrm s0 a W E (hl _) sat h0 (fun _ E1 a1 w1 hu1 _ sat1 => ?_) (fun h => absurd rfl h)
      have sat1 := sat1.trim hwin [0, 1, 2, 7, 8, 9] 3
      rw [← e0] at sat1
      rw [it_code]
      refine wp_seq (wp_block (wp_seq ?_))
      obtain ⟨s2, h2, e2⟩ := trimO_sel (Out.way_sel (it_2 S p i) (by rw [decide_eq_true hii]; simp [hps]))
      refine exec_ok hfull (draw_ok hfull) _ (hl _) _ _ _ _ _ _ a1 w1 E1 sat1 h2 ?_
      intro E2 a2 w2 hu2 _ sat2
      have sat2 := sat2.trim hwin itTs 4
      rw [← e2] at sat2
      have hu02 : Env.upto 3 E E2 := hu1.trans hu2 (Nat.le_refl _)
      show (Code.seq _ _).wp _ _ a2 w2
      refine wp_seq ?_
      have hact : ∀ a : Act, PathHolds a [] := fun _ _ _ hm => by cases hm
      -- behind the third region: on, or out
      have hback : ∀ (E' : Env) (a' : Act) (w' : World) (pre' : List Int) (r : Slots), Env.upto 3 E E' → Sat (cI (S.rd 0 3)) itN w' (fun _ _ => False) E' (p.st3 i ((26, [], .kb false) :: r)) a' w' → J pre' w' → pre'.length ≤ i + 1 → pre' ++ oth p.i0 (i + 1) (p.ps.drop (i + 1)) = tot →
          (Code.cond (.tmp 26) .ret .skip).wp Try.prog (Exit.inBlock 1 (Exit.then ((Code.region 4 (regL 68 4).toArray false).wp Try.prog (Exit.then (Code.rounds Try.prog itC (itQ J Jx tot) k) (itQ J Jx tot))) (Exit.then (Code.rounds Try.prog itC (itQ J Jx tot) k) (itQ J Jx tot)))) a' w' := by
        intro E' a' w' pre' r hu' sat' hj' hpl' ht'
        have hv : a'.eval (.tmp 26) = .bool false := by
          have := (sat'.slots 26 [] (.kb false) rfl).1 (hact _)
          simp [Act.eval, this, SV.den]
        refine wp_cond_false hv (wp_skip ?_)
        show (Code.region 4 _ false).wp _ _ a' w'
        have sat4 := sat'.trim hwin [0, 1, 2, 4, 7, 8, 9] 3
        obtain ⟨s5, h5, e5⟩ := trimO_sel (congrArg Out.sel (it_end S p i))
        refine exec_ok hfull (draw_ok hfull) _ (hl _) _ _ _ _ _ _ a' w' E' sat4 h5 ?_
        intro E5 a5 w5 hu5 _ sat5
        have sat5 := sat5.trim hwin [0, 1, 2, 7, 8, 9] 3
        rw [← e5] at sat5
        show Code.rounds _ _ _ k a5 w5
        have hu05 : Env.upto 3 E E5 := hu'.trans hu5 (Nat.le_refl _)
        have hw5 : IntKind.i64.wrap ((i : Int) + 1) = ((i + 1 : Nat) : Int) := wrap_succ (n := 67108865) (by omega) (by omega)
        rw [hw5] at sat5
        exact it_rounds hn hn2 hJ hJx hY k (i + 1) pre' E5 a5 w5 (by omega) (by omega) (hJ _ _ _ hj' sat5.fr.grown) hpl' ht' (hE.env hu05) (it_sat (ItF.of_sat sat5) sat5.slots sat5.size sat5.defers)
      have hout : ∀ (a' : Act) (w' : World) (v : Value), a'.tmps[26]? = some (.bool true) → a'.defers = [] → (∃ pre, Jx pre w') →
          (Code.cond (.tmp 26) .ret .skip).wp Try.prog (Exit.inBlock 1 (Exit.then ((Code.region 4 (regL 68 4).toArray false).wp Try.prog (Exit.then (Code.rounds Try.prog itC (itQ J Jx tot) k) (itQ J Jx tot))) (Exit.then (Code.rounds Try.prog itC (itQ J Jx tot) k) (itQ J Jx tot)))) a' w' := by
        intro a' w' v h1 h2 h3
        exact wp_cond_true (by simp [Act.eval, h1]) (wp_ret (.inr ⟨rfl, h2, h3⟩))
      have hdrop : p.ps.drop i = p.pt i :: p.ps.drop (i + 1) := by
        rw [List.drop_eq_getElem_cons hps]
        congr 1
        unfold ItP.pt
        simp [List.getD, List.getElem?_eq_getElem hps]
      rw [hdrop] at ht
      have sat2b := sat2.fr.grown
      generalize hQ3 : (Exit.then ((Code.cond (.tmp 26) .ret .skip).wp Try.prog _) _) = Q3
      have hQn : ∀ a w, (Code.cond (.tmp 26) .ret .skip).wp Try.prog (Exit.inBlock 1 (Exit.then ((Code.region 4 (regL 68 4).toArray false).wp Try.prog (Exit.then (Code.rounds Try.prog itC (itQ J Jx tot) k) (itQ J Jx tot))) (Exit.then (Code.rounds Try.prog itC (itQ J Jx tot) k) (itQ J Jx tot)))) a w → Q3 .normal a w := by
        intro a w h; rw [← hQ3]; exact h
      refine (wpIn_wide (n := m + 1)).1 ?_
      have hreg : wpListIn Fence.wide (m + 1) Try.prog itO.toArray Q3 itO a2 w2 → (Code.region 3 itO.toArray false).wpIn Fence.wide (m + 1) Try.prog Q3 a2 w2 := fun h => wpIn_region_lit h
      refine hreg ?_
      -- the test
      obtain ⟨s3, h3, e3⟩ := trimR_sel (congrArg Out.sel (it_3a S p i))
      have key := list_wide (P := Try.prog) (n := m + 1) (ops := itO.toArray) (Q := Q3) (l2 := itO.drop 8) (R := fun a w => wpListIn Fence.wide (m + 1) Try.prog itO.toArray Q3 (itO.drop 8) a w) (Q1 := fun e a w => e = .normal ∧ wpListIn Fence.wide (m + 1) Try.prog itO.toArray Q3 (itO.drop 8) a w) (fun e a w h => h) (fun a w h => h) (itO.take 8) a2 w2
        (region_ok hfull itO (itO.take 8) _ _ a2 w2 E2 sat2 h3 (fun E3 a3 w3 hu3 _ sat3 => ⟨rfl, ?_⟩))
      · rw [List.take_append_drop] at key
        exact key
      have hu03 : Env.upto 3 E E3 := hu02.trans (show Env.upto 3 E2 E3 from fun q hq => hu3 q (by show q < 4; omega)) (Nat.le_refl _)
      have sat3 := sat3.trim hwin it3T 3
      rw [← e3] at sat3
      have hv21 : a3.tmps[21]? = some (.bool (p.goes i)) := (sat3.slots 21 [] (.v (.bool (p.goes i))) rfl).1 (hact _)
      cases hgo : p.goes i with
      | false =>
        rw [hgo] at hv21
        have satk : Sat (cI (S.rd 0 3)) itN W (fun _ _ => False) E3 (p.st3 i [(21, [], .kb false)]) a3 w3 := sat3.know hv21
        obtain ⟨s4, h4, e4⟩ := trimR_sel (congrArg Out.sel (it_3n S p i))
        have key := list_wide (P := Try.prog) (n := m + 1) (ops := itO.toArray) (Q := Q3) (l2 := []) (R := fun a w => Q3 .normal a w) (Q1 := fun e a w => e = .normal ∧ Q3 .normal a w) (fun e a w h => h) (fun a w h => h) (itO.drop 8) a3 w3
          (region_ok hfull itO (itO.drop 8) _ _ a3 w3 E3 satk h4 (fun E4 a4 w4 hu4 _ sat4 => ⟨rfl, ?_⟩))
        · rw [List.append_nil] at key
          exact key
        have sat4 := sat4.trim hwin it3T 3
        rw [← e4] at sat4
        have sat4 := sat4.trim hwin [0, 1, 2, 4, 7, 8, 9, 26] 3
        have hu04 : Env.upto 3 E E4 := hu03.trans hu4 (Nat.le_refl _)
        have hoth : oth p.i0 i (p.pt i :: p.ps.drop (i + 1)) = oth p.i0 (i + 1) (p.ps.drop (i + 1)) := by
          have : ((i : Int) != p.i0 && openP (p.pt i)) = false := hgo
          rw [oth, this]; rfl
        rw [hoth] at ht
        exact hQn _ _ (hback E4 a4 w4 pre [] hu04 (it_sat (ItF.of_sat sat4) sat4.slots sat4.size sat4.defers) (hJ _ _ _ hj sat4.fr.grown) (by omega) ht)
      | true =>
        rw [hgo] at hv21
        have satk : Sat (cI (S.rd 0 3)) itN W (fun _ _ => False) E3 (p.st3 i [(21, [], .kb true)]) a3 w3 := sat3.know hv21
        obtain ⟨s4, h4, e4⟩ := trimR_sel (congrArg Out.sel (it_3b S p i))
        have key := list_wide (P := Try.prog) (n := m + 1) (ops := itO.toArray) (Q := Q3) (l2 := itO.drop 10) (R := fun a w => wpListIn Fence.wide (m + 1) Try.prog itO.toArray Q3 (itO.drop 10) a w) (Q1 := fun e a w => e = .normal ∧ wpListIn Fence.wide (m + 1) Try.prog itO.toArray Q3 (itO.drop 10) a w) (fun e a w h => h) (fun a w h => h) ((itO.drop 8).take 2) a3 w3
          (region_ok hfull itO ((itO.drop 8).take 2) _ _ a3 w3 E3 satk h4 (fun E4 a4 w4 hu4 _ sat4 => ⟨rfl, ?_⟩))
        · have e8 : (itO.drop 8).take 2 ++ itO.drop 10 = itO.drop 8 := by
            have := List.take_append_drop 2 (itO.drop 8)
            rwa [List.drop_drop] at this
          rw [e8] at key
          exact key
        have sat4 := sat4.trim hwin it3T 3
        rw [← e4] at sat4
        have hu04 : Env.upto 3 E E4 := hu03.trans hu4 (Nat.le_refl _)
        rw [it_3y]
        obtain ⟨hw1, _⟩ := (guarded_ok (it_3g p i) sat4.slots).1 [] rfl
        unfold wpListIn
        rw [if_pos (hw1 (hact _))]
        refine ⟨fun _ _ => trivial, ?_⟩
        obtain ⟨fn, tmps, assign, body, hy, hR⟩ := hY pre i w4 (hJ _ _ _ hj sat4.fr.grown) (by omega)
        have ev22 : a4.tmps[22]? = some (.func (.yield p.l) #[] #[]) := by
          have := (sat4.slots 22 [] (.fn (.yield p.l) [] []) rfl).1 (hact _)
          simpa [SV.den, SV.cellss] using this
        have ev23 : a4.tmps[23]? = some (.int .i64 i) := by
          have := (sat4.slots 23 [] (.v (.int .i64 i)) rfl).1 (hact _)
          simpa [SV.den] using this
        have hrun : ((opAt 68 3 10).semAt Fence.wide.round a4.eval).run Try.prog w4 = .ok (.round p.l fn tmps assign body) w4 := by
          rw [show Fence.wide.round = none from rfl, Oper.semAt_none]
          unfold execOp
          rw [it_3o]
          simp [resolve, Deferred.ofValue, ev22, ev23, invoke, go_sem, hy]
        rw [hrun]
        refine ⟨fun hd => by (cases hd), hR.mono fun e W' he => ?_⟩
        have hslots : ∀ b : Bool, SlotsOk (S.rd 0 3) E4 (p.st3 i [(21, [], .kb true), (24, [], .kb b)]).slots (a4.put (some 24) (.bool b)) := by
          intro b
          obtain ⟨s', hs', he'⟩ := Option.map_eq_some_iff.1 (it_3p p i b)
          have h0 := putSlot_ok hs' sat4.slots sat4.size (v := .bool b) (fun _ => rfl) (fun hh => absurd (hact _) hh)
          rw [← he']
          rw [hS] at h0
          exact fun d q x hx => h0 d q x (keepT_get hx)
        have hsz : ∀ b : Bool, (a4.put (some 24) (.bool b)).tmps.size = itN := fun b => by rw [Act.put_size]; exact sat4.size
        have hdf : ∀ b : Bool, (a4.put (some 24) (.bool b)).defers = [] := fun b => by rw [Act.put_defers']; exact sat4.defers
        have hoth : oth p.i0 i (p.pt i :: p.ps.drop (i + 1)) = (i : Int) :: oth p.i0 (i + 1) (p.ps.drop (i + 1)) := by
          have : ((i : Int) != p.i0 && openP (p.pt i)) = true := hgo
          rw [oth, this]; rfl
        rw [hoth] at ht
        rcases he with ⟨rfl, hj', hkept⟩ | ⟨rfl, hjx⟩
        · show wpListIn Fence.wide (m + 1) Try.prog itO.toArray Q3 (itO.drop 11) (a4.put (opAt 68 3 10).dst (.bool true)) W'
          rw [it_3d]
          have sat5 := it_sat ((hE.env hu04) _ _ (ItF.of_sat sat4) hkept) (hslots true) (hsz true) (hdf true)
          obtain ⟨s6, h6, e6⟩ := trimR_sel (congrArg Out.sel (it_3c S p i true))
          have key := list_wide (P := Try.prog) (n := m + 1) (ops := itO.toArray) (Q := Q3) (l2 := []) (R := fun a w => Q3 .normal a w) (Q1 := fun e a w => e = .normal ∧ Q3 .normal a w) (fun e a w h => h) (fun a w h => h) (itO.drop 11) _ W'
            (region_ok hfull itO (itO.drop 11) _ _ _ W' E4 sat5 h6 (fun E6 a6 w6 hu6 _ sat6 => ⟨rfl, ?_⟩))
          · rw [List.append_nil] at key
            exact key
          have sat6 := sat6.trim hwin it3T 3
          rw [← e6] at sat6
          have sat6 := sat6.trim hwin [0, 1, 2, 4, 7, 8, 9, 26] 3
          have hu06 : Env.upto 3 E E6 := hu04.trans hu6 (Nat.le_refl _)
          exact hQn _ _ (hback E6 a6 w6 (pre ++ [(i : Int)]) [] hu06 (it_sat (ItF.of_sat sat6) sat6.slots sat6.size sat6.defers) (hJ _ _ _ hj' sat6.fr.grown) (by simp; omega) (by rw [← ht]; simp))
        · show wpListIn Fence.wide (m + 1) Try.prog itO.toArray Q3 (itO.drop 11) (a4.put (opAt 68 3 10).dst (.bool false)) W'
          rw [it_3d]
          have hnone : ∀ k x, Heap.get [] k = some x → False := fun k x h => by cases h
          have sat5 : Sat (cI (S.rd 0 3)) itN W' (fun _ _ => False) E4 (p.st3x i [(21, [], .kb true), (24, [], .kb false)]) (a4.put (some 24) (.bool false)) W' :=
            ⟨by rw [hS]; exact hslots false, ⟨fun k x h => (hnone k x h).elim, fun k x h => (hnone k x h).elim, fun k k' x x' _ h => (hnone k x h).elim, fun k x h => (hnone k x h).elim⟩, fun k x h => (hnone k x h).elim, Fr.refl _ _, by rw [hwin]; intro n j k z hm; (cases hm), by rw [hwin]; intro n j k z hm; (cases hm), hsz false, hdf false⟩
          obtain ⟨s6, h6, e6⟩ := trimR_sel (congrArg Out.sel (it_3x S p i))
          have key := list_wide (P := Try.prog) (n := m + 1) (ops := itO.toArray) (Q := Q3) (l2 := []) (R := fun a w => Q3 .normal a w) (Q1 := fun e a w => e = .normal ∧ Q3 .normal a w) (fun e a w h => h) (fun a w h => h) (itO.drop 11) _ W'
            (region_ok hfull itO (itO.drop 11) _ _ _ W' E4 sat5 h6 (fun E6 a6 w6 hu6 _ sat6 => ⟨rfl, ?_⟩))
          · rw [List.append_nil] at key
            exact key
          have sat6 := sat6.trim hwin it3T 3
          rw [← e6] at sat6
          have h26 : a6.tmps[26]? = some (.bool true) := (sat6.slots 26 [] (.kb true) rfl).1 (hact _)
          exact hQn _ _ (hout a6 w6 .nilFunc h26 sat6.defers ⟨_, hJx _ _ _ hjx sat6.fr.grown⟩)
    · have hin : i = p.n := by omega
      subst hin
      have hno : ¬ ((p.n : Nat) : Int) < p.n := by omega
      obtain ⟨s0, h0, e0⟩ := trimO_sel (Out.way_sel (it_over S p p.n) (by rw [decide_eq_false hno]))
      refine exec_ok hfull (draw_ok hfull) _ (hl _) _ _ _ _ _ _ a W E sat h0 ?_
      intro E1 a1 w1 hu1 _ sat1
      refine .inl ⟨rfl, sat1.defers, ?_⟩
      have hd : p.ps.drop p.n = [] := List.drop_eq_nil_of_le (by omega)
      rw [hd, oth, List.append_nil] at ht
      rw [← ht]
      exact hJ _ _ _ hj sat1.fr.grown
end
theorem enter_slots {S : Stat} {E : Env} {args : List SV} {n : Nat} : SlotsOk S E (argSlots args 0) { tmps := (SV.dens S E args).toArray ++ Array.replicate (n - (SV.dens S E args).toArray.size) undef, defers := [] } := by
  have hdl : (SV.dens S E args).length = args.length := by simp [SV.dens_map]
  intro d p x hx
  obtain ⟨hp, _, hl⟩ := argSlots_get args 0 d (p, x) hx
  dsimp only at hp hl
  subst hp
  refine ⟨fun _ => ?_, fun hh => absurd (fun t b hm => by cases hm) hh⟩
  have hlt : d < args.length := by
    have := (List.getElem?_eq_some_iff.1 hl).1
    omega
  rw [Array.getElem?_append_left (by simp [hdl]; omega)]
  simp only [List.getElem?_toArray, SV.dens_map, List.getElem?_map]
  rw [show d - 0 = d from rfl] at hl
  rw [hl]; rfl
theorem it_body : codeOf 68 = .seq (.region 0 (regL 68 0).toArray false) (.block 0 (.loop itC)) := by kernel_rfl
theorem it_args (p : ItP) : argSlots [.fn (.yield p.l) [] [], .ptr 1 0, .ptr 2 0] 0 = [(0, [], .fn (.yield p.l) [] []), (1, [], .ptr 1 0), (2, [], .ptr 2 0)] := rfl
theorem others_run {S : Stat} {p : ItP} {m : Nat} {Kp : World → World → Prop} {J Jx : List Int → World → Prop} {E : Env} {W : World} (hn : p.ps.length = p.n) (hn2 : p.n ≤ 67108864) (hJ : ∀ s W W', J s W → W.grownBy W' none → J s W') (hJx : ∀ s W W', Jx s W → W.grownBy W' none → Jx s W')
    (hY : ∀ pre x W1, J pre W1 → pre.length < p.ps.length → YieldAt Fence.wide m Try.prog p.l #[.int .i64 x] W1 fun e W' => (e = .returned (.bool true) ∧ J (pre ++ [x]) W' ∧ Kp W1 W') ∨ (e = .returned (.bool false) ∧ Jx (pre ++ [x]) W'))
    (hE : ItK S E p Kp) (hF : ItF S E p W) (h0 : J [] W) :
    Calls Try.prog 68 #[.func (.yield p.l) #[] #[], .pointer (some (E.place 1 0)), .pointer (some (E.place 2 0))] W fun e W' => (∃ v, e = .returned v) ∧ ((∃ xs, xs = oth p.i0 0 p.ps ∧ J xs W') ∨ (∃ pre, True ∧ Jx pre W')) := by
  have hfull := cI_fam.full (S.rd 0 3)
  have hwin := cI_fam.win (S.rd 0 3)
  have hl : ∀ code, LoopsOk Try.prog (cI (S.rd 0 3)) itN code := fun code => LoopsOk.none (cI_fam.loop _) code
  have hargs : (SV.dens (S.rd 0 3) E [.fn (.yield p.l) [] [], .ptr 1 0, .ptr 2 0]).toArray = #[.func (.yield p.l) #[] #[], .pointer (some (E.place 1 0)), .pointer (some (E.place 2 0))] := by
    simp [SV.dens, SV.den, SV.cellss]
  have hslots := enter_slots (S := S.rd 0 3) (E := E) (args := [.fn (.yield p.l) [] [], .ptr 1 0, .ptr 2 0]) (n := itN)
  rw [hargs] at hslots
  refine calls_of_wp (c := codeOf 68) Try.func68 (by kernel_rfl) ?_
  rw [it_body]
  have sat := it_sat hF hslots (by kernel_rfl) rfl
  obtain ⟨s0, h0', e0⟩ := trimO_sel (congrArg Out.sel (it_enter S p))
  refine wp_seq (exec_ok hfull (draw_ok hfull) _ (hl _) _ _ _ _ _ _ _ W E sat h0' ?_)
  intro E1 a1 w1 hu1 _ sat1
  have sat1 := sat1.trim hwin [0, 1, 2, 7, 8, 9] 3
  rw [← e0] at sat1
  refine wp_block (wp_mono (Q := itQ J Jx (oth p.i0 0 p.ps)) (wp_loop_rounds (p.n + 1) ?_) ?_)
  rotate_left
  · intro e a w he
    rcases he with ⟨rfl, hd, hj⟩ | ⟨rfl, hd, hj⟩
    · have hin : ∀ Q : Exit → Act → World → Prop, Q .normal a w → Exit.inBlock 0 Q (.exit 0) a w := fun Q h => by simp only [Exit.inBlock, if_true]; exact h
      refine hin _ ?_
      exact ⟨hd, _, results_none (by kernel_rfl) _ _ _, ⟨_, rfl⟩, .inl ⟨_, rfl, hj⟩⟩
    · obtain ⟨pre, hj⟩ := hj
      exact ⟨hd, _, results_none (by kernel_rfl) _ _ _, ⟨_, rfl⟩, .inr ⟨pre, trivial, hj⟩⟩
  have satv : Sat (cI (S.rd 0 3)) itN w1 (fun _ _ => False) E1 (p.at (.v (.int .i64 ((0 : Nat) : Int)))) a1 w1 := it_sat (ItF.of_sat sat1) (fun d q x hx => by
    have hx' : (p.sl (.v (.int .i64 0))).get d = some (q, x) := hx
    have hs := sat1.slots
    rw [cI_fam.S] at hs
    by_cases h9 : d = 9
    · subst h9
      have : (p.sl (.v (.int .i64 0))).get 9 = some ([], .v (.int .i64 0)) := rfl
      rw [this] at hx'
      obtain ⟨rfl, rfl⟩ := Prod.mk.inj (Option.some.inj hx')
      exact hs 9 [] (.ki .i64 0) rfl
    · refine hs d q x ?_
      have e : ∀ v, (p.sl v).get d = Slots.get [(0, [], .fn (.yield p.l) [] []), (1, [], .ptr 1 0), (2, [], .ptr 2 0), (7, [], .slr 0 p.n 0 p.q), (8, [], .v (.int .i64 p.n))] d := by
        intro v
        have h9' : Nat.beq 9 d = false := by
          cases hb : Nat.beq 9 d with
          | false => rfl
          | true => exact absurd (Nat.eq_of_beq_eq_true hb).symm h9
        simp [ItP.sl, Slots.get, h9']
      show (p.sl _).get d = _
      rw [e]
      rw [e] at hx'
      exact hx') sat1.size sat1.defers
  exact it_rounds (tot := oth p.i0 0 p.ps) hn hn2 hJ hJx hY (p.n + 1) 0 [] E1 a1 w1 (Nat.zero_le _) (by omega) (hJ _ _ _ h0 sat1.fr.grown) (Nat.le_refl _) rfl (hE.env hu1) satv
/-- the contract, as a range over it wants it -/
theorem others_stops {S : Stat} {b : Bri} {q : Bool} {ps : List Port} {i0 : Int} {n : Nat} {Kp : World → World → Prop} {E : Env} {w : World} (hn2 : ps.length ≤ 67108864) (hF : ∀ l, ItF S E ⟨b, q, ps.length, ps, i0, l⟩ w) (hE : ∀ l, ItK S E ⟨b, q, ps.length, ps, i0, l⟩ Kp) :
    SeqStopsK Fence.wide n Try.prog 68 #[.pointer (some (E.place 1 0)), .pointer (some (E.place 2 0))] (fun x : Int => #[Value.int .i64 x]) Kp (fun xs => xs = oth i0 0 ps) (fun _ => True) ps.length w := by
  intro l J Jx W hW hJ hJx hY h0
  have hF' : ItF S E ⟨b, q, ps.length, ps, i0, l⟩ W := fun k x hk hp => (hF l k x hk hp).blk (hW.block _ (hF l k x hk hp).lt) hW.size
  exact callsIn_wide.2 (others_run (S := S) (p := ⟨b, q, ps.length, ps, i0, l⟩) rfl hn2 (fun s W W' h hg => hJ s W W' none h hg (fun r e => by cases e)) (fun s W W' h hg => hJx s W W' none h hg (fun r e => by cases e)) hY (hE l) hF' h0)
end Go.Proofs.Ytfncoeoaniclmaa
