/- fordlaw07.FdbFull: its walk: few sizes, few numbers: each is run. -/
import Derived.Test.YtfncoeoaniclmaaFdbW
set_option linter.unusedVariables false
set_option maxRecDepth 100000
namespace Go.Proofs.Ytfncoeoaniclmaa
open Go Go.RowKit

/-- the first pieces of a code, and the rest -/
def takeSeq : Nat → Code → Code
  | 0, _ => .skip
  | k + 1, .seq x y => .seq x (takeSeq k y)
  | _ + 1, _ => .refuse default
def dropSeq : Nat → Code → Code
  | 0, c => c
  | k + 1, .seq x y => dropSeq k y
  | _ + 1, _ => .skip
theorem cut_ok {P : Program} {c : Ctx} {n fuel : Nat} (hc : CtxFull P c) (hd : DrawOk P c n) {w0 : World} {M : Nat → Nat → Prop} {Q : Exit → Act → World → Prop} : ∀ (k : Nat) (code : Code) (st st1 : St) (a : Act) (w : World) (E : Env), LoopsOk P c n code → Sat c n w0 M E st a w →
    (exec c n fuel (takeSeq k code) st).sel = some (.nrm, st1) → (∀ E' a' w', Env.upto st.next E E' → st.next ≤ st1.next → Sat c n w0 M E' st1 a' w' → (dropSeq k code).wp P Q a' w') → code.wp P Q a w
  | 0, code, st, st1, a, w, E, hl, sat, h, hK => by
    have h' : (Out.ret (Ex.nrm, st)).sel = some (.nrm, st1) := h
    simp only [Out.sel, Option.some.injEq, Prod.mk.injEq, true_and] at h'
    subst h'
    exact hK E a w (Env.upto.refl _ _) (Nat.le_refl _) sat
  | k + 1, code, st, st1, a, w, E, hl, sat, h, hK => by
    cases code with
    | seq x y =>
      have h' : ((exec c n fuel x st).bind fun r => match r.1 with | .nrm => exec c n fuel (takeSeq k y) r.2 | z => .ret (z, r.2)).sel = some (.nrm, st1) := h
      rw [Out.sel_bind] at h'
      cases h1 : (exec c n fuel x st).sel with
      | none => rw [h1] at h'; cases h'
      | some r =>
        obtain ⟨e1, st2⟩ := r
        rw [h1] at h'
        simp only [Option.bind_some] at h'
        refine wp_seq (exec_ok hc hd x (fun b hb => hl b (List.mem_append_left _ hb)) w0 M _ st st2 e1 a w E sat h1 ?_)
        intro E' a' w' hu hle sat'
        cases e1 with
        | nrm => exact cut_ok hc hd k y st2 st1 a' w' E' (fun b hb => hl b (List.mem_append_right _ hb)) sat' h' fun E'' a'' w'' hu2 hle2 sat2 => hK E'' a'' w'' (hu.trans hu2 hle) (Nat.le_trans hle hle2) sat2
        | exit i => simp [Out.sel] at h'
        | ret => simp [Out.sel] at h'
        | goto l => simp [Out.sel] at h'
    | _ => exact absurd h (by simp [takeSeq, exec, Out.sel])

noncomputable def psKV (S : Stat) : List (Nat × ReadFn) := (15, pureR pTrue) :: psK S
theorem psKV_ok (S : Stat) : ReadsOk S [] (psKV S) := .pure (fdbAwake S) <| psK_ok S
noncomputable def cKV (S : Stat) : Ctx := mkCtx S [] (psKV S) (ssK S) 20 4
theorem cKV_fam : Fam cKV := fam_of psKV_ok ssK_ok
noncomputable def fullC : Code := codeOf 5
def st1F (n : Int) (y : Int) : St := ⟨[(1, [], .v (.int .u8 y)), (5, [], .kb true), (6, [], .ki .i64 n)], [], 0⟩
noncomputable def stOf (o : Out (Ex × St)) : St := match o.sel with | some (_, s) => s | none => ⟨[], [], 0⟩
noncomputable def isN (o : Out (Ex × St)) : Bool := match o.sel with | some (.nrm, _) => true | _ => false
noncomputable def sB (S : Stat) (i : Nat) (y : Int) : Out (Ex × St) := exec (cKV (S.wt 0)) 105 20 (takeSeq 3 (dropSeq 3 fullC)) (st1F ((i + 2 : Nat) : Int) y)
noncomputable def sC (S : Stat) (i : Nat) (y : Int) : Out (Ex × St) := exec (cKV (S.wt 0)) 105 20 (takeSeq 1 (dropSeq 3 (dropSeq 3 fullC))) (stOf (sB S i y))
noncomputable def stD (S : Stat) (i k : Nat) : St := ⟨(9, [], .ki .i64 ((k : Nat) : Int)) :: keepT (stOf (sB S i 0)).slots [5, 6, 7], (stOf (sB S i 0)).heap, (stOf (sB S i 0)).next⟩
noncomputable def sD (S : Stat) (i k : Nat) : Out (Ex × St) := exec (cKV (S.wt 0)) 105 20 (dropSeq 1 (dropSeq 3 (dropSeq 3 fullC))) (stD S i k)
noncomputable def resD (S : Stat) (i k : Nat) : Option SV := resOf (cKV (S.wt 0)) (stOf (sD S i k)) [.tmp 4]
def isT : Option SV → Bool
  | some (.kb b) => b
  | some (.v (.bool b)) => b
  | _ => false
noncomputable def isR (o : Out (Ex × St)) : Bool := match o.sel with | some (.ret, _) => true | _ => false
noncomputable def slot9 (S : Stat) (i : Nat) (y : Int) : Option Int := match (stOf (sC S i y)).slots.get 9 with | some ([], .v (.int .i64 v)) => some v | _ => none
theorem isN_ok {o : Out (Ex × St)} (h : isN o = true) : o.sel = some (.nrm, stOf o) := by
  unfold isN at h
  split at h
  · rename_i s hs; unfold stOf; rw [hs]
  · cases h
theorem isR_ok {o : Out (Ex × St)} (h : isR o = true) : o.sel = some (.ret, stOf o) := by
  unfold isR at h
  split at h
  · rename_i s hs; unfold stOf; rw [hs]
  · cases h
theorem isT_ok {o : Option SV} (h : isT o = true) : ∃ v, o = some v ∧ ∀ S E, v.den S E = .bool true := by
  unfold isT at h
  split at h
  · subst h; exact ⟨_, rfl, fun _ _ => rfl⟩
  · subst h; exact ⟨_, rfl, fun _ _ => rfl⟩
  · cases h
theorem eight {P : Nat → Prop} (h0 : P 0) (h1 : P 1) (h2 : P 2) (h3 : P 3) (h4 : P 4) (h5 : P 5) (h6 : P 6) (h7 : P 7) : ∀ i, i < 8 → P i
  | 0, _ => h0
  | 1, _ => h1
  | 2, _ => h2
  | 3, _ => h3
  | 4, _ => h4
  | 5, _ => h5
  | 6, _ => h6
  | 7, _ => h7
  | i + 8, h => absurd h (by omega)
/-- all that is run, with one size -/
noncomputable def runsB (S : Stat) (i : Nat) (y : Int) : Bool := isN (sB S i y) && (isN (sC S i y) && Nat.beq (stOf (sC S i y)).next (stOf (sB S i 0)).next)
noncomputable def runsD (S : Stat) (i : Nat) : Bool := (List.range (i + 2)).all fun k => isR (sD S i k) && isT (resD S i k)
theorem full_b (S : Stat) (y : Int) : ∀ i, i < 8 → runsB S i y = true := eight (by kernel_rfl) (by kernel_rfl) (by kernel_rfl) (by kernel_rfl) (by kernel_rfl) (by kernel_rfl) (by kernel_rfl) (by kernel_rfl)
theorem full_d (S : Stat) : ∀ i, i < 8 → runsD S i = true := eight (by kernel_rfl) (by kernel_rfl) (by kernel_rfl) (by kernel_rfl) (by kernel_rfl) (by kernel_rfl) (by kernel_rfl) (by kernel_rfl)
theorem full_9 (S : Stat) (y : Int) : ∀ i, i < 8 → slot9 S i y = some ((IntKind.i64.wrap y).tmod ((i + 2 : Nat) : Int)) := eight (by kernel_rfl) (by kernel_rfl) (by kernel_rfl) (by kernel_rfl) (by kernel_rfl) (by kernel_rfl) (by kernel_rfl) (by kernel_rfl)
theorem full_s (S : Stat) (y : Int) : ∀ i, i < 8 → keepT (stOf (sC S i y)).slots [5, 6, 7] = keepT (stOf (sB S i 0)).slots [5, 6, 7] := eight (by kernel_rfl) (by kernel_rfl) (by kernel_rfl) (by kernel_rfl) (by kernel_rfl) (by kernel_rfl) (by kernel_rfl) (by kernel_rfl)
theorem full_h (S : Stat) (y : Int) : ∀ i, i < 8 → (stOf (sC S i y)).heap = (stOf (sB S i 0)).heap := eight (by kernel_rfl) (by kernel_rfl) (by kernel_rfl) (by kernel_rfl) (by kernel_rfl) (by kernel_rfl) (by kernel_rfl) (by kernel_rfl)
theorem full_a (S : Stat) (x y : Int) : trimO [1, 5, 6] 0 (exec (cKV (S.wt 0)) 105 20 (takeSeq 3 fullC) ⟨argSlots [.v (.int .u8 x), .v (.int .u8 y)] 0, [], 0⟩) =
    .ret (.nrm, ⟨[(1, [], .v (.int .u8 y)), (5, [], .kb true), (6, [], .v (.int .i64 (IntKind.i64.wrap (2 + IntKind.i64.wrap (x.tmod 8)))))], [], 0⟩) := by kernel_rfl

end Go.Proofs.Ytfncoeoaniclmaa
