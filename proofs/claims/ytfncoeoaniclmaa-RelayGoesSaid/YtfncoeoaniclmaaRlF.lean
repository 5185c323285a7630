/- relay.Flush. -/
import Derived.Test.YtfncoeoaniclmaaRlO
import Derived.Test.YtfncoeoaniclmaaOpenI
import Derived.Test.YtfncoeoaniclmaaRlT
set_option linter.unusedVariables false
set_option maxRecDepth 100000
namespace Go.Proofs.Ytfncoeoaniclmaa
section
open Go Go.RowKit

noncomputable def ssFl (S : Stat) : List (Nat × SpecFn) := (25, spc gFlush S) :: (21, spc gShort S) :: []
theorem ssFl_ok (S : Stat) : ∀ f g, (f, g) ∈ ssFl S → SpecOk S [] f g := specs_cons (spc_ok flush_ok S) <| specs_cons (spc_ok short_ok S) specs_nil
noncomputable def cFl (S : Stat) : Ctx := mkCtx S [] [] (ssFl S) 20 3
theorem cFl_fam : Fam cFl := fam_of (ps := fun _ => []) (fun S => .nil S []) ssFl_ok
structure BxP where
  b : Bri
  ps : List Port
  os : List Sent
  fs : List Int
def BxP.sv (p : BxP) (f : SV) : SV := p.b.sv (.slr 2 p.ps.length 2 false) (.slr 3 p.os.length 3 false) f
def BxP.fl (p : BxP) : SV := .slr 4 p.fs.length 4 false
def BxP.ls (p : BxP) : Heap := [(2, .rows (.port p.ps)), (3, .rows (.sent p.os)), (4, .rows (.int .i64 p.fs))]
structure FlP where
  p : BxP
  x : Int
  y : Int
  c : Nat
  l : PL
def FlP.hp (q : FlP) (f : SV) : Heap := (0, q.p.sv f) :: (1, .agg [.v (.int .i64 q.x), .v (.int .i64 q.y), .mp 5]) :: (5, .tab (.place .u64 q.c q.l)) :: q.p.ls
def flTs : List Nat := [0, 1, 9, 10, 11]
def flSt (q : FlP) (i : SV) : St := ⟨[(0, [], .ptr 0 0), (1, [], .ptr 1 0), (9, [], q.p.fl), (10, [], .v (.int .i64 q.p.fs.length)), (11, [], i)], q.hp q.p.fl, 6⟩
noncomputable def flR (S : Stat) (q : FlP) (i : Nat) : Out (Ex × St) := trimO flTs 6 (exec (cFl S) (fnOf 37).ntmps 20 (lpOf 37 0) (flSt q (.v (.int .i64 i))))
def inG (n : Nat) (i : Int) : Bool := decide (0 ≤ i) && decide (i < n)
def flSec (b : Bri) : Int := if b.rst = true then 0 else b.times.delay
def FlP.to (q : FlP) (l : PL) : FlP := ⟨q.p, q.x, q.y, q.c, l⟩
def flT (q : FlP) (i : Nat) : List Bool := [decide ((i : Int) < q.p.fs.length), inG q.p.fs.length i, decide (i < q.p.fs.length), q.p.b.rst, decide (q.l.length ≤ 67108864)]
theorem fl_rst (S : Stat) (q : FlP) (i : Nat) : Out.way [true, true, true, true, true] (flR (S.wt 0) q i) = some (flT q i, (.nrm, flSt (q.to (shortL (q.p.fs.getD i 0) 0 q.l)) (.v (.int .i64 (IntKind.i64.wrap (i + 1)))))) := by kernel_rfl
theorem fl_sht (S : Stat) (q : FlP) (i : Nat) : Out.way [true, true, true, false, true] (flR (S.wt 0) q i) = some (flT q i, (.nrm, flSt (q.to (shortL (q.p.fs.getD i 0) q.p.b.times.delay q.l)) (.v (.int .i64 (IntKind.i64.wrap (i + 1)))))) := by kernel_rfl
theorem fl_over (S : Stat) (q : FlP) (i : Nat) : Out.way [false] (flR (S.wt 0) q i) = some ([decide ((i : Int) < q.p.fs.length)], (.exit 0, flSt q (.v (.int .i64 i)))) := by kernel_rfl
def flAll (b : Bri) (fs : List Int) (l : PL) : PL := fs.foldl (fun l P => shortL P (flSec b) l) l
theorem shortL_le (P s : Int) (l : PL) : (shortL P s l).length ≤ l.length := by
  unfold shortL
  exact List.length_filterMap_le _ _
def flFin (q : FlP) (l : PL) : St := ⟨[(0, [], .ptr 0 0)], (q.to l).hp q.p.fl, 6⟩
def flOf (st : St) : Option (FlP × Bool) := match st.slots, st.heap with
  | [(0, [], .ptr 0 0), (1, [], .ptr 1 0), (9, [], .slr 4 m 4 false), (10, [], .v (.int .i64 m')), (11, [], .ki .i64 0)], h => (match h.get 0, h.get 1, h.get 2, h.get 3, h.get 4, h.get 5 with
    | some bx, some (.agg [.v (.int .i64 x), .v (.int .i64 y), .mp 5]), some (.rows (.port ps)), some (.rows (.sent os)), some (.rows (.int .i64 fs)), some (.tab (.place .u64 c l)) => (match unBri bx with
      | some (b, .slr 2 n0 2 false, .slr 3 n1 3 false, .slr 4 n2 4 false) => some (⟨⟨b, ps, os, fs⟩, x, y, c, l⟩, decide (n0 = ps.length ∧ n1 = os.length ∧ n2 = fs.length ∧ m = fs.length ∧ m' = fs.length ∧ m ≤ 67108864 ∧ l.length ≤ 67108864))
      | _ => none)
    | _, _, _, _, _, _ => none)
  | _, _ => none
theorem flOf_ok {st : St} {q : FlP} (h : flOf st = some (q, true)) (S : Stat) (E : Env) : (q.p.fs.length ≤ 67108864 ∧ q.l.length ≤ 67108864) ∧ ReD S st S (flSt (q.to q.l) (.v (.int .i64 0))) E := by
  unfold flOf at h
  split at h
  · rename_i m m' hsl
    split at h
    · rename_i bx x y ps os fs c l h0 h1 h2 h3 h4 h5
      split at h
      · rename_i b n0 n1 n2 hb
        obtain ⟨rfl, _, _⟩ := unBri_ok hb
        simp only [Option.some.injEq, Prod.mk.injEq, decide_eq_true_eq] at h
        obtain ⟨rfl, rfl, rfl, rfl, rfl, rfl, g1, g2⟩ := h
        refine ⟨⟨g1, g2⟩, ?_, ?_⟩
        · rw [hsl]
          exact ⟨⟨_, rfl, rfl⟩, ⟨_, rfl, rfl⟩, ⟨_, rfl, rfl⟩, ⟨_, rfl, rfl⟩, ⟨_, rfl, rfl⟩, trivial⟩
        · exact ⟨⟨_, h0, rfl, trivial⟩, ⟨_, h1, rfl, trivial⟩, ⟨_, h5, rfl, trivial⟩, ⟨_, h2, rfl, trivial⟩, ⟨_, h3, rfl, trivial⟩, ⟨_, h4, rfl, trivial⟩, trivial⟩
      · cases h
    · cases h
  · cases h
noncomputable def gFlL : LoopFn := onTrim 6 flTs fun st => match flOf st with
  | some (q, ok) => some (.ite ok (.ret (.exit 0, flFin q (flAll q.p.b q.p.fs q.l))) .bad)
  | none => none
theorem gFlL_ok (S : Stat) (ls : List (Nat × LoopFn)) : LoopOk Try.prog (withLoops (cFl (S.wt 0)) ls) (fnOf 37).ntmps (lpOf 37 0) gFlL := by
  refine loop_trim cFl_fam (nx := 6) (fuel := 20) (ts := flTs) (π := FlP) (α := Int) (τ := PL) (S.wt 0) (fun _ i => S.wt 0) (fun _ _ => rfl) (fun q => q.p.fs) (fun q i l => flSt (q.to l) (.v (.int .i64 i)))
    (fun q i l => q.p.fs.length ≤ 67108864 ∧ l.length ≤ 67108864) (fun q i P l => .go (shortL P (flSec q.p.b) l)) (fun q l => (.exit 0, flFin q l)) (fun _ _ _ => rfl) ?_ ?_ ?_
  · intro st o r ho hr
    split at ho
    · rename_i q ok hq
      injection ho with ho
      subst ho
      have hh := Out.ite_bad hr
      have hok := hh.1
      subst hok
      obtain rfl := Option.some.inj hh.2
      exact ⟨q, q.l, (flOf_ok hq S E0).1, (runL_fold (f := fun l P => shortL P (flSec q.p.b) l) (fin := fun l => (Ex.exit 0, flFin q l)) q.p.fs 0 q.l).symm, Nat.le_refl _, fun E => (flOf_ok hq _ E).2⟩
    · cases ho
  · intro q i P l he hinv
    obtain ⟨h1, h2⟩ := hinv
    have hi := (List.getElem?_eq_some_iff.1 he).1
    have hii : (i : Int) < q.p.fs.length := by omega
    have hP : q.p.fs.getD i 0 = P := by simp [List.getD, he]
    have hT : flT (q.to l) i = [true, true, true, q.p.b.rst, true] := by
      have hin : inG q.p.fs.length i = true := by unfold inG; rw [decide_eq_true hii]; simp
      show [decide ((i : Int) < q.p.fs.length), inG q.p.fs.length i, decide (i < q.p.fs.length), q.p.b.rst, decide (l.length ≤ 67108864)] = _
      rw [hin, decide_eq_true hii, decide_eq_true hi, decide_eq_true h2]
    have re : ∀ (v : FlP) (E : Env), ReD (S.wt 0) (flSt v (.v (.int .i64 (IntKind.i64.wrap (i + 1))))) (S.wt 0) (flSt v (.v (.int .i64 ((i + 1 : Nat) : Int)))) E := by
      intro v E
      rw [wrap_succ (n := 67108865) (by omega) (by omega)]
      exact ⟨⟨⟨_, rfl, rfl⟩, ⟨_, rfl, rfl⟩, ⟨_, rfl, rfl⟩, ⟨_, rfl, rfl⟩, ⟨_, rfl, rfl⟩, trivial⟩, ⟨_, rfl, rfl, trivial⟩, ⟨_, rfl, rfl, trivial⟩, ⟨_, rfl, rfl, trivial⟩, ⟨_, rfl, rfl, trivial⟩, ⟨_, rfl, rfl, trivial⟩, ⟨_, rfl, rfl, trivial⟩, trivial⟩
    have hle := shortL_le P (flSec q.p.b) l
    refine ⟨.nrm, flSt (q.to (shortL P (flSec q.p.b) l)) (.v (.int .i64 (IntKind.i64.wrap (i + 1)))), ?_, rfl, ⟨h1, by omega⟩, fun E => re _ E⟩
    cases hrst : q.p.b.rst with
    | true =>
      have hs : flSec q.p.b = 0 := by unfold flSec; rw [hrst]; rfl
      have h0 := fl_rst S (q.to l) i
      rw [show (q.to l).p.fs.getD i 0 = P from hP] at h0
      rw [hs]
      exact Out.way_sel h0 (by rw [hT, hrst])
    | false =>
      have hs : flSec q.p.b = q.p.b.times.delay := by unfold flSec; rw [hrst]; rfl
      have h0 := fl_sht S (q.to l) i
      rw [show (q.to l).p.fs.getD i 0 = P from hP] at h0
      rw [hs]
      exact Out.way_sel h0 (by rw [hT, hrst])
  · intro q l hinv
    have hn : ¬ ((q.p.fs.length : Nat) : Int) < q.p.fs.length := by omega
    exact ⟨.exit 0, flSt (q.to l) (.v (.int .i64 q.p.fs.length)), Out.way_sel (fl_over S (q.to l) q.p.fs.length) (by rw [show (q.to l).p = q.p from rfl, decide_eq_false hn]), rfl, by simp, fun E => ⟨⟨⟨_, rfl, rfl⟩, trivial⟩, ⟨_, rfl, rfl, trivial⟩, ⟨_, rfl, rfl, trivial⟩, ⟨_, rfl, rfl, trivial⟩, ⟨_, rfl, rfl, trivial⟩, ⟨_, rfl, rfl, trivial⟩, ⟨_, rfl, rfl, trivial⟩, trivial⟩⟩
noncomputable def flLs : List (Nat × LoopFn) := [(1, gFlL)]
theorem flLs_ok (S : Stat) : ∀ i k g, flLs[i]? = some (k, g) → LoopOk Try.prog (withLoops (cFl (S.wt 0)) flLs) (fnOf 37).ntmps (lpOf 37 i) g := by
  intro i k g h
  match i, h with
  | 0, h => injection h with h; injection h with h1 h2; subst h1 h2; exact gFlL_ok S _
  | i + 1, h => cases h
def FlP.hp0 (q : FlP) : Heap := (0, q.p.sv q.p.fl) :: (1, .agg [.v (.int .i64 q.x), .v (.int .i64 q.y), .mp 5]) :: (2, .rows (.port q.p.ps)) :: (3, .rows (.sent q.p.os)) :: (4, .rows (.int .i64 q.p.fs)) :: (5, .tab (.place .u64 q.c q.l)) :: []
def flT0 (q : FlP) : Bool := decide (q.p.ps.length = q.p.ps.length ∧ q.p.os.length = q.p.os.length ∧ q.p.fs.length = q.p.fs.length ∧ q.p.fs.length = q.p.fs.length ∧ (q.p.fs.length : Int) = q.p.fs.length ∧ q.p.fs.length ≤ 67108864 ∧ q.l.length ≤ 67108864)
theorem fl_walk (S : Stat) (q : FlP) : Out.way [true] (trimF 6 (inline (withLoops (cFl (S.wt 0)) flLs) 20 (fnOf 37) [.ptr 0 0, .ptr 1 0] q.hp0 6)) = some ([flT0 q], (.tup [], (q.to (flAll q.p.b q.p.fs q.l)).hp (.v (.slice none 0 0)), 6)) := by kernel_rfl
def flOf0 (args : List SV) (H : Heap) : Option (FlP × Bool) := match args, H with
  | [.ptr 0 0, .ptr 1 0], [(0, bx), (1, .agg [.v (.int .i64 x), .v (.int .i64 y), .mp 5]), (2, .rows (.port ps)), (3, .rows (.sent os)), (4, .rows (.int .i64 fs)), (5, .tab (.place .u64 c l))] => (match unBri bx with
    | some (b, .slr 2 n0 2 false, .slr 3 n1 3 false, .slr 4 n2 4 false) => some (⟨⟨b, ps, os, fs⟩, x, y, c, l⟩, decide (n0 = ps.length ∧ n1 = os.length ∧ n2 = fs.length))
    | _ => none)
  | _, _ => none
theorem flOf0_ok {args : List SV} {H : Heap} {q : FlP} (h : flOf0 args H = some (q, true)) : args = [.ptr 0 0, .ptr 1 0] ∧ H = q.hp0 := by
  unfold flOf0 at h
  split at h
  · split at h
    · rename_i hb
      obtain ⟨rfl, _, _⟩ := unBri_ok hb
      simp only [Option.some.injEq, Prod.mk.injEq, decide_eq_true_eq] at h
      obtain ⟨rfl, rfl, rfl, rfl⟩ := h
      exact ⟨rfl, rfl⟩
    · cases h
  · cases h
def ro6 (ro : Nat → Bool) : Bool := ((ro 0 || ro 1) || (ro 2 || ro 3)) || (ro 4 || ro 5)
theorem ro6_ok {ro : Nat → Bool} (h : ro6 ro = false) : ∀ k, k < 6 → ro k = false := by
  unfold ro6 at h
  simp only [Bool.or_eq_false_iff] at h
  intro k hk
  match k, hk with
  | 0, _ => exact h.1.1.1
  | 1, _ => exact h.1.1.2
  | 2, _ => exact h.1.2.1
  | 3, _ => exact h.1.2.2
  | 4, _ => exact h.2.1
  | 5, _ => exact h.2.2
  | k + 6, hk => omega
/-- what is to be forgotten is forgotten -/
def gRlFlush : CanonFn := fun ro args H m => match flOf0 args H with
  | some (q, ok) => bif ro6 ro || !(Nat.beq m 6) then .bad else .ite (ok && flT0 q) (.ret (.tup [], (q.to (flAll q.p.b q.p.fs q.l)).hp (.v (.slice none 0 0)), 6)) .bad
  | none => .bad
theorem hp0_lt {q : FlP} : ∀ k x, Heap.get q.hp0 k = some x → k < 6 := by
  intro k x hk
  unfold FlP.hp0 at hk
  simp only [Heap.get_cons] at hk
  repeat' split at hk
  all_goals first | omega | cases hk
theorem rlflush_ok : CanonOk 37 gRlFlush := by
  refine canon_ex cFl_fam Try.func37 (by kernel_rfl) flLs (by kernel_rfl) (by kernel_rfl) flLs_ok ?_
  intro S args H m r hr
  unfold gRlFlush at hr
  split at hr
  · rename_i q ok hq
    cases hb : (ro6 S.ro || !(Nat.beq m 6)) with
    | true => rw [hb] at hr; cases hr
    | false =>
      rw [hb] at hr
      simp only [cond_false] at hr
      obtain ⟨hc, hr2⟩ := Out.ite_bad hr
      obtain ⟨rfl, hT⟩ := Bool.and_eq_true_iff.1 hc
      obtain ⟨rfl, rfl⟩ := flOf0_ok hq
      obtain rfl := Option.some.inj hr2
      simp only [Bool.or_eq_false_iff, Bool.not_eq_false'] at hb
      have := Nat.eq_of_beq_eq_true hb.2; subst this
      exact ⟨fun k z hk => ro6_ok hb.1 k (hp0_lt k z hk), rfl, rfl, rfl, rfl, Nat.le_refl 6, 20, _, Out.way_sel (fl_walk S q) (by rw [hT]), rfl, rfl, fun _ _ => rfl⟩
  · cases hr
end

section
open Go Go.RowKit

/-- a loop where a name's chunk is another one each round, and is one from the start -/
theorem loop_ren2 {mk : Stat → Ctx} (hm : Fam mk) {ls : List (Nat × LoopFn)} {n nx fuel : Nat} {b : Code} {ts0 : List Nat} {π α τ : Type} (Sc : Stat) (cx : π → Nat → Ctx) (hcx : ∀ p i, CtxFull Try.prog (cx p i) ∧ (cx p i).win = [] ∧ LoopsOk Try.prog (cx p i) n b) (L : π → List α) (vw : π → Nat → τ → St) (inv : π → Nat → τ → Prop)
    (stp : π → Nat → α → τ → τ) (ex : Ex) (fin : π → τ → St) {f : St → Option (Out (Ex × St))} (hnx : ∀ p i x, (vw p i x).next = nx + 1) (hfx : ∀ p x, nx ≤ (fin p x).next)
    (hg : ∀ st o r, f st = some o → o.sel = some r → ∃ p x b1, inv p 0 x ∧ r = (ex, fin p (goL (stp p) (L p) 0 x)) ∧ ∀ E1 E2, Env.upto nx E1 E2 → E2.ad nx = E1.ad b1 → E2.cp nx = E1.cp b1 → ReN Sc E1 st (cx p 0).S E2 (swp nx b1) (vw p 0 x))
    (hstep : ∀ p i a x, (L p)[i]? = some a → inv p i x → ∃ ts ks st1 b1, (trimC ts ks (exec (cx p i) n fuel b (vw p i x))).sel = some (.nrm, st1) ∧ inv p (i + 1) (stp p i a x) ∧
      ∀ E1 E2, Env.upto nx E1 E2 → E2.ad nx = E1.ad b1 → E2.cp nx = E1.cp b1 → ReN (cx p i).S E1 st1 (cx p (i + 1)).S E2 (swp nx b1) (vw p (i + 1) (stp p i a x)))
    (hend : ∀ p x, inv p (L p).length x → ∃ ts ks st1 b1, (trimC ts ks (exec (cx p (L p).length) n fuel b (vw p (L p).length x))).sel = some (ex, st1) ∧ ex ≠ .nrm ∧
      ∀ E1 E2, Env.upto nx E1 E2 → E2.ad nx = E1.ad b1 → E2.cp nx = E1.cp b1 → ReN (cx p (L p).length).S E1 st1 Sc E2 (swp nx b1) (fin p x)) :
    LoopOk Try.prog (withLoops (mk Sc) ls) n b (onTrimB nx ts0 f) := by
  intro st o ho w0 M Q st' ex' a w E sat hsel hK
  obtain ⟨h1, hbnd, h2⟩ := onTrimB_some ho
  obtain ⟨p, x, b1, hI, hr, hre⟩ := hg _ o _ h2 hsel
  simp only [Prod.mk.injEq] at hr
  obtain ⟨rfl, rfl⟩ := hr
  obtain ⟨E2, hE2⟩ : ∃ E2 : Env, E2 = ⟨fun k => if k = nx then E.ad b1 else E.ad k, fun k => if k = nx then E.cp b1 else E.cp k⟩ := ⟨_, rfl⟩
  have hu1 : Env.upto nx E E2 := by
    intro k hk
    have : k ≠ nx := by omega
    rw [hE2]; simp [this]
  have hS : (withLoops (mk Sc) ls).S = Sc := hm.S Sc
  have hw : (withLoops (mk Sc) ls).win = [] := hm.win Sc
  have r := hre E E2 hu1 (by rw [hE2]; simp) (by rw [hE2]; simp)
  have rk : ReHeapN st.heap Sc E (cx p 0).S E2 (swp nx b1) (vw p 0 x).heap := by
    have key : ∀ (l : Heap), ReHeapN (keepH nx st.heap) Sc E (cx p 0).S E2 (swp nx b1) l → ReHeapN st.heap Sc E (cx p 0).S E2 (swp nx b1) l := by
      intro l
      induction l with
      | nil => intro _; trivial
      | cons e t ih => intro hr; exact ⟨⟨hr.1.1, hr.1.2.imp (fun h => h) fun ⟨x, h1, h2⟩ => ⟨x, keepH_get h1, h2⟩⟩, ih hr.2⟩
    exact key _ r.heap
  have sat2 : Sat (cx p 0) n w0 M _ (vw p 0 x) a w := sat.reN (c' := cx p 0) (st' := vw p 0 x) (ρ := swp nx b1) (by rw [hS]; exact ⟨r.slots.of_trim, rk, r.inj⟩) (hcx p 0).2.1
  refine wp_loop_rounds ((L p).length + 1) ?_
  refine rounds_ren (P := Try.prog) (c := withLoops (mk Sc) ls) (nx := nx) (fuel := fuel) (cx p) (L p) (vw p) (inv p) (stp p) ex' (fin p) (fun i => (hcx p i).1) (fun i => (hcx p i).2.1) (fun i => (hcx p i).2.2) hw (hnx p)
    (fun i a x ha hi => hstep p i a x ha hi) (fun x hi => by rw [hS]; exact hend p x hi) ((L p).length + 1) 0 x (Nat.zero_le _) (by omega) hI sat2 ?_
  intro E' a' w' hu sat'
  rw [List.drop_zero] at sat'
  exact hK E' a' w' (by rw [h1]; exact hu1.trans hu (Nat.le_refl _)) (by rw [h1]; exact hfx p _) sat'
noncomputable def ssFr (S : Stat) : List (Nat × SpecFn) := (26, spc gRShort S) :: []
theorem ssFr_ok (S : Stat) : ∀ f g, (f, g) ∈ ssFr S → SpecOk S [] f g := specs_cons (spc_ok rshort_ok S) specs_nil
noncomputable def cFr (S : Stat) : Ctx := mkCtx S [] [] (ssFr S) 20 3
theorem cFr_fam : Fam cFr := fam_of (ps := fun _ => []) (fun S => .nil S []) ssFr_ok
structure FrP where
  p : BxP
  x : Int
  y : Int
  A : List Entry
def FrP.to (q : FrP) (A : List Entry) : FrP := ⟨q.p, q.x, q.y, A⟩
def FrP.hp (q : FrP) (f : SV) (b : Nat) : Heap := (0, q.p.sv f) :: (1, .agg [.v (.int .i64 q.x), .v (.int .i64 q.y), .slr b q.A.length b false]) :: (b, .rows (.entry q.A)) :: q.p.ls
def frSl (i : SV) : Slots := [(0, [], .ptr 0 0), (1, [], .ptr 1 0), (4, [], i)]
def frSt (q : FrP) (i : SV) : St := ⟨frSl i, q.hp q.p.fl 6, 7⟩
def frS1 (q : FrP) (b : Nat) (i : SV) : St := ⟨frSl i, q.hp q.p.fl b, 0⟩
def frTs : List Nat := [0, 1, 4]
noncomputable def frR (S : Stat) (q : FrP) (i : Nat) (b : Nat) : Out (Ex × St) := trimC frTs [0, 1, b, 2, 3, 4] (exec (cFr S) (fnOf 38).ntmps 20 (lpOf 38 0) (frSt q (.v (.int .i64 i))))
def frT (q : FrP) (i : Nat) : List Bool := [decide ((i : Int) < q.p.fs.length), q.p.b.rst, inG q.p.fs.length i, decide (i < q.p.fs.length), decide (q.A.length = q.A.length ∧ q.A.length ≤ 67108864)]
theorem fr_rst (S : Stat) (q : FrP) (i : Nat) : Out.way [true, true, true, true, true] (frR (S.wt 0) q i 7) = some (frT q i, (.nrm, frS1 (q.to (shortR (q.p.fs.getD i 0) 0 q.A)) 7 (.v (.int .i64 (IntKind.i64.wrap (i + 1)))))) := by kernel_rfl
theorem fr_sht (S : Stat) (q : FrP) (i : Nat) : Out.way [true, false, true, true, true] (frR (S.wt 0) q i 7) = some (frT q i, (.nrm, frS1 (q.to (shortR (q.p.fs.getD i 0) q.p.b.times.delay q.A)) 7 (.v (.int .i64 (IntKind.i64.wrap (i + 1)))))) := by kernel_rfl
theorem fr_over (S : Stat) (q : FrP) (i : Nat) : Out.way [false] (frR (S.wt 0) q i 6) = some ([decide ((i : Int) < q.p.fs.length)], (.exit 0, frS1 q 6 (.v (.int .i64 i)))) := by kernel_rfl
def frAll (b : Bri) (fs : List Int) (A : List Entry) : List Entry := fs.foldl (fun A P => shortR P (flSec b) A) A
theorem shortR_le (P s : Int) (A : List Entry) : (shortR P s A).length ≤ A.length := by
  unfold shortR
  exact List.length_filterMap_le _ _
def frFin (q : FrP) (A : List Entry) : St := ⟨[(0, [], .ptr 0 0)], (q.to A).hp q.p.fl 6, 7⟩
def frOf (st : St) : Option (FrP × Bool) := match st.slots, st.heap with
  | [(0, [], .ptr 0 0), (1, [], .ptr 1 0), (4, [], .ki .i64 0)], h => (match h.get 0, h.get 1, h.get 2, h.get 3, h.get 4, h.get 5 with
    | some bx, some (.agg [.v (.int .i64 x), .v (.int .i64 y), .slr 5 k 5 false]), some (.rows (.port ps)), some (.rows (.sent os)), some (.rows (.int .i64 fs)), some (.rows (.entry A)) => (match unBri bx with
      | some (b, .slr 2 n0 2 false, .slr 3 n1 3 false, .slr 4 n2 4 false) => some (⟨⟨b, ps, os, fs⟩, x, y, A⟩, decide (n0 = ps.length ∧ n1 = os.length ∧ n2 = fs.length ∧ k = A.length ∧ fs.length ≤ 67108864 ∧ A.length ≤ 67108864))
      | _ => none)
    | _, _, _, _, _, _ => none)
  | _, _ => none
theorem goL_fold {α τ : Type} {f : τ → α → τ} : ∀ (l : List α) (i : Nat) (x : τ), goL (fun _ a x => f x a) l i x = l.foldl f x
  | [], _, _ => rfl
  | a :: r, i, x => by rw [goL, goL_fold r, List.foldl_cons]
/-- said anew, with a name's chunk elsewhere -/
theorem fr_re (S : Stat) (q : FrP) (A : List Entry) (b : Nat) (hb : b = 5 ∨ b = 6 ∨ b = 7) (v : SV) (hv : ∀ S E S' E', v.den S E = v.den S' E') (E1 E2 : Env) (hu : Env.upto 6 E1 E2) (ha : E2.ad 6 = E1.ad b) (hc : E2.cp 6 = E1.cp b) :
    ReN (S.wt 0) E1 (frS1 (q.to A) b v) (S.wt 0) E2 (swp 6 b) (frSt (q.to A) v) := by
  have u0 := hu 0 (by omega)
  have u1 := hu 1 (by omega)
  have u2 := hu 2 (by omega)
  have u3 := hu 3 (by omega)
  have u4 := hu 4 (by omega)
  rcases hb with rfl | rfl | rfl
  all_goals
    refine ⟨⟨⟨_, rfl, ?_⟩, ⟨_, rfl, ?_⟩, ⟨_, rfl, hv _ _ _ _⟩, trivial⟩, ⟨⟨trivial, .inr ⟨_, rfl, ?_, ?_, rfl⟩⟩, ⟨trivial, .inr ⟨_, rfl, ?_, ?_, rfl⟩⟩, ⟨trivial, .inr ⟨_, rfl, ?_, ?_, rfl⟩⟩, ⟨trivial, .inr ⟨_, rfl, ?_, ?_, rfl⟩⟩, ⟨trivial, .inr ⟨_, rfl, ?_, ?_, rfl⟩⟩, ⟨trivial, .inr ⟨_, rfl, ?_, ?_, rfl⟩⟩, trivial⟩, rfl⟩
    all_goals first | exact ha | exact u0.1 | exact u1.1 | exact u2.1 | exact u3.1 | exact u4.1 | rfl | (simp [SV.den, SV.cells, SV.cellss, Bri.sv, BxP.sv, BxP.fl, FrP.to, u0, u1, u2, u3, u4, ha, hc, Env.place])
theorem frOf_ok {st : St} {q : FrP} (h : frOf st = some (q, true)) (S : Stat) : (q.p.fs.length ≤ 67108864 ∧ q.A.length ≤ 67108864) ∧
    ∀ E1 E2, Env.upto 6 E1 E2 → E2.ad 6 = E1.ad 5 → E2.cp 6 = E1.cp 5 → ReN (S.wt 0) E1 st (S.wt 0) E2 (swp 6 5) (frSt (q.to q.A) (.v (.int .i64 0))) := by
  unfold frOf at h
  split at h
  · rename_i hsl
    split at h
    · rename_i bx x y k ps os fs A h0 h1 h2 h3 h4 h5
      split at h
      · rename_i b n0 n1 n2 hb
        obtain ⟨rfl, _, _⟩ := unBri_ok hb
        simp only [Option.some.injEq, Prod.mk.injEq, decide_eq_true_eq] at h
        obtain ⟨rfl, rfl, rfl, rfl, rfl, g1, g2⟩ := h
        refine ⟨⟨g1, g2⟩, fun E1 E2 hu ha hc => ?_⟩
        have u0 := hu 0 (by omega)
        have u1 := hu 1 (by omega)
        have u2 := hu 2 (by omega)
        have u3 := hu 3 (by omega)
        have u4 := hu 4 (by omega)
        refine ⟨?_, ⟨⟨trivial, .inr ⟨_, h0, ?_, ?_, rfl⟩⟩, ⟨trivial, .inr ⟨_, h1, ?_, ?_, rfl⟩⟩, ⟨trivial, .inr ⟨_, h5, ?_, ?_, rfl⟩⟩, ⟨trivial, .inr ⟨_, h2, ?_, ?_, rfl⟩⟩, ⟨trivial, .inr ⟨_, h3, ?_, ?_, rfl⟩⟩, ⟨trivial, .inr ⟨_, h4, ?_, ?_, rfl⟩⟩, trivial⟩, rfl⟩
        · rw [hsl]
          refine ⟨⟨_, rfl, ?_⟩, ⟨_, rfl, ?_⟩, ⟨_, rfl, rfl⟩, trivial⟩
          · simp [SV.den, u0, Env.place]
          · simp [SV.den, u1, Env.place]
        all_goals first | exact ha | exact u0.1 | exact u1.1 | exact u2.1 | exact u3.1 | exact u4.1 | rfl | (simp [SV.den, SV.cells, SV.cellss, Bri.sv, BxP.sv, BxP.fl, FrP.to, u0, u1, u2, u3, u4, ha, hc, Env.place])
      · cases h
    · cases h
  · cases h
noncomputable def gFrL : LoopFn := onTrimB 6 frTs fun st => match frOf st with
  | some (q, ok) => some (.ite ok (.ret (.exit 0, frFin q (frAll q.p.b q.p.fs q.A))) .bad)
  | none => none
theorem gFrL_ok (S : Stat) (ls : List (Nat × LoopFn)) : LoopOk Try.prog (withLoops (cFr (S.wt 0)) ls) (fnOf 38).ntmps (lpOf 38 0) gFrL := by
  refine loop_ren2 cFr_fam (nx := 6) (fuel := 20) (ts0 := frTs) (π := FrP) (α := Int) (τ := List Entry) (S.wt 0) (fun _ _ => cFr (S.wt 0)) (fun _ _ => ⟨cFr_fam.full _, cFr_fam.win _, LoopsOk.none (cFr_fam.loop _) _⟩) (fun q => q.p.fs) (fun q i A => frSt (q.to A) (.v (.int .i64 i)))
    (fun q i A => q.p.fs.length ≤ 67108864 ∧ A.length ≤ 67108864) (fun q i P A => shortR P (flSec q.p.b) A) (.exit 0) frFin (fun _ _ _ => rfl) (fun _ _ => Nat.le_succ 6) ?_ ?_ ?_
  · intro st o r ho hr
    split at ho
    · rename_i q ok hq
      injection ho with ho
      subst ho
      have hh := Out.ite_bad hr
      have hok := hh.1
      subst hok
      obtain rfl := Option.some.inj hh.2
      refine ⟨q, q.A, 5, (frOf_ok hq S).1, ?_, fun E1 E2 hu ha hc => ?_⟩
      · rw [goL_fold (f := fun A P => shortR P (flSec q.p.b) A)]; rfl
      · rw [cFr_fam.S]; exact (frOf_ok hq S).2 E1 E2 hu ha hc
    · cases ho
  · intro q i P A he hinv
    obtain ⟨h1, h2⟩ := hinv
    have hi := (List.getElem?_eq_some_iff.1 he).1
    have hii : (i : Int) < q.p.fs.length := by omega
    have hP : q.p.fs.getD i 0 = P := by simp [List.getD, he]
    have hT : frT (q.to A) i = [true, q.p.b.rst, true, true, true] := by
      have hin : inG q.p.fs.length i = true := by unfold inG; rw [decide_eq_true hii]; simp
      have hA : decide (A.length = A.length ∧ A.length ≤ 67108864) = true := decide_eq_true ⟨rfl, h2⟩
      show [decide ((i : Int) < q.p.fs.length), q.p.b.rst, inG q.p.fs.length i, decide (i < q.p.fs.length), decide (A.length = A.length ∧ A.length ≤ 67108864)] = _
      rw [hin, decide_eq_true hii, decide_eq_true hi, hA]
    have hle := shortR_le P (flSec q.p.b) A
    refine ⟨frTs, [0, 1, 7, 2, 3, 4], frS1 (q.to (shortR P (flSec q.p.b) A)) 7 (.v (.int .i64 (IntKind.i64.wrap (i + 1)))), 7, ?_, ⟨h1, by omega⟩, fun E1 E2 hu ha hc => ?_⟩
    · cases hrst : q.p.b.rst with
      | true =>
        have hs : flSec q.p.b = 0 := by unfold flSec; rw [hrst]; rfl
        have h0 := fr_rst S (q.to A) i
        rw [show (q.to A).p.fs.getD i 0 = P from hP] at h0
        rw [hs]
        exact Out.way_sel h0 (by rw [hT, hrst])
      | false =>
        have hs : flSec q.p.b = q.p.b.times.delay := by unfold flSec; rw [hrst]; rfl
        have h0 := fr_sht S (q.to A) i
        rw [show (q.to A).p.fs.getD i 0 = P from hP] at h0
        rw [hs]
        exact Out.way_sel h0 (by rw [hT, hrst])
    · rw [cFr_fam.S, wrap_succ (n := 67108865) (by omega) (by omega)]
      exact fr_re S q _ 7 (.inr (.inr rfl)) (.v (.int .i64 ((i + 1 : Nat) : Int))) (fun _ _ _ _ => rfl) E1 E2 hu ha hc
  · intro q A hinv
    have hn : ¬ ((q.p.fs.length : Nat) : Int) < q.p.fs.length := by omega
    refine ⟨frTs, [0, 1, 6, 2, 3, 4], frS1 (q.to A) 6 (.v (.int .i64 q.p.fs.length)), 6, Out.way_sel (fr_over S (q.to A) q.p.fs.length) (by rw [show (q.to A).p = q.p from rfl, decide_eq_false hn]), by simp, fun E1 E2 hu ha hc => ?_⟩
    rw [cFr_fam.S]
    have r := fr_re S q A 6 (.inr (.inl rfl)) (.v (.int .i64 q.p.fs.length)) (fun _ _ _ _ => rfl) E1 E2 hu ha hc
    exact ⟨⟨r.slots.1, trivial⟩, r.heap, r.inj⟩
noncomputable def frLs : List (Nat × LoopFn) := [(1, gFrL)]
theorem frLs_ok (S : Stat) : ∀ i k g, frLs[i]? = some (k, g) → LoopOk Try.prog (withLoops (cFr (S.wt 0)) frLs) (fnOf 38).ntmps (lpOf 38 i) g := by
  intro i k g h
  match i, h with
  | 0, h => injection h with h; injection h with h1 h2; subst h1 h2; exact gFrL_ok S _
  | i + 1, h => cases h
def FrP.hp0 (q : FrP) : Heap := (0, q.p.sv q.p.fl) :: (1, .agg [.v (.int .i64 q.x), .v (.int .i64 q.y), .slr 5 q.A.length 5 false]) :: (2, .rows (.port q.p.ps)) :: (3, .rows (.sent q.p.os)) :: (4, .rows (.int .i64 q.p.fs)) :: (5, .rows (.entry q.A)) :: []
def frT0 (q : FrP) : Bool := decide (q.p.ps.length = q.p.ps.length ∧ q.p.os.length = q.p.os.length ∧ q.p.fs.length = q.p.fs.length ∧ q.A.length = q.A.length ∧ q.p.fs.length ≤ 67108864 ∧ q.A.length ≤ 67108864)
theorem fr_walk (S : Stat) (q : FrP) : Out.way [true] (trimF 7 (inline (withLoops (cFr (S.wt 0)) frLs) 20 (fnOf 38) [.ptr 0 0, .ptr 1 0] q.hp0 6)) = some ([frT0 q], (.tup [], (q.to (frAll q.p.b q.p.fs q.A)).hp (.v (.slice none 0 0)) 6, 7)) := by kernel_rfl
def frOf0 (args : List SV) (H : Heap) : Option (FrP × Bool) := match args, H with
  | [.ptr 0 0, .ptr 1 0], [(0, bx), (1, .agg [.v (.int .i64 x), .v (.int .i64 y), .slr 5 k 5 false]), (2, .rows (.port ps)), (3, .rows (.sent os)), (4, .rows (.int .i64 fs)), (5, .rows (.entry A))] => (match unBri bx with
    | some (b, .slr 2 n0 2 false, .slr 3 n1 3 false, .slr 4 n2 4 false) => some (⟨⟨b, ps, os, fs⟩, x, y, A⟩, decide (n0 = ps.length ∧ n1 = os.length ∧ n2 = fs.length ∧ k = A.length))
    | _ => none)
  | _, _ => none
theorem frOf0_ok {args : List SV} {H : Heap} {q : FrP} (h : frOf0 args H = some (q, true)) : args = [.ptr 0 0, .ptr 1 0] ∧ H = q.hp0 := by
  unfold frOf0 at h
  split at h
  · split at h
    · rename_i hb
      obtain ⟨rfl, _, _⟩ := unBri_ok hb
      simp only [Option.some.injEq, Prod.mk.injEq, decide_eq_true_eq] at h
      obtain ⟨rfl, rfl, rfl, rfl, rfl⟩ := h
      exact ⟨rfl, rfl⟩
    · cases h
  · cases h
/-- what is to be forgotten is forgotten, by the document -/
def FrP.res (q : FrP) : SV × Heap × Nat := (.tup [], (5, .rows (.entry [])) :: (q.to (frAll q.p.b q.p.fs q.A)).hp (.v (.slice none 0 0)) 6, 7)
def gRfFlush : CanonFn := fun ro args H m => match frOf0 args H with
  | some (q, ok) => bif ro6 ro || !(Nat.beq m 6) then .bad else .ite (ok && frT0 q) (.ret q.res) .bad
  | none => .bad
theorem frhp0_lt {q : FrP} : ∀ k x, Heap.get q.hp0 k = some x → k < 6 := by
  intro k x hk
  unfold FrP.hp0 at hk
  simp only [Heap.get_cons] at hk
  repeat' split at hk
  all_goals first | omega | cases hk
theorem rfflush_ok : CanonOk 38 gRfFlush := by
  refine canon_fin cFr_fam Try.func38 (by kernel_rfl) frLs (by kernel_rfl) (by kernel_rfl) frLs_ok ?_
  intro S args H m r hr
  unfold gRfFlush at hr
  split at hr
  · rename_i q ok hq
    cases hb : (ro6 S.ro || !(Nat.beq m 6)) with
    | true => rw [hb] at hr; cases hr
    | false =>
      rw [hb] at hr
      simp only [cond_false] at hr
      obtain ⟨hc, hr2⟩ := Out.ite_bad hr
      obtain ⟨rfl, hT⟩ := Bool.and_eq_true_iff.1 hc
      obtain ⟨rfl, rfl⟩ := frOf0_ok hq
      obtain rfl := Option.some.inj hr2
      simp only [Bool.or_eq_false_iff, Bool.not_eq_false'] at hb
      have := Nat.eq_of_beq_eq_true hb.2; subst this
      refine ⟨fun k z hk => ro6_ok hb.1 k (frhp0_lt k z hk), fun E => by simp [SV.dens, SV.den], rfl, Nat.le_succ 6, 20, 7, _, Out.way_sel (fr_walk S q) (by rw [hT]), fun E' => ⟨E', id, fun k hk => ⟨rfl, rfl⟩, rfl, fun k x hk => ?_, fun k k' x x' hne _ _ _ _ => hne⟩⟩
      unfold FrP.res at hk
      rw [Heap.get_cons] at hk
      split at hk
      · injection hk with hk; subst hk; exact ⟨trivial, .inl rfl⟩
      · have hfl : x.flat = true := heap_all (H := (q.to (frAll q.p.b q.p.fs q.A)).hp (.v (.slice none 0 0)) 6) (f := fun e => e.2.flat) rfl hk
        exact ⟨SV.flat_fo hfl, .inr ⟨x, hk, rfl, (SV.flat_cells _ _ _ x hfl), rfl⟩⟩
  · cases hr
end
end Go.Proofs.Ytfncoeoaniclmaa
