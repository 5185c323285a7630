/- The document's database: the contract of Learn, put together. -/
import Derived.Test.YtfncoeoaniclmaaFdbRf
import Derived.Test.YtfncoeoaniclmaaFdb0
set_option linter.unusedVariables false
set_option maxRecDepth 100000
namespace Go.Proofs.Ytfncoeoaniclmaa
section
open Go Go.RowKit

section
variable {P : Program} {c : Ctx} {n : Nat} {w0 w : World} {M : Nat → Nat → Prop} {E : Env} {a : Act}
/-- a state told anew, chunks under other numbers -/
theorem Sat.ren {c' : Ctx} {E' : Env} {st st' : St} (h : Sat c n w0 M E st a w) (hsl : ReSlots2 st.slots c.S E c'.S E' st'.slots) (ρ : Nat → Nat)
    (hh : ∀ k x', st'.heap.get k = some x' → x'.foOk c'.S ∧ (x'.size = 0 ∨ ∃ x, st.heap.get (ρ k) = some x ∧ x.cells c.S E = x'.cells c'.S E' ∧ E'.ad k = E.ad (ρ k) ∧ c'.S.ro k = c.S.ro (ρ k)))
    (hinj : ∀ k k' x x', st'.heap.get k = some x → st'.heap.get k' = some x' → 0 < x.size → 0 < x'.size → ρ k = ρ k' → k = k') (hwin : c'.win = []) : Sat c' n w0 M E' st' a w := by
  have src : ∀ k x', st'.heap.get k = some x' → 0 < x'.size → ∃ x, st.heap.get (ρ k) = some x ∧ x.cells c.S E = x'.cells c'.S E' ∧ E'.ad k = E.ad (ρ k) ∧ c'.S.ro k = c.S.ro (ρ k) := by
    intro k x' hk hp
    rcases (hh k x' hk).2 with h0 | h1
    · omega
    · exact h1
  refine ⟨?_, ⟨?_, ?_, ?_, fun k x' hk => (hh k x' hk).1⟩, ?_, h.fr, by rw [hwin]; intro n j k z hm; (cases hm), by rw [hwin]; intro n j k z hm; (cases hm), h.size, h.defers⟩
  · intro t p x' hx
    obtain ⟨x, hx1, hd⟩ := hsl.get t p x' hx
    rw [← hd]; exact h.slots t p x hx1
  · intro k x' hk hp
    obtain ⟨x, hx, hc, he, _⟩ := src k x' hk hp
    rw [← hc, he]; exact h.hs.at_ (ρ k) x hx (by rw [size_of_cells2 hc]; exact hp)
  · intro k x' hk hp hnt hr
    obtain ⟨x, hx, hc, he, hro⟩ := src k x' hk hp
    rw [he]
    exact h.hs.wr (ρ k) x hx (by rw [size_of_cells2 hc]; exact hp) (by rw [hc]; exact hnt) (by rw [← hro]; exact hr)
  · intro k k' x1 x2 hne h1 h2 p1 p2 hr
    obtain ⟨y1, hy1, hc1, he1, hro1⟩ := src k x1 h1 p1
    obtain ⟨y2, hy2, hc2, he2, _⟩ := src k' x2 h2 p2
    have e1 := size_of_cells2 hc1
    have e2 := size_of_cells2 hc2
    rw [← e1, ← e2, he1, he2]
    exact h.hs.dis (ρ k) (ρ k') y1 y2 (fun he => hne (hinj k k' x1 x2 h1 h2 p1 p2 he)) hy1 hy2 (by omega) (by omega) (by rw [← hro1]; exact hr)
  · intro k x' hk hr
    rcases Nat.eq_zero_or_pos x'.size with h0 | hp
    · exact .inr fun j hj => by omega
    · obtain ⟨x, hx, hc, he, hro⟩ := src k x' hk hp
      rw [← size_of_cells2 hc, he]
      exact h.own (ρ k) x hx (by rw [← hro]; exact hr)
theorem Sat.cx {c' : Ctx} {st : St} (h : Sat c n w0 M E st a w) (hS : c'.S = c.S) (hw : c'.win = c.win) : Sat c' n w0 M E st a w :=
  ⟨by rw [hS]; exact h.slots, by rw [hS]; exact h.hs, by rw [hS]; exact h.own, h.fr, by rw [hS, hw]; exact h.win, by rw [hw]; exact h.winb, h.size, h.defers⟩
end

/-- one more, where it belongs -/
def insR (z : Entry) : List Entry → List Entry
  | [] => [z]
  | e :: r => if e.mac > z.mac then z :: e :: r else e :: insR z r
def l2Stp (z : Entry) (_ : Nat) (e : Entry) (x : Bool × List Entry) : Bool × List Entry := match x.1 with
  | true => (true, x.2 ++ [e])
  | false => if e.mac > z.mac then (true, x.2 ++ [z] ++ [e]) else (false, x.2 ++ [e])
def endL (z : Entry) (x : Bool × List Entry) : List Entry := match x.1 with | true => x.2 | false => x.2 ++ [z]
theorem goL_true (z : Entry) : ∀ (L : List Entry) (i : Nat) (R : List Entry), goL (l2Stp z) L i (true, R) = (true, R ++ L)
  | [], _, R => by simp [goL]
  | e :: r, i, R => by
    rw [goL]
    show goL (l2Stp z) r (i + 1) (true, R ++ [e]) = _
    rw [goL_true z r]; simp
theorem goL_l2 (z : Entry) : ∀ (L : List Entry) (i : Nat) (R : List Entry), endL z (goL (l2Stp z) L i (false, R)) = R ++ insR z L
  | [], _, R => rfl
  | e :: r, i, R => by
    rw [goL]
    by_cases h : e.mac > z.mac
    · have hs : l2Stp z i e (false, R) = (true, R ++ [z] ++ [e]) := by simp [l2Stp, h]
      rw [hs, goL_true]
      simp [endL, insR, h]
    · have hs : l2Stp z i e (false, R) = (false, R ++ [e]) := by simp [l2Stp, h]
      rw [hs, goL_l2 z r]
      simp [insR, h]
theorem insR_len (z : Entry) : ∀ L : List Entry, (insR z L).length = L.length + 1
  | [] => rfl
  | e :: r => by
    unfold insR
    split
    · rfl
    · simp [insR_len z r]
theorem ln_code : tailC 9 (codeOf 22) = .seq (.seq (.region 17 (regL 22 17).toArray false) (.block 2 (.loop (lpOf 22 1)))) (tailC 10 (codeOf 22)) := by kernel_rfl

theorem l1_reg (S : Stat) (p : L2P) : trimO [0, 1, 2, 10, 11, 12] 2 (exec (cLn (S.wt 0)) (fnOf 22).ntmps 20 (.region 17 (regL 22 17).toArray false) ⟨l2Sl p [(10, [], .v (.slice none 0 0)), (11, [], .kb false)], hpQ1 p, 2⟩) =
    .ret (.nrm, ⟨l2Sl p [(10, [], .v (.slice none 0 0)), (11, [], .kb false), (12, [], .ki .i64 0)], hpQ1 p, 2⟩) := by kernel_rfl
theorem l1_up {S S' : Stat} {E1 E2 : Env} (hu : Env.upto 2 E1 E2) (p : L2P) : ReHeap2 (hpQ1 p) S E1 S' E2 (hpQ1 p) := ⟨⟨_, rfl, by have h1 := hu 1 (by omega); simp [SV.cells, SV.cellss, Env.place, h1.1, h1.2], trivial, (hu 0 (by omega)).1⟩, ⟨_, rfl, rfl, trivial, (hu 1 (by omega)).1⟩, trivial⟩
theorem l1_run (S : Stat) (p : L2P) (hlen : p.L1.length = p.n ∧ p.n ≤ 67108864) {w0 w : World} {M : Nat → Nat → Prop} {E : Env} {a : Act} {Q : Exit → Act → World → Prop}
    (sat : Sat (cLn (S.wt 0)) (fnOf 22).ntmps w0 M E ⟨l2Sl p [(10, [], .v (.slice none 0 0)), (11, [], .kb false)], hpQ1 p, 2⟩ a w)
    (hK : ∀ E' a' w', Env.upto 2 E E' → Sat (cLn (S.wt 0)) (fnOf 22).ntmps w0 M E' ⟨[(6, [], .kb true)], rfN p.x p.y (insR (newE p) p.L1).length (insR (newE p) p.L1) p.L1, 3⟩ a' w' → Q .ret a' w') :
    (tailC 9 (codeOf 22)).wp Try.prog Q a w := by
  have hfull := fun i : Int => cLn_fam.full (S.wt i)
  have hS := fun i : Int => cLn_fam.S (S.wt i)
  have hwin := fun i : Int => cLn_fam.win (S.wt i)
  have hl : ∀ (i : Int) n code, LoopsOk Try.prog (cLn (S.wt i)) n code := fun i n code => LoopsOk.none (cLn_fam.loop _) code
  rw [ln_code]
  refine wp_seq (wp_seq ?_)
  have hr := congrArg Out.sel (l1_reg S p)
  obtain ⟨st0, hr1, hr2⟩ := trimO_sel (show _ = some (Ex.nrm, _) from hr)
  refine exec_ok (hfull 0) (draw_ok (hfull 0)) _ (hl 0 _ _) _ _ _ _ _ _ a w E sat hr1 ?_
  intro E1 a1 w1 hu1 hle1 sat1
  have sat1 := sat1.trim (hwin 0) [0, 1, 2, 10, 11, 12] 2
  rw [← hr2] at sat1
  obtain ⟨E2, hu2, hc2, satB⟩ := SatB.start (e := 91) (R := .entry []) sat1 rfl rfl
  have satB : SatB (cLn (S.wt (0 : Nat))) (fnOf 22).ntmps w0 M 91 E2 (l1St p [] (.kb false) (.v (.int .i64 (0 : Nat)))) a1 w1 := by
    refine satB.re2 ⟨⟨⟨_, rfl, rfl⟩, ⟨_, rfl, rfl⟩, ⟨_, rfl, rfl⟩, ⟨_, rfl, ?_⟩, ⟨_, rfl, rfl⟩, ⟨_, rfl, rfl⟩, trivial⟩, ?_⟩ (by rw [hS, hS]; rfl) (hwin _) rfl ⟨rfl, rfl⟩ (Nat.lt_succ_self _)
    · simp [tok, SV.den, hc2]
    · exact l1_up (fun k hk => ⟨rfl, rfl⟩) p
  refine wp_block (wp_loop_rounds (p.L1.length + 1) ?_)
  refine rounds_bld (P := Try.prog) (ts := l2Ts) (nx := 2) (fuel := 20) (c := cLn (S.wt 0)) (fun i => cLn (S.wt i)) p.L1 (fun i x => l1St p x.2 (kbS x.1) (.v (.int .i64 i))) (fun i x => x.2.length ≤ 2 * i) (l2Stp (newE p)) (.exit 2) (l1Fin p)
    (fun i => hfull i) (fun i => hwin i) (fun i => hl i _ _) (fun i => by rw [hS, hS]; rfl) (hwin 0) (fun _ _ => ⟨rfl, rfl⟩) (fun _ => ⟨rfl, rfl⟩) ?_ ?_ (p.L1.length + 1) 0 (false, []) (Nat.zero_le _) (by omega) (Nat.le_refl _) satB ?_
  · intro i e x he hinv
    obtain ⟨put, R⟩ := x
    dsimp only at hinv
    have hi := (List.getElem?_eq_some_iff.1 he).1
    have e1 : p.L1.getD i Entry.dflt = e := by simp [List.getD, he]
    have hii : (i : Int) < p.n := by omega
    have hin : l2In p i = true := by unfold l2In; rw [decide_eq_true hii]; simp
    have h4 : R.length ≤ 134217727 := by omega
    have re : ∀ (R : List Entry) (b : Nat) (put : Bool) (E1 E2 : Env), Env.upto 2 E1 E2 → E2.ad 2 = E1.ad b → E2.cp 2 = E1.cp b → ReD2 (cLn (S.wt i)).S E1 (l1S1 p R b (kbS put) (.v (.int .i64 (IntKind.i64.wrap (i + 1))))).st (cLn (S.wt (i + 1 : Nat))).S E2 (l1St p R (kbS put) (.v (.int .i64 ((i + 1 : Nat) : Int)))).st := by
      intro R b put E1 E2 hu ha hc
      rw [wrap_succ (n := 67108865) (by omega) (by omega)]
      refine ⟨⟨⟨_, rfl, ptr_upto hu (by omega)⟩, ⟨_, rfl, rfl⟩, ⟨_, rfl, rfl⟩, ⟨_, rfl, tok_alias ha hc⟩, ⟨_, rfl, ?_⟩, ⟨_, rfl, rfl⟩, trivial⟩, l1_up hu p⟩
      cases put <;> rfl
    cases put with
    | true =>
      refine ⟨_, Out.way_sel (l1_on S p R i) (by rw [hin, decide_eq_true hii, decide_eq_true hi]; simp [h4]), by show (R ++ [e]).length ≤ _; simp; omega, by rw [e1]; rfl, fun E1 E2 hu ha hc => ?_⟩
      rw [e1]
      exact re _ 4 true E1 E2 hu ha hc
    | false =>
      by_cases hgt : e.mac > p.a
      · have hs : l2Stp (newE p) i e (false, R) = (true, R ++ [newE p] ++ [e]) := if_pos hgt
        rw [hs]
        have h5 : R.length + 1 ≤ 134217727 := by omega
        refine ⟨_, Out.way_sel (l1_put S p R i) (by rw [hin, e1, decide_eq_true hii, decide_eq_true hi, decide_eq_true hgt]; simp [h4, h5]), by show (R ++ [newE p] ++ [e]).length ≤ _; simp; omega, by rw [e1]; rfl, fun E1 E2 hu ha hc => ?_⟩
        rw [e1]
        exact re _ 6 true E1 E2 hu ha hc
      · have hs : l2Stp (newE p) i e (false, R) = (false, R ++ [e]) := if_neg hgt
        rw [hs]
        refine ⟨_, Out.way_sel (l1_not S p R i) (by rw [hin, e1, decide_eq_true hii, decide_eq_true hi, decide_eq_false hgt]; simp [h4]), by show (R ++ [e]).length ≤ _; simp; omega, by rw [e1]; rfl, fun E1 E2 hu ha hc => ?_⟩
        rw [e1]
        exact re _ 4 false E1 E2 hu ha hc
  · intro x hinv
    obtain ⟨put, R⟩ := x
    have hn : ¬ ((p.L1.length : Nat) : Int) < p.n := by omega
    have re : ∀ (put : Bool) (i : Int) (E1 E2 : Env), Env.upto 2 E1 E2 → E2.ad 2 = E1.ad 2 → E2.cp 2 = E1.cp 2 → ReD2 (cLn (S.wt p.L1.length)).S E1 (l1S1 p R 2 (kbS put) (.v (.int .i64 i))).st (cLn (S.wt 0)).S E2 (l1Fin p (put, R)).st := by
      intro put i E1 E2 hu ha hc
      refine ⟨⟨⟨_, rfl, ptr_upto hu (by omega)⟩, ⟨_, rfl, rfl⟩, ⟨_, rfl, rfl⟩, ⟨_, rfl, tok_alias ha hc⟩, ⟨_, rfl, ?_⟩, trivial⟩, l1_up hu p⟩
      cases put <;> rfl
    cases put with
    | true => exact ⟨_, Out.way_sel (l1_over1 S p R p.L1.length) (by rw [decide_eq_false hn]), by simp, rfl, fun E1 E2 hu ha hc => re true _ E1 E2 hu ha hc⟩
    | false => exact ⟨_, Out.way_sel (l1_over0 S p R p.L1.length) (by rw [decide_eq_false hn]), by simp, rfl, fun E1 E2 hu ha hc => re false _ E1 E2 hu ha hc⟩
  · intro E3 a3 w3 hu3 sat3
    show Exit.inBlock 2 _ (.exit 2) a3 w3
    have hin : ∀ (Q : Exit → Act → World → Prop) a w, Q .normal a w → Exit.inBlock 2 Q (.exit 2) a w := fun Q a w h => by simp only [Exit.inBlock, if_true]; exact h
    refine hin _ _ _ ?_
    rw [List.drop_zero] at sat3
    have hins := goL_l2 (newE p) p.L1 0 []
    rw [List.nil_append] at hins
    have hlenR : ∀ (L : List Entry) (i : Nat) (x : Bool × List Entry), x.2.length ≤ 2 * i → (goL (l2Stp (newE p)) L i x).2.length ≤ 2 * (i + L.length) := by
      intro L
      induction L with
      | nil => intro i x h; exact h
      | cons e r ih =>
        intro i x h
        rw [goL]
        have : (l2Stp (newE p) i e x).2.length ≤ 2 * (i + 1) := by
          obtain ⟨put, R⟩ := x
          cases put with
          | true => show (R ++ [e]).length ≤ _; simp at h ⊢; omega
          | false =>
            unfold l2Stp
            dsimp only
            split
            · simp at h ⊢; omega
            · simp at h ⊢; omega
        have := ih (i + 1) _ this
        simp only [List.length_cons]
        omega
    have hR := hlenR p.L1 0 (false, []) (Nat.le_refl _)
    generalize goL (l2Stp (newE p)) p.L1 0 (false, []) = xf at sat3 hins hR
    obtain ⟨put, R⟩ := xf
    have fin : ∀ (b : Nat) (E4 : Env) (a4 : Act) (w4 : World) (s0 : BSt), 2 < b ∨ b = 2 → b ≠ 0 → b ≠ 1 → (False → b ≠ 2) → Env.upto 2 E3 E4 → SatB (cLn (S.wt 0)) (fnOf 22).ntmps w0 M 91 E4 s0 a4 w4 →
        (⟨⟨[(6, [], .kb true)], l1H p (insR (newE p) p.L1).length b, 2⟩, b, .entry (insR (newE p) p.L1)⟩ : BSt) = ⟨trimSt [6] 2 s0.st, s0.b, s0.R⟩ → Q .ret a4 w4 := by
      intro b E4 a4 w4 s0 hb hb0 hb1 hb2 hu4 sat4 hs
      simp only [BSt.mk.injEq] at hs
      obtain ⟨hs1, hs2, hs3⟩ := hs
      have satt : SatB (cLn (S.wt 0)) (fnOf 22).ntmps w0 M 91 E4 ⟨⟨[(6, [], .kb true)], l1H p (insR (newE p) p.L1).length b, s0.st.next⟩, b, .entry (insR (newE p) p.L1)⟩ a4 w4 := by
        refine sat4.re2 (ReD2.of_trim (ts := [6]) (nx := 2) ?_) rfl (hwin 0) hs3 (by rw [hs2]; exact ⟨rfl, rfl⟩) (by rw [hs2]; exact sat4.bld.lt)
        rw [← hs1]
        exact ⟨⟨⟨_, rfl, rfl⟩, trivial⟩, ⟨⟨_, rfl, rfl, trivial, rfl⟩, ⟨_, rfl, rfl, trivial, rfl⟩, trivial⟩⟩
      have sata := satt.adopt fun k y hk => by
        intro he
        subst he
        match k, hk with
        | 0, _ => exact hb0 rfl
        | 1, _ => exact hb1 rfl
        | k + 2, hk => cases hk
      obtain ⟨E5, hu5, ha5, hc5⟩ := Env.alias E4 2 b
      refine hK E5 a4 w4 ?_ ?_
      · exact ((((show Env.upto 2 E E1 from fun k hk => hu1 k (by show k < 2; omega)).trans (show Env.upto 2 E1 E2 from fun k hk => hu2 k (by show k < 2; omega)) (Nat.le_refl _)).trans (show Env.upto 2 E2 E3 from fun k hk => hu3 k (by omega)) (Nat.le_refl _)).trans (show Env.upto 2 E3 E4 from fun k hk => hu4 k (by omega)) (Nat.le_refl _)).trans hu5 (Nat.le_refl _)
      · refine sata.ren ⟨⟨_, rfl, rfl⟩, trivial⟩ (fun k => if k = 2 then b else k) ?_ ?_ (hwin 0)
        · intro k x' hk
          match k, hk with
          | 0, hk =>
            injection hk with hk; subst hk
            refine ⟨trivial, .inr ⟨.agg [.v (.int .i64 p.x), .v (.int .i64 p.y), .slr b (insR (newE p) p.L1).length b false], ?_, ?_, (hu5 0 (by omega)).1, rfl⟩⟩
            · show Heap.get ((b, _) :: l1H p _ b) 0 = _
              rw [Heap.get_cons, if_neg (Ne.symm hb0)]; rfl
            · simp [SV.cells, SV.cellss, Env.place, ha5, hc5]
          | 1, hk =>
            injection hk with hk; subst hk
            refine ⟨trivial, .inr ⟨.rows (.entry p.L1), ?_, rfl, (hu5 1 (by omega)).1, rfl⟩⟩
            show Heap.get ((b, _) :: l1H p _ b) 1 = _
            rw [Heap.get_cons, if_neg (Ne.symm hb1)]; rfl
          | 2, hk =>
            injection hk with hk; subst hk
            refine ⟨trivial, .inr ⟨.rows (.entry (insR (newE p) p.L1)), ?_, rfl, ha5, rfl⟩⟩
            show Heap.get ((b, _) :: l1H p _ b) b = _
            rw [Heap.get_cons, if_pos rfl]
          | k + 3, hk => cases hk
        · intro k k' x1 x2 hk hk' _ _ he
          match k, hk, k', hk' with
          | 0, _, 0, _ => rfl
          | 0, _, 1, _ => simp at he
          | 0, _, 2, _ => exact absurd he.symm hb0
          | 1, _, 0, _ => simp at he
          | 1, _, 1, _ => rfl
          | 1, _, 2, _ => exact absurd he.symm hb1
          | 2, _, 0, _ => exact absurd he hb0
          | 2, _, 1, _ => exact absurd he hb1
          | 2, _, 2, _ => rfl
          | k + 3, hk, _, _ => cases hk
          | _, _, k + 3, hk' => cases hk'
    cases put with
    | true =>
      have hR' : R = insR (newE p) p.L1 := hins
      subst hR'
      obtain ⟨s0, h0, hs⟩ := trimB_sel (Out.way_sel (l1_end1 S p (insR (newE p) p.L1)) rfl)
      refine execB_ok (hfull 0) _ (hl 0 _ _) sat3 h0 ?_
      intro E4 a4 w4 hu4 _ sat4
      exact fin 2 E4 a4 w4 s0 (.inr rfl) (by omega) (by omega) (by intro h; first | exact h.elim | omega) (fun k hk => hu4 k (by show k < 2 + 1; omega)) sat4 hs
    | false =>
      have hR' : R ++ [newE p] = insR (newE p) p.L1 := hins
      have hlR : R.length ≤ 134217727 := by
        have h1 := congrArg List.length hR'
        rw [insR_len, List.length_append, List.length_singleton] at h1
        omega
      obtain ⟨s0, h0, hs⟩ := trimB_sel (Out.way_sel (l1_end0 S p R) (by simp [hlR]))
      rw [hR'] at hs
      refine execB_ok (hfull 0) _ (hl 0 _ _) sat3 h0 ?_
      intro E4 a4 w4 hu4 _ sat4
      exact fin 4 E4 a4 w4 s0 (.inl (by omega)) (by omega) (by omega) (by intro _; omega) (fun k hk => hu4 k (by show k < 2 + 1; omega)) sat4 hs

theorem l2_reg (S : Stat) (p : L2P) : trimO [0, 1, 2, 10, 11, 12] 3 (exec (cLn (S.wt 0)) (fnOf 22).ntmps 20 (.region 17 (regL 22 17).toArray false) ⟨l2Sl p [(10, [], .v (.slice none 0 0)), (11, [], .kb false)], hpQ2 p, 3⟩) =
    .ret (.nrm, ⟨l2Sl p [(10, [], .v (.slice none 0 0)), (11, [], .kb false), (12, [], .ki .i64 0)], hpQ2 p, 3⟩) := by kernel_rfl
theorem l2_up {S S' : Stat} {E1 E2 : Env} (hu : Env.upto 3 E1 E2) (p : L2P) : ReHeap2 (hpQ2 p) S E1 S' E2 (hpQ2 p) := ⟨⟨_, rfl, by have h1 := hu 2 (by omega); simp [SV.cells, SV.cellss, Env.place, h1.1, h1.2], trivial, (hu 0 (by omega)).1⟩, ⟨_, rfl, rfl, trivial, (hu 1 (by omega)).1⟩, ⟨_, rfl, rfl, trivial, (hu 2 (by omega)).1⟩, trivial⟩
theorem l2_run (S : Stat) (p : L2P) (hlen : p.L1.length = p.n ∧ p.n ≤ 67108864) {w0 w : World} {M : Nat → Nat → Prop} {E : Env} {a : Act} {Q : Exit → Act → World → Prop}
    (sat : Sat (cLn (S.wt 0)) (fnOf 22).ntmps w0 M E ⟨l2Sl p [(10, [], .v (.slice none 0 0)), (11, [], .kb false)], hpQ2 p, 3⟩ a w)
    (hK : ∀ E' a' w', Env.upto 2 E E' → Sat (cLn (S.wt 0)) (fnOf 22).ntmps w0 M E' ⟨[(6, [], .kb true)], rfN p.x p.y (insR (newE p) p.L1).length (insR (newE p) p.L1) p.L0, 3⟩ a' w' → Q .ret a' w') :
    (tailC 9 (codeOf 22)).wp Try.prog Q a w := by
  have hfull := fun i : Int => cLn_fam.full (S.wt i)
  have hS := fun i : Int => cLn_fam.S (S.wt i)
  have hwin := fun i : Int => cLn_fam.win (S.wt i)
  have hl : ∀ (i : Int) n code, LoopsOk Try.prog (cLn (S.wt i)) n code := fun i n code => LoopsOk.none (cLn_fam.loop _) code
  rw [ln_code]
  refine wp_seq (wp_seq ?_)
  have hr := congrArg Out.sel (l2_reg S p)
  obtain ⟨st0, hr1, hr2⟩ := trimO_sel (show _ = some (Ex.nrm, _) from hr)
  refine exec_ok (hfull 0) (draw_ok (hfull 0)) _ (hl 0 _ _) _ _ _ _ _ _ a w E sat hr1 ?_
  intro E1 a1 w1 hu1 hle1 sat1
  have sat1 := sat1.trim (hwin 0) [0, 1, 2, 10, 11, 12] 3
  rw [← hr2] at sat1
  obtain ⟨E2, hu2, hc2, satB⟩ := SatB.start (e := 91) (R := .entry []) sat1 rfl rfl
  have satB : SatB (cLn (S.wt (0 : Nat))) (fnOf 22).ntmps w0 M 91 E2 (l2St p [] (.kb false) (.v (.int .i64 (0 : Nat)))) a1 w1 := by
    refine satB.re2 ⟨⟨⟨_, rfl, rfl⟩, ⟨_, rfl, rfl⟩, ⟨_, rfl, rfl⟩, ⟨_, rfl, ?_⟩, ⟨_, rfl, rfl⟩, ⟨_, rfl, rfl⟩, trivial⟩, ?_⟩ (by rw [hS, hS]; rfl) (hwin _) rfl ⟨rfl, rfl⟩ (Nat.lt_succ_self _)
    · simp [tok, SV.den, hc2]
    · exact l2_up (fun k hk => ⟨rfl, rfl⟩) p
  refine wp_block (wp_loop_rounds (p.L1.length + 1) ?_)
  refine rounds_bld (P := Try.prog) (ts := l2Ts) (nx := 3) (fuel := 20) (c := cLn (S.wt 0)) (fun i => cLn (S.wt i)) p.L1 (fun i x => l2St p x.2 (kbS x.1) (.v (.int .i64 i))) (fun i x => x.2.length ≤ 2 * i) (l2Stp (newE p)) (.exit 2) (l2Fin p)
    (fun i => hfull i) (fun i => hwin i) (fun i => hl i _ _) (fun i => by rw [hS, hS]; rfl) (hwin 0) (fun _ _ => ⟨rfl, rfl⟩) (fun _ => ⟨rfl, rfl⟩) ?_ ?_ (p.L1.length + 1) 0 (false, []) (Nat.zero_le _) (by omega) (Nat.le_refl _) satB ?_
  · intro i e x he hinv
    obtain ⟨put, R⟩ := x
    dsimp only at hinv
    have hi := (List.getElem?_eq_some_iff.1 he).1
    have e1 : p.L1.getD i Entry.dflt = e := by simp [List.getD, he]
    have hii : (i : Int) < p.n := by omega
    have hin : l2In p i = true := by unfold l2In; rw [decide_eq_true hii]; simp
    have h4 : R.length ≤ 134217727 := by omega
    have re : ∀ (R : List Entry) (b : Nat) (put : Bool) (E1 E2 : Env), Env.upto 3 E1 E2 → E2.ad 3 = E1.ad b → E2.cp 3 = E1.cp b → ReD2 (cLn (S.wt i)).S E1 (l2S1 p R b (kbS put) (.v (.int .i64 (IntKind.i64.wrap (i + 1))))).st (cLn (S.wt (i + 1 : Nat))).S E2 (l2St p R (kbS put) (.v (.int .i64 ((i + 1 : Nat) : Int)))).st := by
      intro R b put E1 E2 hu ha hc
      rw [wrap_succ (n := 67108865) (by omega) (by omega)]
      refine ⟨⟨⟨_, rfl, ptr_upto hu (by omega)⟩, ⟨_, rfl, rfl⟩, ⟨_, rfl, rfl⟩, ⟨_, rfl, tok_alias ha hc⟩, ⟨_, rfl, ?_⟩, ⟨_, rfl, rfl⟩, trivial⟩, l2_up hu p⟩
      cases put <;> rfl
    cases put with
    | true =>
      refine ⟨_, Out.way_sel (l2_on S p R i) (by rw [hin, decide_eq_true hii, decide_eq_true hi]; simp [h4]), by show (R ++ [e]).length ≤ _; simp; omega, by rw [e1]; rfl, fun E1 E2 hu ha hc => ?_⟩
      rw [e1]
      exact re _ 5 true E1 E2 hu ha hc
    | false =>
      by_cases hgt : e.mac > p.a
      · have hs : l2Stp (newE p) i e (false, R) = (true, R ++ [newE p] ++ [e]) := if_pos hgt
        rw [hs]
        have h5 : R.length + 1 ≤ 134217727 := by omega
        refine ⟨_, Out.way_sel (l2_put S p R i) (by rw [hin, e1, decide_eq_true hii, decide_eq_true hi, decide_eq_true hgt]; simp [h4, h5]), by show (R ++ [newE p] ++ [e]).length ≤ _; simp; omega, by rw [e1]; rfl, fun E1 E2 hu ha hc => ?_⟩
        rw [e1]
        exact re _ 7 true E1 E2 hu ha hc
      · have hs : l2Stp (newE p) i e (false, R) = (false, R ++ [e]) := if_neg hgt
        rw [hs]
        refine ⟨_, Out.way_sel (l2_not S p R i) (by rw [hin, e1, decide_eq_true hii, decide_eq_true hi, decide_eq_false hgt]; simp [h4]), by show (R ++ [e]).length ≤ _; simp; omega, by rw [e1]; rfl, fun E1 E2 hu ha hc => ?_⟩
        rw [e1]
        exact re _ 5 false E1 E2 hu ha hc
  · intro x hinv
    obtain ⟨put, R⟩ := x
    have hn : ¬ ((p.L1.length : Nat) : Int) < p.n := by omega
    have re : ∀ (put : Bool) (i : Int) (E1 E2 : Env), Env.upto 3 E1 E2 → E2.ad 3 = E1.ad 3 → E2.cp 3 = E1.cp 3 → ReD2 (cLn (S.wt p.L1.length)).S E1 (l2S1 p R 3 (kbS put) (.v (.int .i64 i))).st (cLn (S.wt 0)).S E2 (l2Fin p (put, R)).st := by
      intro put i E1 E2 hu ha hc
      refine ⟨⟨⟨_, rfl, ptr_upto hu (by omega)⟩, ⟨_, rfl, rfl⟩, ⟨_, rfl, rfl⟩, ⟨_, rfl, tok_alias ha hc⟩, ⟨_, rfl, ?_⟩, trivial⟩, l2_up hu p⟩
      cases put <;> rfl
    cases put with
    | true => exact ⟨_, Out.way_sel (l2_over1 S p R p.L1.length) (by rw [decide_eq_false hn]), by simp, rfl, fun E1 E2 hu ha hc => re true _ E1 E2 hu ha hc⟩
    | false => exact ⟨_, Out.way_sel (l2_over0 S p R p.L1.length) (by rw [decide_eq_false hn]), by simp, rfl, fun E1 E2 hu ha hc => re false _ E1 E2 hu ha hc⟩
  · intro E3 a3 w3 hu3 sat3
    show Exit.inBlock 2 _ (.exit 2) a3 w3
    have hin : ∀ (Q : Exit → Act → World → Prop) a w, Q .normal a w → Exit.inBlock 2 Q (.exit 2) a w := fun Q a w h => by simp only [Exit.inBlock, if_true]; exact h
    refine hin _ _ _ ?_
    rw [List.drop_zero] at sat3
    have hins := goL_l2 (newE p) p.L1 0 []
    rw [List.nil_append] at hins
    have hlenR : ∀ (L : List Entry) (i : Nat) (x : Bool × List Entry), x.2.length ≤ 2 * i → (goL (l2Stp (newE p)) L i x).2.length ≤ 2 * (i + L.length) := by
      intro L
      induction L with
      | nil => intro i x h; exact h
      | cons e r ih =>
        intro i x h
        rw [goL]
        have : (l2Stp (newE p) i e x).2.length ≤ 2 * (i + 1) := by
          obtain ⟨put, R⟩ := x
          cases put with
          | true => show (R ++ [e]).length ≤ _; simp at h ⊢; omega
          | false =>
            unfold l2Stp
            dsimp only
            split
            · simp at h ⊢; omega
            · simp at h ⊢; omega
        have := ih (i + 1) _ this
        simp only [List.length_cons]
        omega
    have hR := hlenR p.L1 0 (false, []) (Nat.le_refl _)
    generalize goL (l2Stp (newE p)) p.L1 0 (false, []) = xf at sat3 hins hR
    obtain ⟨put, R⟩ := xf
    have fin : ∀ (b : Nat) (E4 : Env) (a4 : Act) (w4 : World) (s0 : BSt), 2 < b ∨ b = 3 → b ≠ 0 → b ≠ 1 → (True → b ≠ 2) → Env.upto 3 E3 E4 → SatB (cLn (S.wt 0)) (fnOf 22).ntmps w0 M 91 E4 s0 a4 w4 →
        (⟨⟨[(6, [], .kb true)], l2H p (insR (newE p) p.L1).length b, 3⟩, b, .entry (insR (newE p) p.L1)⟩ : BSt) = ⟨trimSt [6] 3 s0.st, s0.b, s0.R⟩ → Q .ret a4 w4 := by
      intro b E4 a4 w4 s0 hb hb0 hb1 hb2 hu4 sat4 hs
      simp only [BSt.mk.injEq] at hs
      obtain ⟨hs1, hs2, hs3⟩ := hs
      have satt : SatB (cLn (S.wt 0)) (fnOf 22).ntmps w0 M 91 E4 ⟨⟨[(6, [], .kb true)], l2H p (insR (newE p) p.L1).length b, s0.st.next⟩, b, .entry (insR (newE p) p.L1)⟩ a4 w4 := by
        refine sat4.re2 (ReD2.of_trim (ts := [6]) (nx := 3) ?_) rfl (hwin 0) hs3 (by rw [hs2]; exact ⟨rfl, rfl⟩) (by rw [hs2]; exact sat4.bld.lt)
        rw [← hs1]
        exact ⟨⟨⟨_, rfl, rfl⟩, trivial⟩, ⟨⟨_, rfl, rfl, trivial, rfl⟩, ⟨_, rfl, rfl, trivial, rfl⟩, ⟨_, rfl, rfl, trivial, rfl⟩, trivial⟩⟩
      have sata := satt.adopt fun k y hk => by
        intro he
        subst he
        match k, hk with
        | 0, _ => exact hb0 rfl
        | 1, _ => exact hb1 rfl
        | 2, _ => exact hb2 trivial rfl
        | k + 3, hk => cases hk
      obtain ⟨E5, hu5, ha5, hc5⟩ := Env.alias E4 2 b
      refine hK E5 a4 w4 ?_ ?_
      · exact ((((show Env.upto 2 E E1 from fun k hk => hu1 k (by show k < 3; omega)).trans (show Env.upto 2 E1 E2 from fun k hk => hu2 k (by show k < 3; omega)) (Nat.le_refl _)).trans (show Env.upto 2 E2 E3 from fun k hk => hu3 k (by omega)) (Nat.le_refl _)).trans (show Env.upto 2 E3 E4 from fun k hk => hu4 k (by omega)) (Nat.le_refl _)).trans hu5 (Nat.le_refl _)
      · refine sata.ren ⟨⟨_, rfl, rfl⟩, trivial⟩ (fun k => if k = 2 then b else k) ?_ ?_ (hwin 0)
        · intro k x' hk
          match k, hk with
          | 0, hk =>
            injection hk with hk; subst hk
            refine ⟨trivial, .inr ⟨.agg [.v (.int .i64 p.x), .v (.int .i64 p.y), .slr b (insR (newE p) p.L1).length b false], ?_, ?_, (hu5 0 (by omega)).1, rfl⟩⟩
            · show Heap.get ((b, _) :: l2H p _ b) 0 = _
              rw [Heap.get_cons, if_neg (Ne.symm hb0)]; rfl
            · simp [SV.cells, SV.cellss, Env.place, ha5, hc5]
          | 1, hk =>
            injection hk with hk; subst hk
            refine ⟨trivial, .inr ⟨.rows (.entry p.L0), ?_, rfl, (hu5 1 (by omega)).1, rfl⟩⟩
            show Heap.get ((b, _) :: l2H p _ b) 1 = _
            rw [Heap.get_cons, if_neg (Ne.symm hb1)]; rfl
          | 2, hk =>
            injection hk with hk; subst hk
            refine ⟨trivial, .inr ⟨.rows (.entry (insR (newE p) p.L1)), ?_, rfl, ha5, rfl⟩⟩
            show Heap.get ((b, _) :: l2H p _ b) b = _
            rw [Heap.get_cons, if_pos rfl]
          | k + 3, hk => cases hk
        · intro k k' x1 x2 hk hk' _ _ he
          match k, hk, k', hk' with
          | 0, _, 0, _ => rfl
          | 0, _, 1, _ => simp at he
          | 0, _, 2, _ => exact absurd he.symm hb0
          | 1, _, 0, _ => simp at he
          | 1, _, 1, _ => rfl
          | 1, _, 2, _ => exact absurd he.symm hb1
          | 2, _, 0, _ => exact absurd he hb0
          | 2, _, 1, _ => exact absurd he hb1
          | 2, _, 2, _ => rfl
          | k + 3, hk, _, _ => cases hk
          | _, _, k + 3, hk' => cases hk'
    cases put with
    | true =>
      have hR' : R = insR (newE p) p.L1 := hins
      subst hR'
      obtain ⟨s0, h0, hs⟩ := trimB_sel (Out.way_sel (l2_end1 S p (insR (newE p) p.L1)) rfl)
      refine execB_ok (hfull 0) _ (hl 0 _ _) sat3 h0 ?_
      intro E4 a4 w4 hu4 _ sat4
      exact fin 3 E4 a4 w4 s0 (.inr rfl) (by omega) (by omega) (by intro h; first | exact h.elim | omega) (fun k hk => hu4 k (by show k < 3 + 1; omega)) sat4 hs
    | false =>
      have hR' : R ++ [newE p] = insR (newE p) p.L1 := hins
      have hlR : R.length ≤ 134217727 := by
        have h1 := congrArg List.length hR'
        rw [insR_len, List.length_append, List.length_singleton] at h1
        omega
      obtain ⟨s0, h0, hs⟩ := trimB_sel (Out.way_sel (l2_end0 S p R) (by simp [hlR]))
      rw [hR'] at hs
      refine execB_ok (hfull 0) _ (hl 0 _ _) sat3 h0 ?_
      intro E4 a4 w4 hu4 _ sat4
      exact fin 5 E4 a4 w4 s0 (.inl (by omega)) (by omega) (by omega) (by intro _; omega) (fun k hk => hu4 k (by show k < 3 + 1; omega)) sat4 hs

open Go Go.RowKit

def lessR (x : Int) (L : List Entry) (m : Int) : List Entry := if fullR x L.length L m = true then woutE (minI L : Nat) L 0 else if atI (adrR (adrR m)) L 0 ≥ 0 then woutE (atI (adrR (adrR m)) L 0) L 0 else L
def learnR (x y : Int) (L : List Entry) (m P : Int) : List Entry := insR ⟨adrR m, P, y⟩ (lessR x L m)
noncomputable def lnLs : List (Nat × LoopFn) := [(9, gMnL), (18, noLoop)]
theorem lnLs_ok (S : Stat) : ∀ i k g, lnLs[i]? = some (k, g) → LoopOk Try.prog (withLoops (cLn (S.wt 0)) lnLs) (fnOf 22).ntmps (lpOf 22 i) g := by
  intro i k g h
  match i, h with
  | 0, h => injection h with h; injection h with h1 h2; subst h1 h2; exact gMnL_ok S _
  | 1, h => injection h with h; injection h with h1 h2; subst h1 h2; exact noLoop_ok
  | i + 2, h => cases h
theorem ln_badW (S : Stat) (p : LnP) : Out.way [true] (trimF 2 (inline (withLoops (cLn (S.wt 0)) lnLs) 20 (fnOf 22) [.ptr 0 0, .v (.int .u64 p.f.m), .v (.int .i64 p.P)] p.f.hp 2)) = some ([badR p.f.m p.P], (.kb false, p.f.hp, 2)) := by kernel_rfl
/-- of what can't be learned -/
def gRLearnB : CanonFn := fun ro args H m => match args, H with
  | [.ptr 0 0, .v (.int .u64 a), .v (.int .i64 P)], [(0, .agg [.v (.int .i64 x), .v (.int .i64 y), .slr 1 n 1 false]), (1, .rows (.entry L))] => bif (ro 0 || ro 1) || !(Nat.beq m 2) then .bad else
      .ite (badR a P) (.ret (.v (.bool false), rfH x y n L, 2)) .bad
  | _, _ => .bad
theorem rlearnB_ok : CanonOk 22 gRLearnB := by
  refine canon_ex cLn_fam Try.func22 (by kernel_rfl) lnLs (by kernel_rfl) (by kernel_rfl) lnLs_ok ?_
  intro S args H m r hr
  unfold gRLearnB at hr
  split at hr <;> (try cases hr)
  rename_i a P x y n L
  cases hb : ((S.ro 0 || S.ro 1) || !(Nat.beq m 2)) with
  | true => rw [hb] at hr; cases hr
  | false =>
    rw [hb] at hr
    simp only [cond_false] at hr
    obtain ⟨hc, hr⟩ := Out.ite_bad hr
    simp only [Out.sel, Option.some.injEq] at hr
    subst hr
    simp only [Bool.or_eq_false_iff, Bool.not_eq_false'] at hb
    obtain ⟨⟨r0, r1⟩, hm⟩ := hb
    have := Nat.eq_of_beq_eq_true hm; subst this
    refine ⟨fun k z hk => ?_, rfl, rfl, rfl, rfl, Nat.le_refl _, 20, _, Out.way_sel (ln_badW S ⟨⟨x, y, n, L, a⟩, P⟩) (by dsimp only; rw [hc]), rfl, rfl, fun _ _ => rfl⟩
    match k, hk with
    | 0, _ => exact r0
    | 1, _ => exact r1
    | k + 2, hk => cases hk
/-- of what can be -/
def gRLearnG : CanonFn := fun ro args H m => match args, H with
  | [.ptr 0 0, .v (.int .u64 a), .v (.int .i64 P)], [(0, .agg [.v (.int .i64 x), .v (.int .i64 y), .slr 1 n 1 false]), (1, .rows (.entry L))] => bif (ro 0 || ro 1) || !(Nat.beq m 2) then .bad else
      .ite (!(badR a P) && (decide (L.length = n ∧ n ≤ 67108864) && (!(fullR x L.length L a) || decide (1 ≤ L.length)))) (.ret (.v (.bool true), rfN x y (learnR x y L a P).length (learnR x y L a P) L, 3)) .bad
  | _, _ => .bad
theorem woutE_len (k : Int) : ∀ (L : List Entry) (i : Nat), (woutE k L i).length ≤ L.length
  | [], _ => Nat.le_refl _
  | e :: r, i => by
    unfold woutE
    split
    · exact Nat.le_trans (woutE_len k r (i + 1)) (Nat.le_succ _)
    · exact Nat.succ_le_succ (woutE_len k r (i + 1))
theorem rlearnG_ok : CanonOk 22 gRLearnG := by
  intro S args H m v H' m' hr
  unfold gRLearnG at hr
  split at hr <;> (try cases hr)
  rename_i a P x y n L
  cases hb : ((S.ro 0 || S.ro 1) || !(Nat.beq m 2)) with
  | true => rw [hb] at hr; cases hr
  | false =>
    rw [hb] at hr
    simp only [cond_false] at hr
    obtain ⟨hc, hr⟩ := Out.ite_bad hr
    simp only [Out.sel, Option.some.injEq, Prod.mk.injEq] at hr
    obtain ⟨rfl, rfl, rfl⟩ := hr
    simp only [Bool.or_eq_false_iff, Bool.not_eq_false'] at hb
    obtain ⟨⟨r0, r1⟩, hm⟩ := hb
    have := Nat.eq_of_beq_eq_true hm; subst this
    simp only [Bool.and_eq_true, Bool.not_eq_true', Bool.or_eq_true, decide_eq_true_eq] at hc
    obtain ⟨hbad, ⟨rfl, hlen⟩, hful⟩ := hc
    refine ⟨⟨_, Try.func22, by kernel_rfl, by kernel_rfl⟩, fun E w hs => ?_⟩
    have hro : ∀ k z, Heap.get (rfH x y L.length L) k = some z → S.ro k = false := by
      intro k z hk
      match k, hk with
      | 0, _ => exact r0
      | 1, _ => exact r1
      | k + 2, hk => cases hk
    have hgood := good_loops cLn_fam (f := 22) (S.wt 0) lnLs (by kernel_rfl) (by kernel_rfl) (lnLs_ok S)
    have hS : (withLoops (cLn (S.wt 0)) lnLs).S = S.wt 0 := cLn_fam.S (S.wt 0)
    have hwin : (withLoops (cLn (S.wt 0)) lnLs).win = [] := cLn_fam.win (S.wt 0)
    have hl := hgood.loops (codeOf 22) (by kernel_rfl)
    have hs0 : HS (withLoops (cLn (S.wt 0)) lnLs).S E (rfH x y L.length L) w := by rw [hS]; exact HS.stat hs rfl fun k z hk _ => hro k z hk
    have key := enter_ok (P := Try.prog) (c := withLoops (cLn (S.wt 0)) lnLs) (fnOf_eq Try.func22) hgood.full hwin (code := codeOf 22) (by kernel_rfl) (args := [.ptr 0 0, .v (.int .u64 a), .v (.int .i64 P)]) (H := rfH x y L.length L)
      (H' := rfN x y (learnR x y L a P).length (learnR x y L a P) L) (nx := 2) (nx' := 3) (v := .kb true) (by rw [show (fnOf 22).ntmps = 134 from by kernel_rfl]; show 3 ≤ 134; omega) hs0 ?_
    · rw [SV.flats_dens S (withLoops (cLn (S.wt 0)) lnLs).S E _ rfl]
      refine key.mono ?_
      rintro e w' ⟨E', hu, hle, rfl, hs', hfr, hown⟩
      rw [hS] at hs' hfr hown
      have hMH : ∀ b j, MH (S.wt 0) E (rfH x y L.length L) b j → MH S E (rfH x y L.length L) b j := by
        rintro b j ⟨k, z, hk, _, h'⟩
        exact ⟨k, z, hk, hro k z hk, h'⟩
      exact ⟨E', hu, by omega, rfl, HS.stat hs' rfl fun _ _ _ _ => rfl, hfr.mono fun b j _ h => hMH b j h, fun k z hk hr => (hown k z hk rfl).imp id fun h j hj => hMH _ _ (h j hj)⟩
    · intro act sat
      have fin : ∀ (L1 : List Entry) (E' : Env) (a' : Act) (w' : World), learnR x y L a P = insR ⟨adrR a, P, y⟩ L1 → Env.upto 2 E E' → Sat (cLn (S.wt 0)) (fnOf 22).ntmps w (MH (withLoops (cLn (S.wt 0)) lnLs).S E (rfH x y L.length L)) E' ⟨[(6, [], .kb true)], rfN x y (insR ⟨adrR a, P, y⟩ L1).length (insR ⟨adrR a, P, y⟩ L1) L, 3⟩ a' w' →
          ((Exit.ret = .normal ∨ Exit.ret = .ret) ∧ ∃ E' st', Env.upto 2 E E' ∧ Sat (withLoops (cLn (S.wt 0)) lnLs) (fnOf 22).ntmps w (MH (withLoops (cLn (S.wt 0)) lnLs).S E (rfH x y L.length L)) E' st' a' w' ∧ resOf (withLoops (cLn (S.wt 0)) lnLs) st' (fnOf 22).results.toList = some (.kb true) ∧ st'.heap = rfN x y (learnR x y L a P).length (learnR x y L a P) L ∧ 2 ≤ 3) := by
        intro L1 E' a' w' hL hu' sat'
        refine ⟨.inr rfl, E', _, hu', sat'.cx rfl rfl, ?_, by rw [hL], by omega⟩
        rw [show (fnOf 22).results.toList = [.tmp 6] from by kernel_rfl]
        rfl
      have two : ∀ (k : Int) (st0 : St), lnS (lnPp ⟨⟨x, y, L.length, L, a⟩, P⟩ (woutE k L 0) (woutE k L 0).length) (hpQ2 (lnPp ⟨⟨x, y, L.length, L, a⟩, P⟩ (woutE k L 0) (woutE k L 0).length)) = trimSt [0, 1, 2, 10, 11] 3 st0 → lessR x L a = woutE k L 0 →
          ∀ E' a' w', Env.upto 2 E E' → Sat (withLoops (cLn (S.wt 0)) lnLs) (fnOf 22).ntmps w (MH (withLoops (cLn (S.wt 0)) lnLs).S E (rfH x y L.length L)) E' st0 a' w' → (tailC 9 (codeOf 22)).wp Try.prog (fun ex a' w' => (ex = .normal ∨ ex = .ret) ∧ ∃ E' st', Env.upto 2 E E' ∧ Sat (withLoops (cLn (S.wt 0)) lnLs) (fnOf 22).ntmps w (MH (withLoops (cLn (S.wt 0)) lnLs).S E (rfH x y L.length L)) E' st' a' w' ∧ resOf (withLoops (cLn (S.wt 0)) lnLs) st' (fnOf 22).results.toList = some (.kb true) ∧ st'.heap = rfN x y (learnR x y L a P).length (learnR x y L a P) L ∧ 2 ≤ 3) a' w' := by
        intro k st0 hst hless E' a' w' hu' sat'
        have sat' := sat'.trim hwin [0, 1, 2, 10, 11] 3
        rw [← hst] at sat'
        have hwl := woutE_len k L 0
        refine l2_run S (lnPp ⟨⟨x, y, L.length, L, a⟩, P⟩ (woutE k L 0) (woutE k L 0).length) ⟨rfl, by show (woutE k L 0).length ≤ _; omega⟩ (sat'.cx rfl rfl) ?_
        intro E2 a2 w2 hu2 sat2
        exact fin (woutE k L 0) E2 a2 w2 (by unfold learnR; rw [hless]) (hu'.trans hu2 (Nat.le_refl _)) sat2
      by_cases hf : fullR x L.length L a = true
      · have hn1 : 1 ≤ L.length := by
          rcases hful with h | h
          · rw [hf] at h; cases h
          · exact h
        obtain ⟨st0, h0, hst⟩ := trimO_sel (Out.way_sel (ln_full S ⟨⟨x, y, L.length, L, a⟩, P⟩) (by dsimp only; rw [hbad, hf]; simp [hlen, hn1]))
        refine cutC hgood.full (draw_ok hgood.full) 9 _ _ .nrm st0 act w E hl sat h0 (fun _ E' a' w' hu' _ sat' => ?_) (fun h => absurd rfl h)
        exact two (minI L : Nat) st0 hst (by unfold lessR; rw [if_pos hf]) E' a' w' hu' sat'
      · have hf' : fullR x L.length L a = false := by simpa using hf
        by_cases hk : atI (adrR (adrR a)) L 0 ≥ 0
        · obtain ⟨st0, h0, hst⟩ := trimO_sel (Out.way_sel (ln_has S ⟨⟨x, y, L.length, L, a⟩, P⟩) (by dsimp only; rw [hbad, hf', decide_eq_true hk]; simp [hlen]))
          refine cutC hgood.full (draw_ok hgood.full) 9 _ _ .nrm st0 act w E hl sat h0 (fun _ E' a' w' hu' _ sat' => ?_) (fun h => absurd rfl h)
          exact two _ st0 hst (by unfold lessR; rw [if_neg hf, if_pos hk]) E' a' w' hu' sat'
        · obtain ⟨st0, h0, hst⟩ := trimO_sel (Out.way_sel (ln_lacks S ⟨⟨x, y, L.length, L, a⟩, P⟩) (by dsimp only; rw [hbad, hf', decide_eq_false hk]; simp [hlen]))
          refine cutC hgood.full (draw_ok hgood.full) 9 _ _ .nrm st0 act w E hl sat h0 (fun _ E' a' w' hu' _ sat' => ?_) (fun h => absurd rfl h)
          have sat' := sat'.trim hwin [0, 1, 2, 10, 11] 3
          rw [← hst] at sat'
          have sat' := sat'.trim hwin [0, 1, 2, 10, 11] 2
          refine l1_run S (lnPp ⟨⟨x, y, L.length, L, a⟩, P⟩ L L.length) ⟨rfl, by show L.length ≤ _; omega⟩ (sat'.cx rfl rfl) ?_
          intro E2 a2 w2 hu2 sat2
          exact fin L E2 a2 w2 (by unfold learnR lessR; rw [if_neg hf, if_neg hk]) (hu'.trans hu2 (Nat.le_refl _)) sat2
/-! ### Find -/
def rPort (L : List Entry) (k : Int) : Int := if k < 0 then -1 else (L.getD k.toNat Entry.dflt).port
def gRFind : CanonFn := fun ro args H m => match args, H with
  | [.ptr 0 0, .v (.int .u64 a)], [(0, .agg [.v (.int .i64 x), .v (.int .i64 y), .slr 1 n 1 false]), (1, .rows (.entry L))] => .ite (decide (L.length = n ∧ n ≤ 67108864)) (.ret (.tup [.v (.int .i64 (rPort L (atI (adrR a) L 0))), .v (.bool (!(decide (atI (adrR a) L 0 < 0))))], H, m)) .bad
  | _, _ => .bad
noncomputable def rfdO (S : Stat) (p : RfP) : Out SV := valF 2 (inline (withLoops (cLn (S.rd 0 2)) []) 20 (fnOf 23) [.ptr 0 0, .v (.int .u64 p.m)] p.hp 2)
theorem rfind_no (S : Stat) (p : RfP) : Out.way [true, true] (rfdO S p) = some ([decide (p.L.length = p.n ∧ p.n ≤ 67108864), decide (atI (adrR p.m) p.L 0 < 0)], .tup [.ki .i64 (-1), .kb false]) := by kernel_rfl
theorem rfind_yes (S : Stat) (p : RfP) : Out.way [true, false, true, true] (rfdO S p) = some ([decide (p.L.length = p.n ∧ p.n ≤ 67108864), decide (atI (adrR p.m) p.L 0 < 0), decide (0 ≤ atI (adrR p.m) p.L 0) && decide (atI (adrR p.m) p.L 0 < p.n), decide ((atI (adrR p.m) p.L 0).toNat < p.L.length)], .tup [.v (.int .i64 (p.L.getD (atI (adrR p.m) p.L 0).toNat Entry.dflt).port), .kb true]) := by kernel_rfl
theorem atI_lt (a : Int) : ∀ (L : List Entry) (i : Nat), atI a L i < (i + L.length : Nat)
  | [], i => by simp [atI]; omega
  | e :: r, i => by
    unfold atI
    split
    · simp; omega
    · have := atI_lt a r (i + 1)
      simp only [List.length_cons]
      omega
theorem rfind_ok : CanonOk 23 gRFind := by
  refine canon_rd cLn_fam Try.func23 (by kernel_rfl) [] (by kernel_rfl) rfl 2 (fun S i k g hg => by simp at hg) ?_
  intro S args H m r hr
  unfold gRFind at hr
  split at hr <;> (try cases hr)
  rename_i a x y n L
  obtain ⟨hc, hr⟩ := Out.ite_bad hr
  simp only [Out.sel, Option.some.injEq] at hr
  subst hr
  have hn := of_decide_eq_true hc
  have hlt := atI_lt (adrR a) L 0
  refine ⟨rfl, rfl, fun E => ?_⟩
  by_cases h0 : atI (adrR a) L 0 < 0
  · refine ⟨S, 20, [.ptr 0 0, .v (.int .u64 a)], rfH x y n L, .tup [.ki .i64 (-1), .kb false], rfl, Out.way_sel (rfind_no S ⟨x, y, n, L, a⟩) (by dsimp only; rw [hc, decide_eq_true h0]), by simp [SV.dens, SV.den], ⟨⟨_, rfl, by simp [SV.cells, SV.cellss], trivial⟩, ⟨_, rfl, by simp [SV.cells], trivial⟩, trivial⟩, ?_⟩
    simp [SV.den, SV.dens, rPort, h0]
  · have h1 : (decide (0 ≤ atI (adrR a) L 0) && decide (atI (adrR a) L 0 < n)) = true := by
      rw [decide_eq_true (show 0 ≤ atI (adrR a) L 0 by omega), decide_eq_true (show atI (adrR a) L 0 < n by omega)]; rfl
    have h2 : (atI (adrR a) L 0).toNat < L.length := by omega
    refine ⟨S, 20, [.ptr 0 0, .v (.int .u64 a)], rfH x y n L, .tup [.v (.int .i64 (L.getD (atI (adrR a) L 0).toNat Entry.dflt).port), .kb true], rfl, Out.way_sel (rfind_yes S ⟨x, y, n, L, a⟩) (by dsimp only; rw [hc, decide_eq_false h0, h1, decide_eq_true h2]), by simp [SV.dens, SV.den], ⟨⟨_, rfl, by simp [SV.cells, SV.cellss], trivial⟩, ⟨_, rfl, by simp [SV.cells], trivial⟩, trivial⟩, ?_⟩
    simp [SV.den, SV.dens, rPort, h0]
end

section
open Go Go.RowKit

noncomputable def cSm (S : Stat) : Ctx := mkCtx S [] (ps0 S) [] 20 3
theorem cSm_fam : Fam cSm := fam_of (ss := fun _ => []) ps0_ok (fun S => specs_nil)
structure SmP where
  n : Nat
  k : Nat
  A : List Entry
  B : List Entry
def SmP.hp (p : SmP) : Heap := [(0, .rows (.entry p.A)), (1, .rows (.entry p.B))]
def smTs : List Nat := [0, 1, 5]
def smSt (p : SmP) (i : SV) : St := ⟨[(0, [], .slr 0 p.n 0 false), (1, [], .slr 1 p.k 1 false), (5, [], i)], p.hp, 2⟩
noncomputable def smR (S : Stat) (p : SmP) (i : Nat) : Out (Ex × St) := trimO [0, 1, 4, 5] 2 (exec (cSm (S.rd i 2)) (fnOf 27).ntmps 20 (lpOf 27 0) (smSt p (.v (.int .i64 i))))
def smIn (p : SmP) (i : Nat) : Bool := (decide (0 ≤ (i : Int)) && decide ((i : Int) < p.n)) && (decide (i < p.A.length) && ((decide (0 ≤ (i : Int)) && decide ((i : Int) < p.k)) && (decide (i < p.B.length) && ((decide (0 ≤ (i : Int)) && decide ((i : Int) < p.n)) && (decide (i < p.A.length) && ((decide (0 ≤ (i : Int)) && decide ((i : Int) < p.k)) && (decide (i < p.B.length) && ((decide (0 ≤ (i : Int)) && decide ((i : Int) < p.n)) && (decide (i < p.A.length) && ((decide (0 ≤ (i : Int)) && decide ((i : Int) < p.k)) && decide (i < p.B.length)))))))))))
def neE (a b : Entry) : Bool := (a.mac != b.mac || a.port != b.port) || a.sec != b.sec
theorem sm_ne (S : Stat) (p : SmP) (i : Nat) : Out.way [true, true, true] (smR S p i) = some ([decide ((i : Int) < p.n), smIn p i, neE (p.A.getD i Entry.dflt) (p.B.getD i Entry.dflt)], (.ret, ⟨(0, [], .slr 0 p.n 0 false) :: (1, [], .slr 1 p.k 1 false) :: (4, [], .kb false) :: [(5, [], .v (.int .i64 i))], p.hp, 2⟩)) := by kernel_rfl
theorem sm_eq (S : Stat) (p : SmP) (i : Nat) : Out.way [true, true, false] (smR S p i) = some ([decide ((i : Int) < p.n), smIn p i, neE (p.A.getD i Entry.dflt) (p.B.getD i Entry.dflt)], (.nrm, smSt p (.v (.int .i64 (IntKind.i64.wrap (i + 1)))))) := by kernel_rfl
theorem sm_over (S : Stat) (p : SmP) (i : Nat) : Out.way [false] (smR S p i) = some ([decide ((i : Int) < p.n)], (.exit 0, smSt p (.v (.int .i64 i)))) := by kernel_rfl
/-! ### numbers -/
theorem adrR_eq {m : Int} (h : 0 ≤ m ∧ m < 18446744073709551616) : adrR m = addrF m := by
  unfold adrR addrF
  obtain ⟨k, rfl⟩ : ∃ k : Nat, m = (k : Int) := ⟨m.toNat, by omega⟩
  have hk : k < 18446744073709551616 := by omega
  have h1 : (BitVec.ofInt IntKind.u64.bits (k : Int) &&& BitVec.ofInt IntKind.u64.bits 281474976710655).toNat = k % 281474976710656 := by
    have e1 : BitVec.ofInt IntKind.u64.bits (k : Int) = BitVec.ofNat 64 k := BitVec.ofInt_natCast 64 k
    have e2 : (BitVec.ofInt IntKind.u64.bits 281474976710655) = 281474976710655#64 := by rfl
    rw [e1, e2]
    show (BitVec.ofNat 64 k &&& 281474976710655#64).toNat = _
    rw [bv48, BitVec.toNat_ofNat, Nat.mod_eq_of_lt hk]
  rw [h1, Int.tmod_eq_emod_of_nonneg (by omega)]
  have hw : IntKind.u64.wrap ((k % 281474976710656 : Nat) : Int) = ((k % 281474976710656 : Nat) : Int) := by
    have := Nat.mod_lt k (show 0 < 281474976710656 by omega)
    unfold IntKind.wrap
    simp only [IntKind.signed, IntKind.bits]
    simp
    omega
  rw [hw]
  omega
theorem adrR_adrR {m : Int} (h : 0 ≤ m ∧ m < 18446744073709551616) : adrR (adrR m) = adrR m := by
  unfold adrR
  rw [Int.tmod_eq_emod_of_nonneg h.1, Int.tmod_eq_emod_of_nonneg (by omega)]
  omega
theorem bv1 (x : BitVec 64) : (x &&& 1#64).toNat = x.toNat % 2 := by
  rw [BitVec.toNat_and]
  exact Nat.and_two_pow_sub_one_eq_mod x.toNat 1
theorem badR_eq {m : Int} (h : 0 ≤ m ∧ m < 18446744073709551616) (P : Int) : badR m P = badF m P := by
  unfold badR badF
  rw [adrR_eq h]
  have hr := addrF_range m
  obtain ⟨k, hk⟩ : ∃ k : Nat, addrF m = (k : Int) := ⟨(addrF m).toNat, by omega⟩
  rw [hk]
  have hk2 : k < 281474976710656 := by omega
  have e1 : manyF (k : Int) = ((k / 1099511627776) % 2 == 1) := by
    unfold manyF
    have hp : (2 : Int) ^ min (Int.toNat 40) IntKind.u64.bits = 1099511627776 := by decide
    rw [hp, Int.fdiv_eq_ediv_of_nonneg _ (by omega)]
    have hq : ((k : Int) / 1099511627776) = ((k / 1099511627776 : Nat) : Int) := by omega
    rw [hq]
    have h1 : (BitVec.ofInt IntKind.u64.bits ((k / 1099511627776 : Nat) : Int) &&& BitVec.ofInt IntKind.u64.bits 1).toNat = (k / 1099511627776) % 2 := by
      have e1 : BitVec.ofInt IntKind.u64.bits ((k / 1099511627776 : Nat) : Int) = BitVec.ofNat 64 (k / 1099511627776) := BitVec.ofInt_natCast 64 _
      have e2 : (BitVec.ofInt IntKind.u64.bits 1) = 1#64 := by rfl
      rw [e1, e2]
      show (BitVec.ofNat 64 (k / 1099511627776) &&& 1#64).toNat = _
      rw [bv1, BitVec.toNat_ofNat]
      omega
    rw [h1]
    have hw : IntKind.u64.wrap (((k / 1099511627776) % 2 : Nat) : Int) = (((k / 1099511627776) % 2 : Nat) : Int) := by
      unfold IntKind.wrap
      simp only [IntKind.signed, IntKind.bits]
      simp
      omega
    rw [hw]
    rcases Nat.mod_two_eq_zero_or_one (k / 1099511627776) with h | h <;> rw [h] <;> rfl
  have e2 : ((IntKind.u64.wrap ((k : Int).tdiv 1099511627776)).tmod 2 == 1) = ((k / 1099511627776) % 2 == 1) := by
    have hd : (k : Int).tdiv 1099511627776 = ((k / 1099511627776 : Nat) : Int) := by
      rw [Int.tdiv_eq_ediv_of_nonneg (by omega)]; omega
    rw [hd]
    have hw : IntKind.u64.wrap ((k / 1099511627776 : Nat) : Int) = ((k / 1099511627776 : Nat) : Int) := by
      unfold IntKind.wrap
      simp only [IntKind.signed, IntKind.bits]
      simp
      omega
    rw [hw, Int.tmod_eq_emod_of_nonneg (by omega)]
    rcases Nat.mod_two_eq_zero_or_one (k / 1099511627776) with h | h
    · have : ((k / 1099511627776 : Nat) : Int) % 2 = 0 := by omega
      rw [this, h]; rfl
    · have : ((k / 1099511627776 : Nat) : Int) % 2 = 1 := by omega
      rw [this, h]; rfl
  rw [e1, e2]

/-! ### lists -/
theorem allE_nodup {l : PL} (h : (l.map (·.1)).Nodup) : ((allE l).map (·.mac)).Nodup := by
  unfold allE
  rw [((sortE_perm _).map _).nodup_iff, List.map_map]
  exact h
theorem allE_sorted (l : PL) : (allE l).Pairwise fun x y => leM x y = true := sortE_sorted _
theorem allE_perm (l : PL) : (allE l).Perm (l.map toE) := sortE_perm _
theorem allE_macs (l : PL) (a : Int) : (∃ e ∈ allE l, e.mac = a) ↔ hasK l a = true := by
  rw [hasK_iff]
  constructor
  · rintro ⟨e, he, rfl⟩
    obtain ⟨z, hz, rfl⟩ := allE_mem.1 he
    exact List.mem_map_of_mem (f := fun z : Int × Nat × Place => z.1) hz
  · intro h
    obtain ⟨z, hz, rfl⟩ := List.mem_map.1 h
    exact ⟨toE z, allE_mem.2 ⟨z, hz, rfl⟩, rfl⟩
/-- a sorted list alone has these elements -/
theorem allE_is {l : PL} {R : List Entry} (hn : (l.map (·.1)).Nodup) (hp : R.Perm (l.map toE)) (hs : R.Pairwise fun x y => leM x y = true) : allE l = R :=
  sorted_one ((allE_perm l).trans hp.symm) (allE_nodup hn) (allE_sorted l) hs
theorem insR_insE {z : Entry} : ∀ {L : List Entry}, (∀ e ∈ L, e.mac ≠ z.mac) → insR z L = insE z L
  | [], _ => rfl
  | e :: r, h => by
    have h0 := h e List.mem_cons_self
    unfold insR insE
    by_cases hgt : e.mac > z.mac
    · rw [if_pos hgt, if_pos (by omega)]
    · rw [if_neg hgt, if_neg (by omega), insR_insE fun x hx => h x (List.mem_cons_of_mem _ hx)]
theorem atI_spec (a : Int) : ∀ (L : List Entry) (i : Nat), (atI a L i < 0 ∧ ∀ e ∈ L, e.mac ≠ a) ∨ ∃ k : Nat, atI a L i = ((i + k : Nat) : Int) ∧ k < L.length ∧ (L.getD k Entry.dflt).mac = a
  | [], i => .inl ⟨by simp [atI], by simp⟩
  | e :: r, i => by
    unfold atI
    by_cases h : e.mac = a
    · rw [if_pos h]
      exact .inr ⟨0, by simp, by simp, by simpa using h⟩
    · rw [if_neg h]
      rcases atI_spec a r (i + 1) with ⟨h1, h2⟩ | ⟨k, h1, h2, h3⟩
      · refine .inl ⟨h1, fun x hx => ?_⟩
        rcases List.mem_cons.1 hx with rfl | hx
        · exact h
        · exact h2 x hx
      · exact .inr ⟨k + 1, by rw [h1]; omega, by simp; omega, by simpa using h3⟩
theorem woutE_at : ∀ (L : List Entry) (i k : Nat), k < L.length → (L.map (·.mac)).Nodup → woutE ((i + k : Nat) : Int) L i = L.filter fun e => !(e.mac == (L.getD k Entry.dflt).mac)
  | [], _, _, h, _ => by simp at h
  | e :: r, i, k, h, hn => by
    simp only [List.map_cons, List.nodup_cons] at hn
    have hne : ∀ x ∈ r, x.mac ≠ e.mac := fun x hx he => hn.1 (by rw [← he]; exact List.mem_map_of_mem (f := fun x : Entry => x.mac) hx)
    cases k with
    | zero =>
      have h0 : ∀ (r : List Entry) (j : Nat), i < j → woutE ((i + 0 : Nat) : Int) r j = r := by
        intro r
        induction r with
        | nil => intro j _; rfl
        | cons x r ih =>
          intro j hj
          unfold woutE
          rw [if_neg (by omega), ih (j + 1) (by omega)]
      unfold woutE
      rw [if_pos (by omega), h0 r (i + 1) (by omega)]
      have : r.filter (fun x => !(x.mac == e.mac)) = r := List.filter_eq_self.2 fun x hx => by simp [hne x hx]
      simp [this]
    | succ k =>
      have hk : k < r.length := by simpa using h
      have ih := woutE_at r (i + 1) k hk hn.2
      have hg : (e :: r).getD (k + 1) Entry.dflt = r.getD k Entry.dflt := by simp
      have hx : (r.getD k Entry.dflt) ∈ r := by
        rw [List.getD, List.getElem?_eq_getElem hk]
        exact List.getElem_mem _
      have hb : (e.mac == (r.getD k Entry.dflt).mac) = false := by
        have := hne _ hx
        cases hq : (e.mac == (r.getD k Entry.dflt).mac) with
        | false => rfl
        | true => exact absurd (beq_iff_eq.1 hq).symm this
      unfold woutE
      rw [if_neg (by omega), hg, List.filter_cons, hb, show i + (k + 1) = i + 1 + k from by omega, ih]
      rfl
theorem filter_none {L : List Entry} {a : Int} (h : ∀ e ∈ L, e.mac ≠ a) : (L.filter fun e => !(e.mac == a)) = L := List.filter_eq_self.2 fun x hx => by simp [h x hx]
theorem putK_perm {a : Int} {c : Nat} {v : Place} : ∀ {l : PL}, (l.map (·.1)).Nodup → ((putK l a c v).map toE).Perm (⟨a, v.port, v.sec⟩ :: (l.filter fun e => !(e.1 == a)).map toE)
  | [], _ => List.Perm.refl _
  | e :: r, h => by
    simp only [List.map_cons, List.nodup_cons] at h
    unfold putK
    by_cases he : e.1 = a
    · have hr : r.filter (fun e => !(e.1 == a)) = r := List.filter_eq_self.2 fun x hx => by
        have : x.1 ≠ a := fun hh => h.1 (by rw [he, ← hh]; exact List.mem_map_of_mem (f := fun x : Int × Nat × Place => x.1) hx)
        simp [this]
      simp [he, hr, toE]
    · have ih := putK_perm (a := a) (c := c) (v := v) h.2
      have hb : (e.1 == a) = false := by simp [he]
      simp only [if_neg he, List.map_cons, List.filter_cons, hb, Bool.not_false, if_true]
      exact (ih.cons _).trans (List.Perm.swap _ _ _)
theorem allE_put {l : PL} {a : Int} {c : Nat} {v : Place} (h : (l.map (·.1)).Nodup) : allE (putK l a c v) = insE ⟨a, v.port, v.sec⟩ ((allE l).filter fun e => !(e.mac == a)) := by
  have hn : ((putK l a c v).map (·.1)).Nodup := by
    cases hh : hasK l a with
    | true => rw [putK_keys hh]; exact h
    | false =>
      rw [putK_new hh, List.map_append, List.nodup_append]
      refine ⟨h, by simp, fun x hx y hy => ?_⟩
      simp only [List.map_cons, List.map_nil, List.mem_singleton] at hy
      rintro rfl
      exact hasK_no hh (hy ▸ hx)
  refine allE_is hn ?_ (insE_sorted _ _ ((allE_sorted l).sublist List.filter_sublist))
  refine (insE_perm _ _).trans (List.Perm.trans ?_ (putK_perm h).symm)
  refine List.Perm.cons _ ?_
  have := (allE_perm l).filter fun e => !(e.mac == a)
  rw [List.filter_map] at this
  exact this
theorem allE_del {l : PL} {k : Int} (h : (l.map (·.1)).Nodup) : allE (delK l k) = (allE l).filter fun e => !(e.mac == k) := by
  refine allE_is (h.sublist ((delK_sub l).map _)) ?_ ((allE_sorted l).sublist List.filter_sublist)
  rw [delK_filter h]
  have := (allE_perm l).filter fun e => !(e.mac == k)
  rw [List.filter_map] at this
  exact this
/-- to learn is to learn -/
theorem learn_same {x y : Int} {l : PL} {c : Nat} {m P : Int} (h : TabOk x y l) (hx : 1 ≤ x) (hm : 0 ≤ m ∧ m < 18446744073709551616) (hb : badF m P = false) : learnR x y (allE l) m P = allE (learnL x y c l m P) ∧ (fullR x (allE l).length (allE l) m = false ∨ 1 ≤ (allE l).length) := by
  have hn := allE_nodup h.key
  have ha := adrR_eq hm
  have haa : adrR (adrR m) = addrF m := by rw [adrR_adrR hm, ha]
  have hfull : fullR x (allE l).length (allE l) m = fullF x l m := by
    unfold fullR fullF
    rw [haa, allE_len]
    congr 1
    rcases atI_spec (addrF m) (allE l) 0 with ⟨h1, h2⟩ | ⟨k, h1, h2, h3⟩
    · have : hasK l (addrF m) = false := by
        cases hh : hasK l (addrF m) with
        | false => rfl
        | true =>
          obtain ⟨e, he, hq⟩ := (allE_macs l (addrF m)).2 hh
          exact absurd hq (h2 e he)
      rw [decide_eq_true h1, this]; rfl
    · have : hasK l (addrF m) = true := (allE_macs l (addrF m)).1 ⟨_, by rw [List.getD, List.getElem?_eq_getElem h2]; exact List.getElem_mem _, h3⟩
      have hge : ¬ atI (addrF m) (allE l) 0 < 0 := by omega
      rw [decide_eq_false hge, this]; rfl
  have hpos : fullF x l m = true → 1 ≤ (allE l).length := by
    intro hf
    unfold fullF at hf
    simp only [Bool.and_eq_true, beq_iff_eq] at hf
    rw [allE_len]; omega
  refine ⟨?_, ?_⟩
  · unfold learnR lessR learnL
    rw [hfull, haa, ha, hb]
    simp only [Bool.false_eq_true, if_false]
    by_cases hf : fullF x l m = true
    · rw [if_pos hf, if_pos hf]
      have h1 := hpos hf
      obtain ⟨k1, k2⟩ := minI_ok h1
      have hw := woutE_at (allE l) 0 (minI (allE l)) k1 hn
      rw [k2, Nat.zero_add] at hw
      rw [hw, allE_put (h.key.sublist ((delK_sub l).map _)), allE_del h.key]
      have hno : hasK l (addrF m) = false := by
        unfold fullF at hf
        simp only [Bool.and_eq_true, Bool.not_eq_true'] at hf
        exact hf.1
      have hne : ∀ e ∈ (allE l).filter fun e => !(e.mac == (minE (allE l)).mac), e.mac ≠ addrF m := fun e he hq => by
        have := (allE_macs l (addrF m)).1 ⟨e, (List.mem_filter.1 he).1, hq⟩
        rw [hno] at this; cases this
      rw [filter_none hne]
      exact insR_insE hne
    · rw [if_neg hf, if_neg hf, allE_put h.key]
      rcases atI_spec (addrF m) (allE l) 0 with ⟨h1, h2⟩ | ⟨k, h1, h2, h3⟩
      · rw [if_neg (by omega), filter_none h2]
        exact insR_insE h2
      · rw [if_pos (by rw [h1]; omega), h1]
        have hw := woutE_at (allE l) 0 k h2 hn
        rw [h3] at hw
        rw [hw]
        refine insR_insE fun e he => ?_
        have := (List.mem_filter.1 he).2
        simpa using this
  · rw [hfull]
    cases hf : fullF x l m with
    | false => exact .inl rfl
    | true => exact .inr (hpos hf)
/-- to find is to find -/
theorem getK_mem {a : Int} : ∀ {l : PL} {d : Place}, hasK l a = true → ∃ z ∈ l, z.1 = a ∧ getK l a d = z.2.2
  | [], _, h => by cases h
  | e :: r, d, h => by
    unfold getK
    by_cases he : e.1 = a
    · rw [if_pos he]; exact ⟨e, List.mem_cons_self, he, rfl⟩
    · rw [if_neg he]
      simp only [hasK, if_neg he] at h
      obtain ⟨z, hz, h1, h2⟩ := getK_mem (l := r) (d := d) h
      exact ⟨z, List.mem_cons_of_mem _ hz, h1, h2⟩
theorem mac_inj {L : List Entry} (hn : (L.map (·.mac)).Nodup) {e f : Entry} (he : e ∈ L) (hf : f ∈ L) (h : e.mac = f.mac) : e = f := by
  induction L with
  | nil => cases he
  | cons x r ih =>
    simp only [List.map_cons, List.nodup_cons] at hn
    rcases List.mem_cons.1 he with he1 | he1
    · rcases List.mem_cons.1 hf with hf1 | hf1
      · rw [he1, hf1]
      · exact absurd (by rw [← he1, h]; exact List.mem_map_of_mem (f := fun x : Entry => x.mac) hf1) hn.1
    · rcases List.mem_cons.1 hf with hf1 | hf1
      · exact absurd (by rw [← hf1, ← h]; exact List.mem_map_of_mem (f := fun x : Entry => x.mac) he1) hn.1
      · exact ih hn.2 he1 hf1
theorem find_same {x y : Int} {l : PL} {m : Int} (h : TabOk x y l) (hm : 0 ≤ m ∧ m < 18446744073709551616) : rPort (allE l) (atI (adrR m) (allE l) 0) = portF l m ∧ (!(decide (atI (adrR m) (allE l) 0 < 0))) = hasK l (addrF m) := by
  have hn := allE_nodup h.key
  rw [adrR_eq hm]
  rcases atI_spec (addrF m) (allE l) 0 with ⟨h1, h2⟩ | ⟨k, h1, h2, h3⟩
  · have : hasK l (addrF m) = false := by
      cases hh : hasK l (addrF m) with
      | false => rfl
      | true =>
        obtain ⟨e, he, hq⟩ := (allE_macs l (addrF m)).2 hh
        exact absurd hq (h2 e he)
    unfold rPort portF
    rw [this, if_pos h1, decide_eq_true h1]
    simp
  · have hin : (allE l).getD k Entry.dflt ∈ allE l := by rw [List.getD, List.getElem?_eq_getElem h2]; exact List.getElem_mem _
    have hh : hasK l (addrF m) = true := (allE_macs l (addrF m)).1 ⟨_, hin, h3⟩
    have hge : ¬ atI (addrF m) (allE l) 0 < 0 := by omega
    unfold rPort portF
    rw [hh, if_neg hge, decide_eq_false hge, if_pos rfl, h1]
    refine ⟨?_, rfl⟩
    rw [Nat.zero_add, Int.toNat_natCast]
    obtain ⟨z, hz, z1, z2⟩ := getK_mem (d := (⟨0, 0⟩ : Place)) hh
    rw [z2]
    have hz' : toE z ∈ allE l := allE_mem.2 ⟨z, hz, rfl⟩
    have := mac_inj hn hin hz' (by rw [h3]; exact z1.symm)
    rw [this]; rfl
/-- what changes entries, changes entries -/
theorem upd_same {l : PL} {ch : Place → Place} {f : Entry → Entry} (h : (l.map (·.1)).Nodup) (hf : ∀ z : Int × Nat × Place, f (toE z) = toE (z.1, z.2.1, ch z.2.2)) (hmac : ∀ e, (f e).mac = e.mac) : (allE l).filterMap (liveE f) = allE (l.filterMap (updE ch)) := by
  have hmap : ∀ l : PL, (l.filterMap (updE ch)).map toE = (l.map toE).filterMap (liveE f) := by
    intro l
    induction l with
    | nil => rfl
    | cons z r ih =>
      rw [List.map_cons, List.filterMap_cons, List.filterMap_cons, liveE, hf]
      have hs : (toE (z.1, z.2.1, ch z.2.2)).sec = (ch z.2.2).sec := rfl
      rw [hs]
      unfold updE
      by_cases h0 : (ch z.2.2).sec ≤ 0
      · rw [if_pos h0, if_neg (by omega)]; exact ih
      · rw [if_neg h0, if_pos (by omega), List.map_cons]; exact congrArg _ ih
  have hsub : ∀ l : PL, ((l.filterMap (updE ch)).map (·.1)).Sublist (l.map (·.1)) := by
    intro l
    induction l with
    | nil => exact List.Sublist.slnil
    | cons e r ih =>
      rw [List.filterMap_cons]
      unfold updE
      by_cases h0 : (ch e.2.2).sec ≤ 0
      · rw [if_pos h0]; exact ih.cons _
      · rw [if_neg h0]; exact ih.cons_cons _
  refine (allE_is (h.sublist (hsub l)) ?_ ?_).symm
  · rw [hmap]
    exact (allE_perm l).filterMap _
  · have := allE_sorted l
    rw [List.pairwise_filterMap]
    refine this.imp ?_
    intro a b hab x hx z hz
    unfold liveE at hx hz
    split at hx
    · split at hz
      · injection hx with hx; injection hz with hz
        subst hx hz
        simp only [leM, decide_eq_true_eq] at hab ⊢
        rw [hmac, hmac]; exact hab
      · cases hz
    · cases hx
theorem tick_same {x y : Int} {l : PL} (h : TabOk x y l) : tickR (allE l) = allE (tickL l) := upd_same h.key (fun _ => rfl) (fun _ => rfl)
theorem short_same {x y : Int} {l : PL} (h : TabOk x y l) (P s : Int) : shortR P s (allE l) = allE (shortL P s l) := by
  refine upd_same h.key (fun z => ?_) (fun e => ?_)
  · unfold shE shortP toE
    dsimp only
    by_cases hp : z.2.2.port = P
    · rw [if_pos hp, if_pos hp, hp]
    · rw [if_neg hp, if_neg hp]
  · unfold shE
    split <;> rfl
theorem short_neg {x y : Int} {l : PL} (h : TabOk x y l) (P s : Int) (hs : s < 0) : shortL P s l = shortL P 0 l := by
  unfold shortL
  have hsec : ∀ e ∈ l, 1 ≤ e.2.2.sec := fun e he => (h.sec e he).1
  clear h
  induction l with
  | nil => rfl
  | cons e r ih =>
    have h1 := hsec e List.mem_cons_self
    have ih := ih fun z hz => hsec z (List.mem_cons_of_mem _ hz)
    rw [List.filterMap_cons, List.filterMap_cons, ih]
    have : updE (shortP P s) e = updE (shortP P 0) e := by
      by_cases hp : e.2.2.port = P
      · have h2 : s < e.2.2.sec := by omega
        have h3 : 0 < e.2.2.sec := by omega
        have h4 : s ≤ 0 := by omega
        simp [updE, shortP, hp, h2, h3, h4]
      · simp [updE, shortP, hp]
    rw [this]
theorem cnt_same (l : PL) (P : Int) : shCnt P (allE l) = cntP P l := by
  unfold shCnt cntP
  have := ((allE_perm l).filter fun e => e.port == P).length_eq
  rw [this, List.filter_map, List.length_map]
  rfl
end
end Go.Proofs.Ytfncoeoaniclmaa
