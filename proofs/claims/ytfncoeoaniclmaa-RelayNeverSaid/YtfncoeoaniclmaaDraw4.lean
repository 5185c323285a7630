/- A region that draws its order: new memory, the whole step, and the region. -/
import Derived.Test.YtfncoeoaniclmaaDraw3
set_option linter.unusedVariables false
namespace Go.Proofs.Ytfncoeoaniclmaa
open Go Go.RowKit

theorem apart_of {a b : Addr} {n m : Nat} (h : ∀ j, j < n → a.block = b.block → b.off ≤ a.off + j → a.off + j < b.off + m → False) (hn : 0 < n) (hm : 0 < m) : apart a n b m := by
  by_cases hb : a.block = b.block
  · by_cases h1 : a.off + n ≤ b.off
    · exact .inr (.inl h1)
    · by_cases h2 : b.off + m ≤ a.off
      · exact .inr (.inr h2)
      · exfalso
        by_cases h3 : a.off ≤ b.off
        · exact h (b.off - a.off) (by omega) hb (by omega) (by omega)
        · exact h 0 hn hb (by omega) (by omega)
  · exact .inl hb

/-- E, but for the chunks from a up to b: those as E1 has them -/
def Env.over (E E1 : Env) (a b : Nat) : Env := ⟨fun k => if a ≤ k ∧ k < b then E1.ad k else E.ad k, fun k => if a ≤ k ∧ k < b then E1.cp k else E.cp k⟩
theorem Env.over_agree (E E1 : Env) (a b : Nat) : Env.agree (fun j => !(inR a b j)) E (E.over E1 a b) := by
  intro j hj
  have : ¬ (a ≤ j ∧ j < b) := by
    intro hh
    dsimp only at hj
    rw [inR_ok.2 hh] at hj; cases hj
  simp [Env.over, this]
theorem Env.over_upto (E E1 : Env) {n a : Nat} (h : n ≤ a) (b : Nat) : Env.upto n E (E.over E1 a b) := by
  intro j hj
  have : ¬ (a ≤ j ∧ j < b) := by omega
  simp [Env.over, this]
theorem Env.over_new {E E1 : Env} {a b : Nat} (h : Env.upto a E E1) : Env.upto b E1 (E.over E1 a b) := by
  intro j hj
  by_cases ha : a ≤ j
  · simp [Env.over, ha, hj]
  · have : ¬ (a ≤ j ∧ j < b) := fun h => ha h.1
    simp only [Env.over, this, if_false]
    exact ⟨(h j (by omega)).1.symm, (h j (by omega)).2.symm⟩

section
variable {P : Program} {c : Ctx} {n : Nat} {ops pre : List Oper} {st0 stN : St} {items : List Item} {w0 : World} {M : Nat → Nat → Prop} {E0 E : Env} {D : Nat → Bool} {i : Nat} {it : Item} {a : Act} {w : World}

theorem bnd_out {x : SV} {m a b : Nat} (h : x.bnd m = true) (hk : m ≤ a) : x.kall (fun j => !(inR a b j)) = true := by
  refine SV.kall_mono ?_ x h
  intro j hj
  have hj : j < m := by simpa using hj
  cases hb : inR a b j with
  | false => rfl
  | true => have := (inR_ok.1 hb).1; omega

theorem wCell_agree {S : Stat} {x : Item} {lo hi k j : Nat} {E' : Env} (ha : Env.agree (fun j => !(inR lo hi j)) E E') (h : x.keysOut lo hi = true) : wCell S E' k j x = wCell S E k j x := by
  unfold Item.keysOut at h
  unfold wCell
  split
  · rename_i p k' o y r hact
    rw [hact] at h
    simp only [Deed.kall, Bool.and_eq_true] at h
    rw [SV.cells_agree S ha y h.1.2]
  · rename_i p y r hact
    rw [hact] at h
    simp only [Deed.kall, Bool.and_eq_true] at h
    rw [SV.cells_agree S ha y h.1]
  · rename_i p y len r hact
    rw [hact] at h
    simp only [Deed.kall, Bool.and_eq_true] at h
    rw [SV.cells_agree S ha y h.1]
  · rename_i p f args ks outs hi' r hact
    rw [hact] at h
    simp only [Deed.kall, Bool.and_eq_true] at h
    cases ho : outs.get k with
    | none => rfl
    | some y =>
      dsimp only
      rw [SV.cells_agree S ha y (heap_all (f := fun e => e.2.kall fun j => !(inR lo hi j)) h.1.2.2 ho)]
  · rfl

/-- those that have been name no chunk that is yet to be made -/
theorem Setup.fresh (s : Setup P c n ops pre st0 items stN) (hn : Next ops D i) (hi : items[i]? = some it) {lo hi' : Nat} (hm : it.span = some (lo, hi')) {j : Nat} {x : Item} (hj : items[j]? = some x) (hd : D j = true) :
    x.keysOut lo hi' = true ∧ ∀ k, inR lo hi' k = true → x.makes k = false := by
  have hji : j ≠ i := by intro he; subst he; rw [hn.no] at hd; cases hd
  have far : ∀ {y z : Item}, sameKey y z = false → ∀ {k}, y.makes k = true → z.makes k = true → False := by
    intro y z hs k h1 h2
    unfold Item.makes at h1 h2
    unfold sameKey at hs
    split at h1
    · rename_i a b hy
      split at h2
      · rename_i a' b' hz
        rw [hy, hz] at hs
        simp only [Bool.not_eq_false', Bool.or_eq_true] at hs
        have g1 := inR_ok.1 h1
        have g2 := inR_ok.1 h2
        rcases hs with hs | hs
        · have := Nat.le_of_ble_eq_true hs; omega
        · have := Nat.le_of_ble_eq_true hs; omega
      · cases h2
    · cases h1
  have hmk : ∀ k, inR lo hi' k = true → it.makes k = true := by
    intro k hk
    unfold Item.makes
    rw [hm]
    exact hk
  have hsh : x.shuns it = true → x.keysOut lo hi' = true := by
    intro h
    unfold Item.shuns at h
    rw [hm] at h
    exact h
  rcases Nat.lt_or_gt_of_ne hji with h | h
  · have ha := s.ahead hj hi h
    simp only [Ytfncoeoaniclmaa.ahead, Bool.and_eq_true, Bool.not_eq_true'] at ha
    refine ⟨hsh ha.2.2.1, fun k hk => ?_⟩
    cases hx : x.makes k with
    | false => rfl
    | true => exact (far ha.2.1 hx (hmk k hk)).elim
  · have hl := s.behind hn hj hi h hd
    have ha := s.ahead hi hj h
    simp only [Ytfncoeoaniclmaa.ahead, Bool.and_eq_true, Bool.not_eq_true'] at ha
    simp only [Ytfncoeoaniclmaa.loose, Bool.and_eq_true] at hl
    refine ⟨hsh hl.2.2.2.2, fun k hk => ?_⟩
    cases hx : x.makes k with
    | false => rfl
    | true => exact (far ha.2.1 (hmk k hk) hx).elim

/-- what an operation leaves that makes chunks, and turns some that there are -/
structure Grow (S : Stat) (E E1 : Env) (w w' : World) (lo hi : Nat) (sub outs : Heap) : Prop where
  up : Env.upto lo E E1
  bnd : ∀ k x, outs.get k = some x → k < hi ∧ x.bnd hi = true
  at_ : ∀ k x, outs.get k = some x → 0 < x.size → At w' (E1.ad k) (x.cells S E1)
  wr : ∀ k x, outs.get k = some x → lo ≤ k → 0 < x.size → Wr w' (E1.ad k).block
  dis : ∀ k k' x x', k ≠ k' → outs.get k = some x → outs.get k' = some x' → 0 < x.size → 0 < x'.size → lo ≤ k → apart (E1.ad k) x.size (E1.ad k') x'.size
  old : ∀ k x, outs.get k = some x → k < lo → ∃ x0, sub.get k = some x0 ∧ x0.size = x.size
  keep : ∀ k x0, sub.get k = some x0 → S.ro k = false → ∃ x, outs.get k = some x
  own : ∀ k x, outs.get k = some x → lo ≤ k → (w.heap.size ≤ (E1.ad k).block ∨ ∀ j, j < x.size → MH S E sub (E1.ad k).block ((E1.ad k).off + j))
  fr : Fr w w' (MH S E sub)

theorem step_grow (s : Setup P c n ops pre st0 items stN) (hn : Next ops D i) (hi : items[i]? = some it) (inv : DInv c n w0 M E0 st0 items D E a w)
    {lo hi' : Nat} {sub outs : Heap} {E1 : Env} {w' : World} (hm : it.span = some (lo, hi')) (hg : Grow c.S E E1 w w' lo hi' sub outs)
    (hsz : ∀ k, wSize k it = bif inR lo hi' k then (outs.get k).map SV.size else none)
    (hcl : ∀ E k j, wCell c.S E k j it = match outs.get k with | some y => (y.cells c.S E)[j]? | none => none)
    (hsub : ∀ k x0, sub.get k = some x0 → lastW (wSize k) D items 0 ((st0.heap.get k).map SV.size) = some x0.size ∧ it.keysNot k = false ∧ k < lo)
    (hcr : ∀ k, (∃ x0, sub.get k = some x0) → ∀ j y, items[j]? = some y → i < j → D j = true → ∀ j', wCell c.S (E.over E1 lo hi') k j' y = none)
    (hdn : ∀ d, it.o.dst = some d → d < n ∧ Path.free it.val.1 d = true) {v : Value} (hv1 : PathHolds a it.val.1 → v = it.val.2.den c.S (E.over E1 lo hi')) (hv2 : ¬ PathHolds a it.val.1 → v = undef) :
    DInv c n w0 M E0 st0 items (put1 D i) (E.over E1 lo hi') (a.put it.o.dst v) w' := by
  have hag := E.over_agree E1 lo hi'
  have hle : st0.next ≤ lo := (allPairs_ok ops st0.next items (masks ops []) 0 s.pair).1 i it hi lo hi' hm
  obtain ⟨hb1, hb2⟩ := St.bnd_ok s.bnd
  have hfr := hg.fr
  have hnew := Env.over_new (b := hi') hg.up
  have hadN : ∀ k x, outs.get k = some x → (E.over E1 lo hi').ad k = E1.ad k := fun k x hk => (hnew k (hg.bnd k x hk).1).1
  have hceN : ∀ k x, outs.get k = some x → x.cells c.S (E.over E1 lo hi') = x.cells c.S E1 := fun k x hk => SV.cells_upto c.S hnew x (hg.bnd k x hk).2
  have hadO : ∀ k, inR lo hi' k = false → (E.over E1 lo hi').ad k = E.ad k := fun k hk => (hag k (by simp [hk])).1
  have hsz0 : ∀ k, inR lo hi' k = false → wSize k it = none := fun k hk => by rw [hsz, hk]; rfl
  have hsizes : ∀ k, inR lo hi' k = false → lastW (wSize k) (put1 D i) items 0 ((st0.heap.get k).map SV.size) = lastW (wSize k) D items 0 ((st0.heap.get k).map SV.size) := fun k hk => ins_none _ hi hn (hsz0 k hk) _
  have hold : ∀ k, inR lo hi' k = true → lastW (wSize k) D items 0 ((st0.heap.get k).map SV.size) = none := by
    intro k hk
    have hge := (inR_ok.1 hk).1
    have hgn : st0.heap.get k = none := by
      cases hgg : st0.heap.get k with
      | none => rfl
      | some x => have := (hb2 k x hgg).1; omega
    rw [hgn]
    refine lastW_none _ D _ 0 _ fun j x hj hd => ?_
    rw [Nat.zero_add] at hd
    cases hw : wSize k x with
    | none => rfl
    | some L => have h1 := made_of_size hw; rw [(s.fresh hn hi hm hj hd).2 k hk] at h1; cases h1
  have hnewsize : ∀ k, inR lo hi' k = true → lastW (wSize k) (put1 D i) items 0 ((st0.heap.get k).map SV.size) = (outs.get k).map SV.size := by
    intro k hk
    rw [lastW_insert _ D (put1 D i) items i it hi _ hn.no (by simp [put1]) (fun j hj => by simp [put1, hj]), hsz, hk, hold k hk]
    · cases outs.get k <;> rfl
    · intro _ j x hj hlt hd
      cases hw : wSize k x with
      | none => rfl
      | some L => have h1 := made_of_size hw; rw [(s.fresh hn hi hm hj hd).2 k hk] at h1; cases h1
  have hbase : ∀ (k j : Nat), ((st0.heap.get k).bind fun x => (x.cells c.S (E.over E1 lo hi'))[j]?) = ((st0.heap.get k).bind fun x => (x.cells c.S E)[j]?) := by
    intro k j
    cases hgg : st0.heap.get k with
    | none => rfl
    | some x => simp only [Option.bind_some]; rw [SV.cells_agree c.S hag x (bnd_out (hb2 k x hgg).2 hle)]
  have hcells : ∀ (k j : Nat) (a : Option Value), lastW (wCell c.S (E.over E1 lo hi') k j) D items 0 a = lastW (wCell c.S E k j) D items 0 a := by
    intro k j a
    refine lastW_congr _ _ D D items 0 a fun j' x hj' => ⟨rfl, fun hd => ?_⟩
    rw [Nat.zero_add] at hd
    exact wCell_agree hag (s.fresh hn hi hm hj' hd).1
  -- what lay there, and isn't turned
  have hother : ∀ k L, lastW (wSize k) D items 0 ((st0.heap.get k).map SV.size) = some L → 0 < L → outs.get k = none → ∀ b j, b = (E.ad k).block → (E.ad k).off ≤ j → j < (E.ad k).off + L → ¬ MH c.S E sub b j := by
    rintro k L h hL ho b j hb h1 h2 ⟨k1, x1, hk1, hro, hb1, hlo, hhi⟩
    have hne : k1 ≠ k := by
      intro he; subst he
      obtain ⟨x, hx⟩ := hg.keep k1 x1 hk1 hro
      rw [hx] at ho; cases ho
    rcases inv.dis k1 k x1.size L hne (hsub k1 x1 hk1).1 h (by omega) hL hro with hd | hd | hd
    · exact hd (by rw [← hb1, ← hb])
    · omega
    · omega
  -- a new chunk, and one that was there
  have hcross : ∀ k x k' L', outs.get k = some x → lo ≤ k → 0 < x.size → inR lo hi' k' = false → lastW (wSize k') D items 0 ((st0.heap.get k').map SV.size) = some L' → 0 < L' → apart (E1.ad k) x.size (E.ad k') L' := by
    intro k x k' L' hk hlok hp hk' h' hp'
    cases ho : outs.get k' with
    | some x' =>
      have hlt : k' < lo := by
        have := (hg.bnd k' x' ho).1
        refine Nat.lt_of_not_le fun hh => ?_
        rw [inR_ok.2 ⟨hh, this⟩] at hk'; cases hk'
      obtain ⟨x0, hx0, hs0⟩ := hg.old k' x' ho hlt
      have hL : L' = x'.size := by
        have := (hsub k' x0 hx0).1
        rw [h'] at this; injection this with this; omega
      have := hg.dis k k' x x' (by omega) hk ho hp (by omega) hlok
      rw [(hg.up k' hlt).1, ← hL] at this
      exact this
    | none =>
      obtain ⟨vs, b1, b2, b3, b4⟩ := inv.mem k' L' h' hp'
      rcases hg.own k x hk hlok with hge | hmm
      · refine .inl ?_
        have := b3.lt
        omega
      · refine apart_of (fun j hj hbl h1 h2 => ?_) hp hp'
        exact hother k' L' h' hp' ho _ _ hbl h1 h2 (hmm j hj)
  refine ⟨inv.up.trans (E.over_upto E1 hle hi') (Nat.le_refl _), s.slots_step hn hi inv.size ?_ hdn hv1 hv2, ?_, ?_, ?_, ?_, by rw [Act.put_size]; exact inv.size, by rw [Act.put_defers']; exact inv.defers⟩
  · intro t p x h
    have hx : x.kall (fun j => !(inR lo hi' j)) = true := by
      rcases lastW_mem _ D items 0 _ _ h with h0 | ⟨j, z, hj, hd, hz⟩
      · exact bnd_out (slots_all hb1 h0) hle
      · rw [Nat.zero_add] at hd
        have hk := (s.fresh hn hi hm hj hd).1
        unfold wSlot at hz
        cases hdz : isDst z.o.dst t with
        | false => rw [hdz] at hz; cases hz
        | true =>
          rw [hdz] at hz
          simp only [cond_true, Option.some.injEq] at hz
          unfold Item.val at hz
          unfold Item.keysOut at hk
          split at hz
          · rename_i q dd xx hact
            rw [hact] at hk
            simp only [Bool.and_eq_true] at hk
            injection hz with e1 e2
            subst e2
            cases xx with
            | none => rfl
            | some u => exact hk.2
          · injection hz with e1 e2; subst e2; rfl
    rw [SV.den_agree c.S hag x hx]
    exact inv.slots t p x h
  · intro k L h hLp
    cases ho : outs.get k with
    | some x =>
      have hL : L = x.size ∧ (∀ j, j < x.size → (x.cells c.S E1)[j]? = lastW (wCell c.S (E.over E1 lo hi') k j) (put1 D i) items 0 ((st0.heap.get k).bind fun x => (x.cells c.S (E.over E1 lo hi'))[j]?)) ∧
          ((∀ x, st0.heap.get k = some x → NoTup (x.cells c.S E0)) → c.S.ro k = false → Wr w' (E1.ad k).block) := by
        cases hr : inR lo hi' k with
        | true =>
          have hgek := (inR_ok.1 hr).1
          rw [hnewsize k hr, ho] at h
          have e : x.size = L := Option.some.inj h
          refine ⟨e.symm, fun j hj => ?_, fun _ _ => hg.wr k x ho hgek (by omega)⟩
          rw [lastW_insert _ D (put1 D i) items i it hi _ hn.no (by simp [put1]) (fun j hj => by simp [put1, hj]), hcl, ho]
          · dsimp only
            rw [hceN k x ho]
            obtain ⟨u, hu⟩ : ∃ u, (x.cells c.S E1)[j]? = some u := ⟨_, List.getElem?_eq_getElem (by rw [SV.len]; exact hj)⟩
            rw [hu, ov_some]
          · intro _ j' y hj' hlt hd
            have hf := s.fresh hn hi hm hj' hd
            have hkn := keysNot_of hf.1 hr
            cases hw : wCell c.S (E.over E1 lo hi') k j y with
            | none => rfl
            | some u =>
              exfalso
              rcases wCell_cases hw with h1 | ⟨p, o, z, r, h1, _⟩ | ⟨p, f, args, ks, outs', hi2, r, h1, hh⟩
              · rw [hf.2 k hr] at h1; cases h1
              · unfold Item.keysNot at hkn
                rw [h1] at hkn
                simp [Deed.kall] at hkn
              · unfold Item.keysNot at hkn
                rw [h1] at hkn
                simp only [Deed.kall, Bool.and_eq_true] at hkn
                have := List.all_eq_true.1 hkn.1.1 k (hasN_mem _ _ hh)
                simp at this
        | false =>
          have hlt : k < lo := by
            have := (hg.bnd k x ho).1
            refine Nat.lt_of_not_le fun hh => ?_
            rw [inR_ok.2 ⟨hh, this⟩] at hr; cases hr
          obtain ⟨x0, hx0, hs0⟩ := hg.old k x ho hlt
          rw [hsizes k hr, (hsub k x0 hx0).1] at h
          have e : x0.size = L := Option.some.inj h
          refine ⟨by omega, fun j hj => ?_, fun hnt hro => ?_⟩
          · rw [lastW_insert _ D (put1 D i) items i it hi _ hn.no (by simp [put1]) (fun j hj => by simp [put1, hj]), hcl, ho]
            · dsimp only
              rw [hceN k x ho]
              obtain ⟨u, hu⟩ : ∃ u, (x.cells c.S E1)[j]? = some u := ⟨_, List.getElem?_eq_getElem (by rw [SV.len]; exact hj)⟩
              rw [hu, ov_some]
            · intro _ j' y hj' hlt hd
              exact hcr k ⟨x0, hx0⟩ j' y hj' hlt hd j
          · obtain ⟨vs, b1, b2, b3, b4⟩ := inv.mem k x0.size (hsub k x0 hx0).1 (by omega)
            rw [(hg.up k hlt).1]
            exact (b4 hnt hro).fr hfr
      obtain ⟨e, h2, h3⟩ := hL
      subst e
      rw [hadN k x ho]
      exact ⟨x.cells c.S E1, SV.len c.S E1 x, h2, hg.at_ k x ho hLp, h3⟩
    | none =>
      have hr : inR lo hi' k = false := by
        cases hr : inR lo hi' k with
        | false => rfl
        | true => rw [hnewsize k hr, ho] at h; cases h
      rw [hsizes k hr] at h
      obtain ⟨vs, a1, a2, a3, a4⟩ := inv.mem k L h hLp
      rw [hadO k hr]
      refine ⟨vs, a1, fun j hj => ?_, a3.fr hfr (fun j hj => hother k L h hLp ho _ _ rfl (by omega) (by omega)), fun hnt hr => (a4 hnt hr).fr hfr⟩
      rw [ins_none _ hi hn (by rw [hcl, ho]), hcells, hbase]
      exact a2 j hj
  · intro k k' L L' hne h h' hp hp' hr
    cases hk : inR lo hi' k with
    | true =>
      rw [hnewsize k hk] at h
      cases ho : outs.get k with
      | none => rw [ho] at h; cases h
      | some x =>
        rw [ho] at h
        obtain rfl : x.size = L := Option.some.inj h
        rw [hadN k x ho]
        have hgek := (inR_ok.1 hk).1
        cases hk' : inR lo hi' k' with
        | true =>
          rw [hnewsize k' hk'] at h'
          cases ho' : outs.get k' with
          | none => rw [ho'] at h'; cases h'
          | some x' =>
            rw [ho'] at h'
            obtain rfl : x'.size = L' := Option.some.inj h'
            rw [hadN k' x' ho']
            exact hg.dis k k' x x' hne ho ho' hp hp' hgek
        | false =>
          rw [hsizes k' hk'] at h'
          rw [hadO k' hk']
          exact hcross k x k' L' ho hgek hp hk' h' hp'
    | false =>
      rw [hsizes k hk] at h
      rw [hadO k hk]
      cases hk' : inR lo hi' k' with
      | true =>
        rw [hnewsize k' hk'] at h'
        cases ho' : outs.get k' with
        | none => rw [ho'] at h'; cases h'
        | some x' =>
          rw [ho'] at h'
          obtain rfl : x'.size = L' := Option.some.inj h'
          rw [hadN k' x' ho']
          exact (hcross k' x' k L ho' (inR_ok.1 hk').1 hp' hk h hp).symm
      | false =>
        rw [hsizes k' hk'] at h'
        rw [hadO k' hk']
        exact inv.dis k k' L L' hne h h' hp hp' hr
  · intro k L h hr
    cases hk : inR lo hi' k with
    | true =>
      rw [hnewsize k hk] at h
      cases ho : outs.get k with
      | none => rw [ho] at h; cases h
      | some x =>
        rw [ho] at h
        obtain rfl : x.size = L := Option.some.inj h
        rw [hadN k x ho]
        rcases hg.own k x ho (inR_ok.1 hk).1 with hge | hmm
        · exact .inl (Nat.le_trans inv.fr.size hge)
        · by_cases hlt : (E1.ad k).block < w0.heap.size
          · refine .inr fun j hj => ?_
            obtain ⟨k2, x2, hk2, hr2, he, hlo, hhi⟩ := hmm j hj
            rcases inv.own k2 x2.size (hsub k2 x2 hk2).1 hr2 with h | h
            · omega
            · have := h ((E1.ad k).off + j - (E.ad k2).off) (by omega)
              rw [← he] at this
              rwa [show (E.ad k2).off + ((E1.ad k).off + j - (E.ad k2).off) = (E1.ad k).off + j from by omega] at this
          · exact .inl (Nat.le_of_not_lt hlt)
    | false =>
      rw [hsizes k hk] at h
      rw [hadO k hk]
      exact inv.own k L h hr
  · refine inv.fr.trans hfr ?_
    rintro b j hlt ⟨k, x, hk, hr, rfl, hlo, hhi⟩
    rcases inv.own k x.size (hsub k x hk).1 hr with h | h
    · omega
    · have := h (j - (E.ad k).off) (by omega)
      rwa [show (E.ad k).off + (j - (E.ad k).off) = j from by omega] at this

theorem step_new (s : Setup P c n ops pre st0 items stN) (hn : Next ops D i) (hi : items[i]? = some it) (inv : DInv c n w0 M E0 st0 items D E a w)
    {y : SV} {κ : Nat} (hm : it.span = some (κ, Nat.add κ 1)) (hsz : ∀ k, wSize k it = bif Nat.beq κ k then some y.size else none) (hcell : ∀ E k j, wCell c.S E k j it = bif Nat.beq κ k then (y.cells c.S E)[j]? else none) (hyone : y.one = true) (hyk : y.bnd κ = true)
    (hdn : ∀ d, it.o.dst = some d → d < n ∧ Path.free it.val.1 d = true) {v : Value} (hv1 : PathHolds a it.val.1 → ∀ E' : Env, E'.ad κ = ⟨w.heap.size, 0, none⟩ → v = it.val.2.den c.S E') (hv2 : ¬ PathHolds a it.val.1 → v = undef) (t : TypeId) :
    ∃ E', DInv c n w0 M E0 st0 items (put1 D i) E' (a.put it.o.dst v) (w.alloc (.cells (y.cells c.S E).toArray t)) := by
  have hbeq : ∀ k, inR κ (Nat.add κ 1) k = Nat.beq κ k := by
    intro k
    rw [Bool.eq_iff_iff, inR_ok, Nat.beq_eq]
    show κ ≤ k ∧ k < κ + 1 ↔ κ = k
    omega
  have hget : ∀ k, Heap.get [(κ, y)] k = bif Nat.beq κ k then some y else none := fun k => rfl
  have hgs : ∀ k x, Heap.get [(κ, y)] k = some x → k = κ ∧ x = y := by
    intro k x h
    rw [hget] at h
    cases hb : Nat.beq κ k with
    | true => rw [hb] at h; exact ⟨(Nat.eq_of_beq_eq_true hb).symm, (Option.some.inj h).symm⟩
    | false => rw [hb] at h; cases h
  let E1 : Env := { ad := fun j => if j = κ then ⟨w.heap.size, 0, none⟩ else E.ad j, cp := E.cp }
  have hup : Env.upto κ E E1 := fun j hj => by
    have : j ≠ κ := by omega
    simp [E1, this]
  have hE1 : E1.ad κ = ⟨w.heap.size, 0, none⟩ := by simp [E1]
  have hyc : y.cells c.S E1 = y.cells c.S E := SV.cells_upto c.S hup y hyk
  have hyb : y.bnd (Nat.add κ 1) = true := SV.kall_mono (fun k hk => by
    have : k < κ := by simpa using hk
    simp; omega) y hyk
  have hg : Grow c.S E E1 w (w.alloc (.cells (y.cells c.S E).toArray t)) κ (Nat.add κ 1) [] [(κ, y)] := by
    refine ⟨hup, ?_, ?_, ?_, ?_, ?_, fun k x0 h => by simp [Heap.get] at h, ?_, Fr.alloc w _ _⟩
    · intro k x h
      obtain ⟨rfl, rfl⟩ := hgs k x h
      exact ⟨Nat.lt_succ_self _, hyb⟩
    · intro k x h hp
      obtain ⟨rfl, rfl⟩ := hgs k x h
      rw [hE1, hyc]
      exact At.alloc w _ t (SV.one_cells c.S E x hyone)
    · intro k x h _ _
      obtain ⟨rfl, rfl⟩ := hgs k x h
      rw [hE1]
      exact Wr.alloc w _ t
    · intro k k' x x' hne h h'
      exact absurd ((hgs k x h).1.trans (hgs k' x' h').1.symm) hne
    · intro k x h hlt
      have := (hgs k x h).1
      omega
    · intro k x h _
      obtain ⟨rfl, rfl⟩ := hgs k x h
      rw [hE1]
      exact .inl (Nat.le_refl _)
  refine ⟨E.over E1 κ (Nat.add κ 1), step_grow s hn hi inv hm hg (fun k => ?_) (fun E k j => ?_) (fun k x0 h => by simp [Heap.get] at h) (fun k ⟨x0, h⟩ => by simp [Heap.get] at h) hdn (fun hp => hv1 hp _ ?_) hv2⟩
  · rw [hsz, hbeq, hget]
    cases Nat.beq κ k <;> rfl
  · rw [hcell, hget]
    cases Nat.beq κ k <;> rfl
  · rw [((Env.over_new (b := Nat.add κ 1) hup) κ (Nat.lt_succ_self _)).1]
    exact hE1
theorem bad_sel {α : Type} {r : α} (h : (Out.bad : Out α).sel = some r) : False := by
  have : (none : Option α) = some r := h
  cases this

theorem step_wp (s : Setup P c n ops pre st0 items stN) (hwin : WinOk c.S c.win E0) (hwb : ∀ n j k z, (n, j, k, z) ∈ c.win → k < st0.next) {Q : Exit → Act → World → Prop}
    (hn : Next ops D i) (hi : items[i]? = some it) (inv : DInv c n w0 M E0 st0 items D E a w) :
    wpOp P ops.toArray Q i (fun a w => ∃ E', DInv c n w0 M E0 st0 items (put1 D i) E' a w) a w := by
  obtain ⟨o, sti, sti1, ho, hito, hkey, htf, hstep⟩ := s.at hi
  subst hito
  have hread : ∀ t ∈ namesOf ops it.o, (slotsL D items 0 st0.slots).get t = sti.slots.get t := fun t ht => s.reads hn hi htf ht
  have hguard : guarded (slotsL D items 0 st0.slots) ops it.o = guarded sti.slots ops it.o := by
    refine guarded_congr ops it.o fun j b d hg hd => hread d ?_
    unfold namesOf
    rw [hg]
    simp [hd]
  have hplan : ∀ p, plan c (slotsL D items 0 st0.slots) p it.o = plan c sti.slots p it.o := fun p => plan_congr c it.o p fun t ht => hread t (by unfold namesOf; exact List.mem_append_left _ ht)
  have hso := inv.slotsOk
  have hwE : WinOk c.S c.win E := hwin.upto inv.up hwb
  unfold wpOp
  have hoi : ops.toArray[i]? = some it.o := by simpa using ho
  rw [hoi]
  simp only
  unfold stepItem at hstep
  rw [← hguard] at hstep
  split at hstep
  · cases hstep
  · rename_i hg
    split at hstep
    · rename_i s' hput
      simp only [Option.some.injEq, Prod.mk.injEq] at hstep
      obtain ⟨hit, _⟩ := hstep
      have hact : it.act = none := by rw [← hit]
      have hval : it.val = ([], .v undef) := by unfold Item.val; rw [hact]
      have hw := (guarded_ok hg hso).2 rfl
      rw [if_neg (by rw [hw]; exact Bool.false_ne_true)]
      refine ⟨E, inv.quiet s hn hi (Fr.refl _ _) (fun k => by simp [wSize, hact, settle]) (fun k j => by simp [wCell, hact, settle]) ?_ (fun _ => by rw [hval]; rfl) (fun _ => rfl)⟩
      intro d hd
      rw [hval]
      unfold putSlot at hput
      rw [hd] at hput
      dsimp only at hput
      cases hb : (Nat.blt d n && (sti.slots.all fun e => Path.free e.2.1 d) && Path.free [] d) with
      | false => rw [hb] at hput; cases hput
      | true =>
        simp only [Bool.and_eq_true] at hb
        exact ⟨by simpa using hb.1.1, rfl⟩
    · cases hstep
  · rename_i p hg
    obtain ⟨hw1, hw2⟩ := (guarded_ok hg hso).1 p rfl
    split at hstep
    · cases hstep
    · rename_i d hd
      rw [← hplan] at hd
      split at hstep
      · rename_i sd cd r hsd
        split at hstep
        · rename_i s' hput
          simp only [Option.some.injEq, Prod.mk.injEq] at hstep
          obtain ⟨hit, _⟩ := hstep
          have hcd : okC cd = true := by
            have := s.cnd it (List.mem_of_getElem? hi)
            rw [← hit] at this
            exact this
          have hact : it.act = some (p, sd, r.1) := by rw [← hit]
          have hval : it.val = (p, svOf r.1) := by unfold Item.val; rw [hact]
          have hkey' : it.key = sti.next := hkey
          have hdn : ∀ d, it.o.dst = some d → d < n ∧ Path.free it.val.1 d = true := by
            intro d' hd'
            rw [hval]
            unfold putSlot at hput
            rw [hd'] at hput
            dsimp only at hput
            cases hb : (Nat.blt d' n && (sti.slots.all fun e => Path.free e.2.1 d') && Path.free p d') with
            | false => rw [hb] at hput; cases hput
            | true =>
              simp only [Bool.and_eq_true] at hb
              exact ⟨by simpa using hb.1.1, hb.2⟩
          rcases stepD_cases hsd with ⟨hcalm, rfl, hr⟩ | ⟨hq, f, args, A, rfl, hrd, hA, rfl, rfl, rfl⟩
          · replace hr := Out.one_sel hr hcd
            by_cases hp : PathHolds a p
            · rw [if_pos (hw1 hp)]
              refine .inl ?_
              have hdoes := plan_ok s.full hwE hso hp hd
              have hpv : PathHolds a it.val.1 := by rw [hval]; exact hp
              unfold Oper.wp
              cases d with
              | yield x =>
                simp only [perform, Out.sel, Option.some.injEq] at hr
                subst hr
                rw [hdoes w, Oper.upon_value]
                exact ⟨E, inv.quiet s hn hi (Fr.refl _ _) (fun k => by simp [wSize, hact, settle]) (fun k j => by simp [wCell, hact, settle]) hdn (fun _ => by rw [hval]; rfl) (fun hh => absurd hpv hh)⟩
              | test b x =>
                simp only [perform] at hr
                obtain ⟨hb, rfl⟩ := Out.when_sel hr
                rw [hdoes hb w, Oper.upon_value]
                exact ⟨E, inv.quiet s hn hi (Fr.refl _ _) (fun k => by simp [wSize, hact, settle]) (fun k j => by simp [wCell, hact, settle]) hdn (fun _ => by rw [hval]; rfl) (fun hh => absurd hpv hh)⟩
              | load k of m g =>
                simp only [perform] at hr
                split at hr
                · rename_i x hx
                  split at hr
                  · rename_i y hy
                    obtain ⟨cy, y⟩ := y
                    obtain ⟨hcy, rfl⟩ := Out.when_sel hr
                    have hat := step_load s hn hi htf inv hact hx hy hcy
                    obtain ⟨⟨h1, h2, h3, h4⟩, _⟩ := SV.partO_ok c.S E (htf.fo _ _ hx) hy hcy
                    rw [hdoes w y h1 h3 (SV.partO_one hy).2 hat, Oper.upon_value]
                    exact ⟨E, inv.quiet s hn hi (Fr.refl _ _) (fun k => by simp [wSize, hact, settle]) (fun k j => by simp [wCell, hact, settle]) hdn (fun _ => by rw [hval]; rfl) (fun hh => absurd hpv hh)⟩
                  · cases hr
                · cases hr
              | store k of y =>
                simp only [perform] at hr
                cases hq : ((!(isNilP p)) || (c.S.ro k || !y.one)) with
                | true => rw [hq] at hr; cases hr
                | false =>
                  rw [hq] at hr
                  simp only [cond_false] at hr
                  simp only [Bool.or_eq_false_iff, Bool.not_eq_false'] at hq
                  split at hr
                  · rename_i x hx
                    split at hr
                    · rename_i z hz
                      obtain ⟨cz, z⟩ := z
                      obtain ⟨hcz, rfl⟩ := Out.when_sel hr
                      obtain ⟨w', hrun, hinv⟩ := step_store (P := P) s hn hi htf inv hact hx hz hcz hq.2.1 hq.2.2 hdn (fun _ => by rw [hval]; rfl)
                      rw [hdoes w w' hrun, Oper.upon_skip]
                      exact ⟨E, hinv⟩
                    · cases hr
                  · cases hr
              | new y =>
                simp only [perform] at hr
                cases hq : (!(isNilP p)) with
                | true => rw [hq] at hr; cases hr
                | false =>
                  rw [hq] at hr
                  simp only [cond_false] at hr
                  cases hb : (sti.bnd && (y.bnd sti.next && y.one) && !(c.S.ro sti.next)) with
                  | false => rw [hb] at hr; cases hr
                  | true =>
                    rw [hb] at hr
                    simp only [cond_true, Out.sel, Option.some.injEq] at hr
                    subst hr
                    simp only [Bool.and_eq_true] at hb
                    obtain ⟨t, ht⟩ := hdoes w
                    rw [ht, Oper.upon_value]
                    have hmade : it.span = some (sti.next, Nat.add sti.next 1) := by unfold Item.span; rw [hact, ← hkey']; rfl
                    refine step_new (y := y) s hn hi inv hmade (fun k => by simp [wSize, hact, settle, hkey']) (fun E k j => by simp [wCell, hact, settle, hkey']) hb.1.2.2 hb.1.2.1 hdn (fun _ E' hE' => ?_) (fun hh => absurd hpv hh) t
                    rw [hval]
                    simp [svOf, SV.den, Env.place, hE']
              | newSlice y len =>
                simp only [perform] at hr
                cases hq : (!(isNilP p)) with
                | true => rw [hq] at hr; cases hr
                | false =>
                  rw [hq] at hr
                  simp only [cond_false] at hr
                  cases hb : (sti.bnd && (y.bnd sti.next && y.one) && !(c.S.ro sti.next)) with
                  | false => rw [hb] at hr; cases hr
                  | true =>
                    rw [hb] at hr
                    simp only [cond_true, Out.sel, Option.some.injEq] at hr
                    subst hr
                    simp only [Bool.and_eq_true] at hb
                    obtain ⟨t, ht⟩ := hdoes w
                    rw [ht, Oper.upon_value]
                    have hmade : it.span = some (sti.next, Nat.add sti.next 1) := by unfold Item.span; rw [hact, ← hkey']; rfl
                    refine step_new (y := y) s hn hi inv hmade (fun k => by simp [wSize, hact, settle, hkey']) (fun E k j => by simp [wCell, hact, settle, hkey']) hb.1.2.2 hb.1.2.1 hdn (fun _ E' hE' => ?_) (fun hh => absurd hpv hh) t
                    rw [hval]
                    simp [svOf, SV.den, Env.place, hE']
              | emp => simp [calm] at hcalm
              | copy b k m z => simp [calm] at hcalm
              | newMap z => simp [calm] at hcalm
              | amend k kk u => simp [calm] at hcalm
              | insert k kk m y => simp [calm] at hcalm
              | look k kk q =>
                simp only [perform] at hr
                split at hr
                · rename_i v0 l hl
                  split at hr
                  · rename_i y hy
                    obtain ⟨cdd, y⟩ := y
                    obtain ⟨hcdd, rfl⟩ := Out.when_sel hr
                    have hact' : it.act = some (p, .read 0 [q] [k], some y) := by rw [hact]; rfl
                    have hat := step_read s hn hi htf inv hact' List.mem_cons_self hl (by simp [SV.size])
                    obtain ⟨hoff, es, clk, hb, ht, _⟩ := At.entries (t := (SV.dens c.S E (v0 :: l)).toArray) hat
                    have hden : SV.dens c.S E l = es.toList.map tupM := (mapT_split (v := v0.den c.S E) (l := SV.dens c.S E l) ht).2
                    rw [hdoes w es clk l cdd y hb hden hy hcdd, Oper.upon_value]
                    exact ⟨E, inv.quiet s hn hi (Fr.refl _ _) (fun k => by simp [wSize, hact']) (fun k j => by simp [wCell, hact']) hdn (fun _ => by rw [hval]; rfl) (fun hh => absurd hpv hh)⟩
                  · cases hr
                · cases hr
              | ask k kk q =>
                simp only [perform] at hr
                split at hr
                · rename_i T hT
                  cases hkk : (T.kk == kk) with
                  | false => rw [hkk] at hr; cases hr
                  | true =>
                    rw [hkk] at hr
                    simp only [cond_true] at hr
                    split at hr
                    · rename_i y hy
                      simp only [Out.sel, Option.some.injEq] at hr
                      subst hr
                      have hact' : it.act = some (p, .read 0 [] [k], some y) := by rw [hact]; rfl
                      have hat := step_read s hn hi htf inv hact' List.mem_cons_self hT (by simp [SV.size])
                      obtain ⟨hoff, es, clk, hb, ht, _⟩ := At.entries (t := T.all.toArray) hat
                      have hden : T.ents = es.toList.map tupM := (mapT_split ht).2
                      rw [hdoes w es clk T y hb (beq_iff_eq.1 hkk) hden hy, Oper.upon_value]
                      exact ⟨E, inv.quiet s hn hi (Fr.refl _ _) (fun k => by simp [wSize, hact']) (fun k j => by simp [wCell, hact']) hdn (fun _ => by rw [hval]; rfl) (fun hh => absurd hpv hh)⟩
                    · cases hr
                · cases hr
              | read f args ks => cases hr
              | act f args ks outs hi => cases hr
              | call f args =>
                unfold calm at hcalm
                simp only [perform] at hr
                split at hr
                · rename_i y hy
                  obtain ⟨y, ks, cdd⟩ := y
                  obtain ⟨hcdd, rfl⟩ := Out.when_sel hr
                  have hact' : it.act = some (p, .read f args ks, some y) := by rw [hact]; simp only [settle, hy]
                  obtain ⟨hfn, hcall⟩ := s.full.read f args sti.heap sti.next y ks cdd hy hcdd
                  rw [hdoes hfn w, Oper.upon_enter]
                  refine (hcall E w (fun k x hk hx => ⟨fun hxp => step_read s hn hi htf inv hact' hk hx hxp, htf.fo k x hx⟩) hwE).mono ?_
                  rintro e w' ⟨rfl, hfr⟩
                  exact ⟨E, inv.quiet s hn hi hfr (fun k => by simp [wSize, hact']) (fun k j => by simp [wCell, hact']) hdn (fun _ => by rw [hval]; rfl) (fun hh => absurd hpv hh)⟩
                · rename_i hno
                  dsimp only at hcalm
                  rw [hno] at hcalm; cases hcalm
            · rw [if_neg (by rw [hw2 hp]; exact Bool.false_ne_true)]
              have hq : (!(isNilP p)) = true := by
                cases hb : isNilP p with
                | false => rfl
                | true => exact absurd (by rw [isNilP_ok hb]; intro t b hm; cases hm) hp
              rw [hq] at hr
              have hnp : ¬ PathHolds a it.val.1 := by rw [hval]; exact hp
              refine ⟨E, inv.quiet s hn hi (Fr.refl _ _) ?_ ?_ hdn (fun hh => absurd hh hnp) (fun _ => rfl)⟩
              · intro k
                unfold wSize
                rw [hact]
                cases d <;> simp [perform, settle] at hr ⊢
                all_goals first | (exact (bad_sel hr).elim) | (split at hr <;> first | rfl | (exact (bad_sel hr).elim))
              · intro k j
                unfold wCell
                rw [hact]
                cases d <;> simp [perform, settle] at hr ⊢
                all_goals first | (exact (bad_sel hr).elim) | (split at hr <;> first | rfl | (exact (bad_sel hr).elim))
          · obtain ⟨r0, hsp, hout, hba, hvb, hF⟩ := actRes_ok hA hcd
            have hpn : p = [] := isNilP_ok (by simpa using hq)
            have hp : PathHolds a p := by rw [hpn]; intro t b hm; cases hm
            rw [if_pos (hw1 hp)]
            refine .inl ?_
            have hdoes := plan_ok s.full hwE hso hp hd
            have hpv : PathHolds a it.val.1 := by rw [hval]; exact hp
            unfold Oper.wp
            have hspan : it.span = some (sti.next, A.hi) := by unfold Item.span; rw [hact, ← hkey']
            have hnames : ∀ k, k ∈ A.ks → it.keysNot k = false := by
              intro k hk
              unfold Item.keysNot
              rw [hact]
              have : (A.ks.all fun j => !(Nat.beq j k)) = false := by
                cases hb : (A.ks.all fun j => !(Nat.beq j k)) with
                | false => rfl
                | true => have := List.all_eq_true.1 hb k hk; simp at this
              simp only [Deed.kall, this, Bool.false_and]
            have hsize : ∀ k x, (heapOf A.ks sti.heap).get k = some x → lastW (wSize k) D items 0 ((st0.heap.get k).map SV.size) = some x.size := by
              intro k x hk
              obtain ⟨g1, g2⟩ := heapOf_get hk
              rw [s.chunk hn hi htf (hnames k g2), g1]
              rfl
            have hatk : ∀ k x, (heapOf A.ks sti.heap).get k = some x → 0 < x.size → At w (E.ad k) (x.cells c.S E) := by
              intro k x hk hxp
              obtain ⟨g1, g2⟩ := heapOf_get hk
              obtain ⟨vs, a1, a2, a3, a4⟩ := inv.mem k x.size (hsize k x hk) hxp
              have hxl := SV.len c.S E x
              have heq : vs = x.cells c.S E := by
                apply List.ext_getElem?
                intro j
                by_cases hj : j < x.size
                · rw [a2 j hj]
                  refine s.cell hn hi htf E (hnames k g2) (fun z hl => ⟨?_, ?_⟩) g1 hj
                  · rintro q o' y' r' hz ⟨hz1, hz2⟩
                    rcases hl with hl | hl
                    · have := clash_of hl hz hact
                      exact hasN_false (by simpa [clash] using this) g2
                    · have := clash_of hl hact hz
                      exact hasN_false (by simpa [clash] using this) g2
                  · intro q f' args' ks' outs' hi2 r' hz
                    rcases hl with hl | hl
                    · have := clash_of hl hz hact
                      simp [clash] at this
                    · have := clash_of hl hact hz
                      simp [clash] at this
                · rw [List.getElem?_eq_none (by omega), List.getElem?_eq_none (by omega)]
              rw [← heq]; exact a3
            have hs : HS c.S E (heapOf A.ks sti.heap) w := by
              refine ⟨hatk, fun k x hk hxp hnt hro => ?_, fun k k' x x' hne hk hk' hp1 hp2 hro => ?_, fun k x hk => htf.fo k x (heapOf_get hk).1⟩
              · obtain ⟨g1, g2⟩ := heapOf_get hk
                obtain ⟨vs, a1, a2, a3, a4⟩ := inv.mem k x.size (hsize k x hk) hxp
                refine a4 (fun x0 hx0 => Classical.byContradiction fun hh => ?_) hro
                obtain ⟨y', hy', hy2⟩ := htf.tup E0 k x0 hx0 hh
                rw [g1] at hy'; injection hy' with hy'; subst hy'
                exact hy2 E hnt
              · exact inv.dis k k' x.size x'.size hne (hsize k x hk) (hsize k' x' hk') hp1 hp2 hro
            obtain ⟨hfn, hcall⟩ := s.full.spec f args (heapOf A.ks sti.heap) sti.next A.v r0 A.hi hsp
            have hle0 : st0.next ≤ sti.next := (allPairs_ok ops st0.next items (masks ops []) 0 s.pair).1 i it hi sti.next A.hi hspan
            rw [hdoes hfn w, Oper.upon_enter]
            refine (hcall E w hs hwE (fun m j k z hm => Nat.lt_of_lt_of_le (hwb m j k z hm) hle0) (fun k x hk => hF.heap k x (heapOf_get hk).1)).mono ?_
            rintro e w' ⟨E1, hu, hle, rfl, hs', hfr, hown⟩
            have hget : ∀ k x, A.outs.get k = some x → r0.get k = some x := by
              intro k x hk
              rw [hout, keepW_get] at hk
              split at hk
              · exact hk
              · cases hk
            have hgrow : Grow c.S E E1 w w' sti.next A.hi (heapOf A.ks sti.heap) A.outs := by
              refine ⟨hu, hF.bnd, fun k x hk hxp => hs'.at_ k x (hget k x hk) hxp, fun k x hk hge hxp => hs'.wr k x (hget k x hk) hxp (SV.noTup_ok c.S E1 (hF.new k x hk hge).1) (hF.new k x hk hge).2,
                fun k k' x x' hne hk hk' h1 h2 hge => hs'.dis k k' x x' hne (hget k x hk) (hget k' x' hk') h1 h2 (hF.new k x hk hge).2, fun k x hk hlt => ?_, fun k x0 hk hro => ?_,
                fun k x hk hge => hown k x (hget k x hk) (hF.new k x hk hge).2, hfr⟩
              · obtain ⟨g1, x0, g2, g3, _⟩ := hF.old k x hk hlt
                exact ⟨x0, heapOf_of g2 g1, g3⟩
              · obtain ⟨g1, g2⟩ := heapOf_get hk
                exact hF.keep k x0 g1 g2 hro
            have hinO : ∀ k x, A.outs.get k = some x → (inR sti.next A.hi k || hasN A.ks k) = true := by
              intro k x ho
              by_cases hlt : k < sti.next
              · rw [hasN_of (hF.old k x ho hlt).1, Bool.or_true]
              · rw [inR_ok.2 ⟨Nat.le_of_not_lt hlt, (hF.bnd k x ho).1⟩, Bool.true_or]
            refine ⟨_, step_grow s hn hi inv hspan hgrow (fun k => ?_) (fun E k j => ?_) (fun k x0 hk => ⟨hsize k x0 hk, hnames k (heapOf_get hk).2, (hF.heap k x0 (heapOf_get hk).1).1⟩) (fun k hk j' y hj' hlt hdj j => ?_) hdn (fun _ => ?_) (fun hh => absurd hpv hh)⟩
            · simp only [wSize, hact, hkey']
            · simp only [wCell, hact, hkey']
              cases ho : A.outs.get k with
              | some x => rw [hinO k x ho]; rfl
              | none => cases (inR sti.next A.hi k || hasN A.ks k) <;> rfl
            · obtain ⟨x0, hk⟩ := hk
              have g2 := (heapOf_get hk).2
              have ha := s.ahead hi hj' hlt
              simp only [Ytfncoeoaniclmaa.ahead, Bool.and_eq_true] at ha
              have hl := s.behind hn hj' hi hlt hdj
              cases hw : wCell c.S (E.over E1 sti.next A.hi) k j y with
              | none => rfl
              | some u =>
                exfalso
                rcases wCell_cases hw with h1 | ⟨p', o', z, r', h1, _⟩ | ⟨p', f', args', ks', outs', hi2, r', h1, hh⟩
                · have := shuns_not ha.2.2.1 h1
                  rw [hnames k g2] at this; cases this
                · have := clash_of hl hact h1
                  simp only [clash] at this
                  rw [hasN_of g2] at this; cases this
                · have := clash_of hl hact h1
                  simp [clash] at this
            · rw [hval]
              simp only [svOf]
              rw [SV.den_upto c.S (Env.over_new (b := A.hi) hu) A.v hvb]
        · cases hstep
      · cases hstep
end
end Go.Proofs.Ytfncoeoaniclmaa
