/- A region that draws its order: each step keeps what is known. -/
import Derived.Test.YtfncoeoaniclmaaDraw2
set_option linter.unusedVariables false
namespace Go.Proofs.Ytfncoeoaniclmaa
open Go Go.RowKit

section
variable {P : Program} {c : Ctx} {n : Nat} {ops pre : List Oper} {st0 stN : St} {items : List Item} {w0 : World} {M : Nat → Nat → Prop} {E0 E : Env} {D : Nat → Bool} {i : Nat} {it : Item} {a : Act} {w : World}

theorem ins_none {β : Type} (w : Item → Option β) (hi : items[i]? = some it) (hn : Next ops D i) (hw : w it = none) (a : Option β) : lastW w (put1 D i) items 0 a = lastW w D items 0 a := by
  rw [lastW_insert w D (put1 D i) items i it hi a hn.no (by simp [put1]) (fun j hj => by simp [put1, hj]) (fun h => absurd hw h), hw, ov_none]

theorem DInv.quiet (s : Setup P c n ops pre st0 items stN) (hn : Next ops D i) (hi : items[i]? = some it) (inv : DInv c n w0 M E0 st0 items D E a w) {w' : World} (hfr : Fr w w' (fun _ _ => False))
    (hs : ∀ k, wSize k it = none) (hcl : ∀ k j, wCell c.S E k j it = none) (hdn : ∀ d, it.o.dst = some d → d < n ∧ Path.free it.val.1 d = true) {v : Value}
    (h1 : PathHolds a it.val.1 → v = it.val.2.den c.S E) (h2 : ¬ PathHolds a it.val.1 → v = undef) : DInv c n w0 M E0 st0 items (put1 D i) E (a.put it.o.dst v) w' := by
  refine ⟨inv.up, s.slots_step hn hi inv.size inv.slots hdn h1 h2, ?_, ?_, ?_, inv.fr.trans hfr (fun _ _ _ h => h.elim), by rw [Act.put_size]; exact inv.size, by rw [Act.put_defers']; exact inv.defers⟩
  · intro k L h hp
    rw [ins_none _ hi hn (hs k)] at h
    obtain ⟨vs, a1, a2, a3, a4⟩ := inv.mem k L h hp
    refine ⟨vs, a1, fun j hj => ?_, a3.fr hfr (fun _ _ h => h), fun hnt hr => (a4 hnt hr).fr hfr⟩
    rw [ins_none _ hi hn (hcl k j)]
    exact a2 j hj
  · intro k k' L L' hne h h'
    rw [ins_none _ hi hn (hs k)] at h
    rw [ins_none _ hi hn (hs k')] at h'
    exact inv.dis k k' L L' hne h h'
  · intro k L h
    rw [ins_none _ hi hn (hs k)] at h
    exact inv.own k L h

theorem beq_inR {k a b : Nat} (h : Nat.beq a k = true) (hb : b = Nat.add a 1) : inR a b k = true := by
  have := Nat.eq_of_beq_eq_true h; subst this
  subst hb
  exact inR_ok.2 ⟨Nat.le_refl _, Nat.lt_succ_self _⟩
theorem made_of_size {x : Item} {k L : Nat} (h : wSize k x = some L) : x.makes k = true := by
  unfold wSize at h
  unfold Item.makes Item.span
  split at h
  · rename_i p y r hact
    rw [hact]
    cases hb : Nat.beq x.key k with
    | true => exact beq_inR hb rfl
    | false => rw [hb] at h; cases h
  · rename_i p y len r hact
    rw [hact]
    cases hb : Nat.beq x.key k with
    | true => exact beq_inR hb rfl
    | false => rw [hb] at h; cases h
  · rename_i p f args ks outs hi r hact
    rw [hact]
    cases hb : inR x.key hi k with
    | true => exact hb
    | false => rw [hb] at h; cases h
  · cases h

mutual
theorem SV.kall_mono {f g : Nat → Bool} (h : ∀ k, f k = true → g k = true) : ∀ x : SV, x.kall f = true → x.kall g = true
  | .ptr c o, hf => h _ (by simpa [SV.kall] using hf)
  | .mp c, hf => h _ (by simpa [SV.kall] using hf)
  | .slc c o a b, hf => h _ (by simpa [SV.kall] using hf)
  | .slu c o a u, hf => by
    have hf' : f c = true ∧ f u = true := by simpa [SV.kall] using hf
    simp [SV.kall, h _ hf'.1, h _ hf'.2]
  | .fn q a b, hf => by
    have hf' : SV.kalls f a = true ∧ SV.kalls f b = true := by simpa [SV.kall] using hf
    simp [SV.kall, SV.kalls_mono h a hf'.1, SV.kalls_mono h b hf'.2]
  | .agg l, hf => by
    have hf' : SV.kalls f l = true := by simpa [SV.kall] using hf
    simp [SV.kall, SV.kalls_mono h l hf']
  | .tup l, hf => by
    have hf' : SV.kalls f l = true := by simpa [SV.kall] using hf
    simp [SV.kall, SV.kalls_mono h l hf']
  | .elt c _ _ _, hf => h _ (by simpa [SV.kall] using hf)
  | .slr c _ u _, hf => by
    have hf' : f c = true ∧ f u = true := by simpa [SV.kall] using hf
    simp [SV.kall, h _ hf'.1, h _ hf'.2]
  | .foc _ _ x _, hf => by
    have hf' : SV.kall f x = true := by simpa [SV.kall] using hf
    simp [SV.kall, SV.kall_mono h x hf']
  | .tab _, _ | .v _, _ | .kb _, _ | .ki _ _, _ | .ix _, _ | .sl _, _ | .rcd _, _ | .rows _, _ => by simp [SV.kall]
theorem SV.kalls_mono {f g : Nat → Bool} (h : ∀ k, f k = true → g k = true) : ∀ l : List SV, SV.kalls f l = true → SV.kalls g l = true
  | [], _ => by simp [SV.kalls]
  | x :: r, hf => by
    have hf' : SV.kall f x = true ∧ SV.kalls f r = true := by simpa [SV.kalls] using hf
    simp [SV.kalls, SV.kall_mono h x hf'.1, SV.kalls_mono h r hf'.2]
end
theorem Deed.kall_mono {f g : Nat → Bool} (h : ∀ k, f k = true → g k = true) {d : Deed} (hd : d.kall f = true) : d.kall g = true := by
  have hl : ∀ l : List Nat, l.all f = true → l.all g = true := fun l hl => List.all_eq_true.2 fun k hk => h k (List.all_eq_true.1 hl k hk)
  cases d <;> simp only [Deed.kall, Bool.and_eq_true] at hd ⊢
  case yield x => exact SV.kall_mono h x hd
  case test b x => exact SV.kall_mono h x hd
  case load => exact h _ hd
  case store => exact ⟨h _ hd.1, SV.kall_mono h _ hd.2⟩
  case new y => exact SV.kall_mono h y hd
  case newSlice y l => exact SV.kall_mono h y hd
  case copy => exact h _ hd
  case insert => exact ⟨h _ hd.1, SV.kall_mono h _ hd.2⟩
  case look => exact ⟨h _ hd.1, SV.kall_mono h _ hd.2⟩
  case ask => exact h _ hd
  case amend => exact h _ hd
  case call f args => exact SV.kalls_mono h args hd
  case act f args ks outs hi => exact ⟨hl _ hd.1, SV.kalls_mono h _ hd.2.1, List.all_eq_true.2 fun e he => SV.kall_mono h _ (List.all_eq_true.1 hd.2.2 e he)⟩
  case read f args ks => exact ⟨hl _ hd.1, SV.kalls_mono h _ hd.2⟩
theorem keysNot_of {x : Item} {a b k : Nat} (h : x.keysOut a b = true) (hk : inR a b k = true) : x.keysNot k = true := by
  unfold Item.keysOut at h
  unfold Item.keysNot
  have hm : ∀ j, (!(inR a b j)) = true → (!(Nat.beq j k)) = true := by
    intro j hj
    cases hb : Nat.beq j k with
    | false => rfl
    | true => have := Nat.eq_of_beq_eq_true hb; subst this; rw [hk] at hj; cases hj
  split at h
  · rename_i p e r hact
    simp only [Bool.and_eq_true] at h ⊢
    refine ⟨Deed.kall_mono hm h.1, ?_⟩
    cases r with
    | none => rfl
    | some u => exact SV.kall_mono hm u h.2
  · rfl
theorem shuns_not {x y : Item} {k : Nat} (h : x.shuns y = true) (hm : y.makes k = true) : x.keysNot k = true := by
  unfold Item.shuns at h
  unfold Item.makes at hm
  split at hm
  · rename_i a b hs
    rw [hs] at h
    exact keysNot_of h hm
  · cases hm

/-- a chunk that an operation names is as large as in the text's own run -/
theorem Setup.chunk (s : Setup P c n ops pre st0 items stN) (hn : Next ops D i) (hi : items[i]? = some it) {sti : St} (htf : TF c.S st0 (items.take i) sti) {k : Nat} (hk : it.keysNot k = false) :
    lastW (wSize k) D items 0 ((st0.heap.get k).map SV.size) = (sti.heap.get k).map SV.size := by
  rw [htf.size k]
  refine lastW_text (wSize k) D items i it hi _ hn.no ?_ ?_
  · intro j x hj hlt hd
    have hl := s.before hn hj hi hlt hd
    simp only [Ytfncoeoaniclmaa.loose, Bool.and_eq_true] at hl
    cases hw : wSize k x with
    | none => rfl
    | some L => have := shuns_not hl.2.2.2.2 (made_of_size hw); rw [hk] at this; cases this
  · intro j y hj hlt hd
    have ha := s.ahead hi hj hlt
    simp only [Ytfncoeoaniclmaa.ahead, Bool.and_eq_true] at ha
    cases hw : wSize k y with
    | none => rfl
    | some L => have := shuns_not ha.2.2.1 (made_of_size hw); rw [hk] at this; cases this

/-- does an operation write this cell? -/
theorem wCell_cases {S : Stat} {x : Item} {k j : Nat} {v : Value} (h : wCell S E k j x = some v) : x.makes k = true ∨ (∃ p o y r, x.act = some (p, .store k o y, r) ∧ o.val S ≤ j ∧ j < o.val S + y.size) ∨
    ∃ p f args ks outs hi r, x.act = some (p, .act f args ks outs hi, r) ∧ hasN ks k = true := by
  unfold wCell at h
  split at h
  · rename_i p k' o y r hact
    cases hb : (Nat.beq k' k && (Nat.ble (o.val S) j && Nat.blt j (Nat.add (o.val S) y.size))) with
    | true =>
      simp only [Bool.and_eq_true] at hb
      have := Nat.eq_of_beq_eq_true hb.1
      subst this
      exact .inr (.inl ⟨p, o, y, r, hact, Nat.le_of_ble_eq_true hb.2.1, by simpa using hb.2.2⟩)
    | false => rw [hb] at h; cases h
  · rename_i p y r hact
    left
    unfold Item.makes Item.span
    rw [hact]
    cases hb : Nat.beq x.key k with
    | true => exact beq_inR hb rfl
    | false => rw [hb] at h; cases h
  · rename_i p y len r hact
    left
    unfold Item.makes Item.span
    rw [hact]
    cases hb : Nat.beq x.key k with
    | true => exact beq_inR hb rfl
    | false => rw [hb] at h; cases h
  · rename_i p f args ks outs hi r hact
    cases hb : inR x.key hi k with
    | true =>
      left
      unfold Item.makes Item.span
      rw [hact]
      exact hb
    | false =>
      rw [hb, Bool.false_or] at h
      cases hk : hasN ks k with
      | true => exact .inr (.inr ⟨p, f, args, ks, outs, hi, r, hact, hk⟩)
      | false => rw [hk] at h; cases h
  · cases h

theorem off_far_ok (S : Stat) : ∀ {o o' : Off} {n' n'' : Nat}, o.far n' o' n'' = true → o.val S + n' ≤ o'.val S ∨ o'.val S + n'' ≤ o.val S
  | .at o, .at o', n', n'', h => by
    simp only [Off.far, Bool.or_eq_true] at h
    rcases h with h | h
    · exact .inl (Nat.le_of_ble_eq_true h)
    · exact .inr (Nat.le_of_ble_eq_true h)
  | .row (.tok j) z o, .row (.tok j') z' o', n', n'', h => by
    simp only [Off.far, Bool.and_eq_true, Bool.or_eq_true, Nat.beq_eq] at h
    obtain ⟨⟨e1, e2⟩, h⟩ := h
    subst e1 e2
    simp only [Off.val, Nat.add_eq]
    rcases h with h | h
    · have := Nat.le_of_ble_eq_true h
      simp only [Nat.add_eq] at this
      exact .inl (by omega)
    · have := Nat.le_of_ble_eq_true h
      simp only [Nat.add_eq] at this
      exact .inr (by omega)
  | .at _, .row _ _ _, _, _, h => by cases h
  | .row (.tok _) _ _, .at _, _, _, h => by cases h
  | .row (.val _) _ _, .at _, _, _, h => by cases h
  | .row (.tok _) _ _, .row (.val _) _ _, _, _, h => by cases h
  | .row (.val _) _ _, .row _ _ _, _, _, h => by cases h
theorem far_ok (S : Stat) {k n' n'' : Nat} {o o' : Off} (h : far k o n' k o' n'' = true) : o.val S + n' ≤ o'.val S ∨ o'.val S + n'' ≤ o.val S := by
  refine off_far_ok S ?_
  unfold far at h
  simpa using h

/-- a cell that an operation reads or writes, and no other that is in no order with it, is as in the text's own run -/
theorem Setup.cell (s : Setup P c n ops pre st0 items stN) (hn : Next ops D i) (hi : items[i]? = some it) {sti : St} (htf : TF c.S st0 (items.take i) sti) (E : Env) {k j : Nat} (hk : it.keysNot k = false)
    (hfar : ∀ x, (Ytfncoeoaniclmaa.loose ops x it = true ∨ Ytfncoeoaniclmaa.loose ops it x = true) → (∀ p o y r, x.act = some (p, .store k o y, r) → ¬ (o.val c.S ≤ j ∧ j < o.val c.S + y.size)) ∧ ∀ p f args ks outs hi r, x.act = some (p, .act f args ks outs hi, r) → hasN ks k = false) {x0 : SV} (hx : sti.heap.get k = some x0) (hj : j < x0.size) :
    lastW (wCell c.S E k j) D items 0 ((st0.heap.get k).bind fun x => (x.cells c.S E)[j]?) = (x0.cells c.S E)[j]? := by
  rw [htf.cells E k x0 j hx hj]
  refine lastW_text _ D items i it hi _ hn.no ?_ ?_
  · intro j' x hj' hlt hd
    have hl := s.before hn hj' hi hlt hd
    cases hw : wCell c.S E k j x with
    | none => rfl
    | some v =>
      exfalso
      have hl' := hl
      simp only [Ytfncoeoaniclmaa.loose, Bool.and_eq_true] at hl'
      rcases wCell_cases hw with hm | ⟨p, o, y, r, hact, h1, h2⟩ | ⟨p, f, args, ks, outs, hi', r, hact, hh⟩
      · have := shuns_not hl'.2.2.2.2 hm; rw [hk] at this; cases this
      · exact (hfar x (.inl hl)).1 p o y r hact ⟨h1, h2⟩
      · have := (hfar x (.inl hl)).2 p f args ks outs hi' r hact; rw [hh] at this; cases this
  · intro j' y hj' hlt hd
    have hl := s.behind hn hj' hi hlt hd
    have ha := s.ahead hi hj' hlt
    simp only [Ytfncoeoaniclmaa.ahead, Bool.and_eq_true] at ha
    cases hw : wCell c.S E k j y with
    | none => rfl
    | some v =>
      exfalso
      rcases wCell_cases hw with hm | ⟨p, o, z, r, hact, h1, h2⟩ | ⟨p, f, args, ks, outs, hi', r, hact, hh⟩
      · have := shuns_not ha.2.2.1 hm; rw [hk] at this; cases this
      · exact (hfar y (.inr hl)).1 p o z r hact ⟨h1, h2⟩
      · have := (hfar y (.inr hl)).2 p f args ks outs hi' r hact; rw [hh] at this; cases this

theorem clash_of {x y : Item} (h : Ytfncoeoaniclmaa.loose ops x y = true) {p q : Path} {d e : Deed} {r u : Option SV} (hx : x.act = some (p, d, r)) (hy : y.act = some (q, e, u)) : clash d e = false := by
  simp only [Ytfncoeoaniclmaa.loose, Bool.and_eq_true, hx, hy] at h
  simpa using h.2.2.2.1

theorem step_load (s : Setup P c n ops pre st0 items stN) (hn : Next ops D i) (hi : items[i]? = some it) {sti : St} (htf : TF c.S st0 (items.take i) sti) (inv : DInv c n w0 M E0 st0 items D E a w)
    {p : Path} {k m : Nat} {oo : Off} {g : Bool} {r : Option SV} (hact : it.act = some (p, .load k oo m g, r)) {x y : SV} {cd : Option Bool} (hx : sti.heap.get k = some x) (hy : x.partO c.S oo m g = some (cd, y)) (hcd : okC cd = true) : At w (E.place k (oo.val c.S)) (y.cells c.S E) := by
  obtain ⟨⟨h1, h2, h3, h4⟩, h5⟩ := SV.partO_ok c.S E (htf.fo k x hx) hy hcd
  have hfar : ∀ {z : Item} {q o' y' r'}, z.act = some (q, .store k o' y', r') → (Ytfncoeoaniclmaa.loose ops z it = true ∨ Ytfncoeoaniclmaa.loose ops it z = true) → oo.val c.S + m ≤ o'.val c.S ∨ o'.val c.S + y'.size ≤ oo.val c.S := by
    intro z q o' y' r' hz hl
    rcases hl with hl | hl
    · have := clash_of hl hz hact
      simp only [clash, Bool.not_eq_false'] at this
      exact (far_ok c.S this).symm
    · have := clash_of hl hact hz
      simp only [clash, Bool.not_eq_false'] at this
      exact far_ok c.S this
  generalize oo.val c.S = o at *
  have hxl := SV.len c.S E x
  have hk : it.keysNot k = false := by unfold Item.keysNot; rw [hact]; simp [Deed.kall]
  have hsz := s.chunk hn hi htf hk
  rw [hx] at hsz
  obtain ⟨vs, a1, a2, a3, a4⟩ := inv.mem k x.size hsz (by omega)
  have hsub := a3.sub o m (by omega)
  have heq : (vs.drop o).take m = y.cells c.S E := by
    rw [h2]
    apply List.ext_getElem?
    intro j
    by_cases hj : j < m
    · rw [List.getElem?_take_of_lt hj, List.getElem?_take_of_lt hj, List.getElem?_drop, List.getElem?_drop, a2 (o + j) (by omega)]
      refine s.cell hn hi htf E hk (fun z hl => ⟨?_, ?_⟩) hx (by omega)
      · intro q o' y' r' hz ⟨hz1, hz2⟩
        rcases hfar hz hl with hh | hh <;> omega
      · intro q f args ks outs hi' r' hz
        rcases hl with hl | hl
        · simpa [clash] using clash_of hl hz hact
        · simpa [clash] using clash_of hl hact hz
    · rw [List.getElem?_eq_none (by simp; omega), List.getElem?_eq_none (by simp; omega)]
  rw [heq] at hsub
  exact hsub

theorem hasN_false {l : List Nat} {k : Nat} (h : hasN l k = false) : ¬ k ∈ l := by
  induction l with
  | nil => simp
  | cons x r ih =>
    unfold hasN at h
    cases hb : Nat.beq x k with
    | true => rw [hb] at h; cases h
    | false =>
      rw [hb] at h
      intro hm
      rcases List.mem_cons.1 hm with he | he
      · subst he; simp at hb
      · exact ih h he

theorem step_read (s : Setup P c n ops pre st0 items stN) (hn : Next ops D i) (hi : items[i]? = some it) {sti : St} (htf : TF c.S st0 (items.take i) sti) (inv : DInv c n w0 M E0 st0 items D E a w)
    {p : Path} {f : FuncId} {args : List SV} {ks : List Nat} {r : Option SV} (hact : it.act = some (p, .read f args ks, r)) {k : Nat} (hkm : k ∈ ks) {x : SV} (hx : sti.heap.get k = some x) (hxp : 0 < x.size) : At w (E.ad k) (x.cells c.S E) := by
  have hxl := SV.len c.S E x
  have hk : it.keysNot k = false := by
    unfold Item.keysNot
    rw [hact]
    have : (ks.all fun j => !(Nat.beq j k)) = false := by
      cases hb : (ks.all fun j => !(Nat.beq j k)) with
      | false => rfl
      | true => have := List.all_eq_true.1 hb k hkm; simp at this
    simp only [Deed.kall, this, Bool.false_and]
  have hsz := s.chunk hn hi htf hk
  rw [hx] at hsz
  obtain ⟨vs, a1, a2, a3, a4⟩ := inv.mem k x.size hsz hxp
  have heq : vs = x.cells c.S E := by
    apply List.ext_getElem?
    intro j
    by_cases hj : j < x.size
    · rw [a2 j hj]
      refine s.cell hn hi htf E hk (fun z hl => ⟨?_, ?_⟩) hx hj
      · rintro q o' y' r' hz ⟨hz1, hz2⟩
        rcases hl with hl | hl
        · have := clash_of hl hz hact
          exact hasN_false (by simpa [clash] using this) hkm
        · have := clash_of hl hact hz
          exact hasN_false (by simpa [clash] using this) hkm
      · intro q f args ks' outs hi' r' hz
        rcases hl with hl | hl
        · have := clash_of hl hz hact
          simp only [clash] at this
          exact List.any_eq_false.1 this k hkm |> fun h => by simpa using h
        · have := clash_of hl hact hz
          simp only [clash] at this
          exact List.any_eq_false.1 this k hkm |> fun h => by simpa using h
    · rw [List.getElem?_eq_none (by omega), List.getElem?_eq_none (by omega)]
  rw [← heq]; exact a3

theorem step_store (s : Setup P c n ops pre st0 items stN) (hn : Next ops D i) (hi : items[i]? = some it) {sti : St} (htf : TF c.S st0 (items.take i) sti) (inv : DInv c n w0 M E0 st0 items D E a w)
    {p : Path} {k : Nat} {oo : Off} {y : SV} {r : Option SV} (hact : it.act = some (p, .store k oo y, r)) {x z : SV} {cd : Option Bool} (hx : sti.heap.get k = some x) (hz : x.putO c.S oo y = some (cd, z)) (hcd : okC cd = true) (hro : c.S.ro k = false) (hone : y.one = true)
    (hdn : ∀ d, it.o.dst = some d → d < n ∧ Path.free it.val.1 d = true) (hv1 : PathHolds a it.val.1 → undef = it.val.2.den c.S E) :
    ∃ w', (storeCells (E.place k (oo.val c.S)) (y.cells c.S E)).run P w = .ok () w' ∧ DInv c n w0 M E0 st0 items (put1 D i) E (a.put it.o.dst undef) w' := by
  obtain ⟨⟨h1, h2⟩, h3, hyp⟩ := SV.putO_ok c.S E (htf.fo k x hx) hz hcd
  obtain ⟨o, ho⟩ : ∃ o, oo.val c.S = o := ⟨_, rfl⟩
  rw [ho] at h1 h2 ⊢
  have hxl := SV.len c.S E x
  have hyl := SV.len c.S E y
  have hk : it.keysNot k = false := by unfold Item.keysNot; rw [hact]; simp [Deed.kall]
  have hsz := s.chunk hn hi htf hk
  rw [hx] at hsz
  have hsz' : lastW (wSize k) D items 0 ((st0.heap.get k).map SV.size) = some x.size := hsz
  have hxp : 0 < x.size := by omega
  obtain ⟨vs, a1, a2, a3, a4⟩ := inv.mem k x.size hsz' hxp
  have hnt0 : ∀ x0, st0.heap.get k = some x0 → NoTup (x0.cells c.S E0) := by
    intro x0 hx0
    refine Classical.byContradiction fun hh => ?_
    obtain ⟨y', hy', hy2⟩ := htf.tup E0 k x0 hx0 hh
    rw [hx] at hy'; injection hy' with hy'; subst hy'
    exact hy2 E0 (SV.noTup_ok c.S E0 (SV.putO_noTup hz))
  have hsub := a3.sub o y.size (by omega)
  have hsl : ((vs.drop o).take y.size).length = y.size := by simp; omega
  obtain ⟨w', hrun, hat', hws, hfr⟩ := hsub.stored (P := P) (a4 hnt0 hro) (y.cells c.S E) (by rw [hyl, hsl]) (SV.one_cells c.S E y hone)
  rw [hsl] at hfr
  refine ⟨w', hrun, ?_⟩
  have hs0 : ∀ k', wSize k' it = none := fun k' => by simp [wSize, hact]
  refine ⟨inv.up, s.slots_step hn hi inv.size inv.slots hdn hv1 (fun _ => rfl), ?_, ?_, ?_, ?_, by rw [Act.put_size]; exact inv.size, by rw [Act.put_defers']; exact inv.defers⟩
  · intro k' L h hLp
    rw [ins_none _ hi hn (hs0 k')] at h
    by_cases hkk : k' = k
    · subst hkk
      rw [hsz'] at h
      injection h with h
      subst h
      refine ⟨splice vs o (y.cells c.S E), by rw [splice_len (by omega), a1], ?_, a3.spliced (by omega) hat' hfr (fun j hj => ⟨hj.2.1, by rw [hyl]; exact hj.2.2⟩) (a4 hnt0 hro) (by omega), fun hnt hr => (a4 hnt hr).fr hfr⟩
      intro j hj
      rw [lastW_insert _ D (put1 D i) items i it hi _ hn.no (by simp [put1]) (fun j hj => by simp [put1, hj])]
      · by_cases hin : o ≤ j ∧ j < o + y.size
        · have hw : wCell c.S E k' j it = (y.cells c.S E)[j - o]? := by
            unfold wCell; rw [hact]
            simp only [ho]
            have hb : (Nat.beq k' k' && (Nat.ble o j && Nat.blt j (Nat.add o y.size))) = true := by
              simp only [Bool.and_eq_true]
              exact ⟨by simp, Nat.ble_eq_true_of_le hin.1, by simpa using hin.2⟩
            simp only [hb, cond_true]
          obtain ⟨v, hv⟩ : ∃ v, (y.cells c.S E)[j - o]? = some v := ⟨_, List.getElem?_eq_getElem (by omega)⟩
          rw [hw, hv, ov_some]
          unfold splice
          rw [List.getElem?_append_right (by simp; omega), List.getElem?_append_left (by simp; omega)]
          rw [← hv]; congr 1; simp; omega
        · have hw : wCell c.S E k' j it = none := by
            cases hw : wCell c.S E k' j it with
            | none => rfl
            | some v =>
              exfalso
              rcases wCell_cases hw with hm | ⟨p', o', y', r', hact', h5, h6⟩ | ⟨p', f', args', ks', outs', hi', r', hact', _⟩
              · unfold Item.makes Item.span at hm; rw [hact] at hm; cases hm
              rotate_left
              · rw [hact] at hact'; cases hact'
              · rw [hact] at hact'
                injection hact' with e; injection e with e1 e2; injection e2 with e3 e4; injection e3 with e5 e6 e7
                subst e6 e7
                rw [ho] at h5 h6
                exact hin ⟨h5, h6⟩
          rw [hw, ov_none, ← a2 j hj]
          unfold splice
          have hout : j < o ∨ o + y.size ≤ j := by omega
          rcases hout with h5 | h5
          · rw [List.getElem?_append_left (by simp; omega), List.getElem?_take_of_lt h5]
          · rw [List.getElem?_append_right (by simp; omega), List.getElem?_append_right (by simp; omega), List.getElem?_drop]
            congr 1; simp; omega
      · intro hw j' y' hj' hlt hd
        have hl := s.behind hn hj' hi hlt hd
        have ha := s.ahead hi hj' hlt
        simp only [Ytfncoeoaniclmaa.ahead, Bool.and_eq_true] at ha
        cases hw' : wCell c.S E k' j y' with
        | none => rfl
        | some v =>
          exfalso
          rcases wCell_cases hw' with hm | ⟨p', o', z', r', hact', h5, h6⟩ | ⟨p', f', args', ks', outs', hi', r', hact', hh⟩
          · have := shuns_not ha.2.2.1 hm; rw [hk] at this; cases this
          rotate_left
          · have hcl := clash_of hl hact hact'
            simp only [clash] at hcl
            rw [hh] at hcl; cases hcl
          · have hcl := clash_of hl hact hact'
            simp only [clash, Bool.not_eq_false'] at hcl
            cases hwi : wCell c.S E k' j it with
            | none => exact hw hwi
            | some v' =>
              rcases wCell_cases hwi with hm | ⟨p2, o2, y2, r2, hact2, h7, h8⟩ | ⟨p2, f2, args2, ks2, outs2, hi2, r2, hact2, _⟩
              · unfold Item.makes Item.span at hm; rw [hact] at hm; cases hm
              rotate_left
              · rw [hact] at hact2; cases hact2
              · rw [hact] at hact2
                injection hact2 with e; injection e with e1 e2; injection e2 with e3 e4; injection e3 with e5 e6 e7
                subst e6 e7
                rcases far_ok c.S hcl with hh | hh <;> omega
    · obtain ⟨us, b1, b2, b3, b4⟩ := inv.mem k' L h hLp
      refine ⟨us, b1, fun j hj => ?_, ?_, fun hnt hr => (b4 hnt hr).fr hfr⟩
      · have hw : wCell c.S E k' j it = none := by
          cases hw : wCell c.S E k' j it with
          | none => rfl
          | some v =>
            exfalso
            rcases wCell_cases hw with hm | ⟨p', o', y', r', hact', h5, h6⟩ | ⟨p', f', args', ks', outs', hi', r', hact', _⟩
            · unfold Item.makes Item.span at hm; rw [hact] at hm; cases hm
            rotate_left
            · rw [hact] at hact'; cases hact'
            · rw [hact] at hact'
              injection hact' with e; injection e with e1 e2; injection e2 with e3 e4; injection e3 with e5 e6 e7
              exact hkk e5.symm
        rw [ins_none _ hi hn hw]
        exact b2 j hj
      · refine b3.fr hfr ?_
        rintro j hj ⟨hb, hlo, hhi⟩
        simp only at hb hlo hhi
        rcases inv.dis k k' x.size L (Ne.symm hkk) hsz' h hxp (by omega) hro with hd | hd | hd
        · exact hd hb.symm
        · omega
        · omega
  · intro k' k'' L L' hne h h'
    rw [ins_none _ hi hn (hs0 k')] at h
    rw [ins_none _ hi hn (hs0 k'')] at h'
    exact inv.dis k' k'' L L' hne h h'
  · intro k' L h
    rw [ins_none _ hi hn (hs0 k')] at h
    exact inv.own k' L h
  · refine inv.fr.trans hfr ?_
    rintro b j hlt ⟨hb, hlo, hhi⟩
    simp only at hb hlo hhi
    rcases inv.own k x.size hsz' hro with h | h
    · omega
    · have := h (j - (E.ad k).off) (by omega)
      rw [show (E.ad k).off + (j - (E.ad k).off) = j from by omega] at this
      rw [hb]; exact this
end
end Go.Proofs.Ytfncoeoaniclmaa
