import Derived.Test.YtjemfkoamfnofaaGreatDraw
set_option linter.unusedVariables false
namespace Go.Proofs.YtjemfkoamfnofaaGreat
section
open Go Go.RowKit
section
variable {P : Program} {c : Ctx} {n : Nat} {ops pre : List Oper} {st0 stN : St} {items : List Item} {w0 : World} {M : Nat → Nat → Prop} {E0 E : Env} {D : Nat → Bool} {i : Nat} {it : Item} {a : Act} {w : World}
theorem ins_none {β : Type} (w : Item → Option β) (hi : items[i]? = some it) (hn : Next ops D i) (hw : w it = none) (a : Option β) : lastW w (put1 D i) items 0 a = lastW w D items 0 a := by
 rw [lastW_insert w D (put1 D i) items i it hi a hn.no (by simp [put1]) (fun j hj => by simp [put1, hj]) (fun h => absurd hw h), hw, ov_none]
theorem DInv.quiet (s : Setup P c n ops pre st0 items stN) (hn : Next ops D i) (hi : items[i]? = some it) (inv : DInv c n w0 M E0 st0 items D E a w) {w' : World} (hfr : Fr w w' (fun _ _ => False))
   (hs : ∀ k, wSize k it = none) (hcl : ∀ k j, wCell c.S E k j it = none) (hdn : ∀ d, it.o.dst = some d → d < n ∧ Path.free it.val.1 d = true) {v : Value}
   (h1 : PathHolds a it.val.1 → v = it.val.2.den c.S E) (h2 : ¬ PathHolds a it.val.1 → v = undef) : DInv c n w0 M E0 st0 items (put1 D i) E (a.put it.o.dst v) w' := by
 refine ⟨inv.up, s.slots_step hn hi inv.size inv.slots hdn h1 h2, ?_, ?_, ?_, inv.fr.trans hfr (fun _ _ _ h => h.elim), by rw [Act.put_size]; exact inv.size, by rw [Act.put_defers']; exact inv.defers⟩
 · intro k L h hp
   rw [ins_none _ hi hn (hs k)] at h
   obtain ⟨vs, a1, a2, a3, a4⟩ := inv.mem k L h hp
   refine ⟨vs, a1, fun j hj => ?_, a3.fr hfr (fun _ _ h => h), fun hnt hr => (a4 hnt hr).fr hfr⟩
   rw [ins_none _ hi hn (hcl k j)]
   exact a2 j hj
 · intro k k' L L' hne h h'
   rw [ins_none _ hi hn (hs k)] at h
   rw [ins_none _ hi hn (hs k')] at h'
   exact inv.dis k k' L L' hne h h'
 · intro k L h
   rw [ins_none _ hi hn (hs k)] at h
   exact inv.own k L h
theorem beq_inR {k a b : Nat} (h : Nat.beq a k = true) (hb : b = Nat.add a 1) : inR a b k = true := by
 have := Nat.eq_of_beq_eq_true h; subst this
 subst hb
 exact inR_ok.2 ⟨Nat.le_refl _, Nat.lt_succ_self _⟩
theorem made_of_size {x : Item} {k L : Nat} (h : wSize k x = some L) : x.makes k = true := by
 unfold wSize at h
 unfold Item.makes Item.span
 split at h
 · rename_i p y r hact
   rw [hact]
   cases hb : Nat.beq x.key k with
   | true => exact beq_inR hb rfl
   | false => rw [hb] at h; cases h
 · rename_i p y len r hact
   rw [hact]
   cases hb : Nat.beq x.key k with
   | true => exact beq_inR hb rfl
   | false => rw [hb] at h; cases h
 · rename_i p f args ks outs hi r hact
   rw [hact]
   cases hb : inR x.key hi k with
   | true => exact hb
   | false => rw [hb] at h; cases h
 · cases h
mutual
theorem SV.kall_mono {f g : Nat → Bool} (h : ∀ k, f k = true → g k = true) : ∀ x : SV, x.kall f = true → x.kall g = true
 | .ptr c o, hf => h _ (by simpa [SV.kall] using hf)
 | .mp c, hf => h _ (by simpa [SV.kall] using hf)
 | .slc c o a b, hf => h _ (by simpa [SV.kall] using hf)
 | .slu c o a u, hf => by
   have hf' : f c = true ∧ f u = true := by simpa [SV.kall] using hf
   simp [SV.kall, h _ hf'.1, h _ hf'.2]
 | .fn q a b, hf => by
   have hf' : SV.kalls f a = true ∧ SV.kalls f b = true := by simpa [SV.kall] using hf
   simp [SV.kall, SV.kalls_mono h a hf'.1, SV.kalls_mono h b hf'.2]
 | .agg l, hf => by
   have hf' : SV.kalls f l = true := by simpa [SV.kall] using hf
   simp [SV.kall, SV.kalls_mono h l hf']
 | .tup l, hf => by
   have hf' : SV.kalls f l = true := by simpa [SV.kall] using hf
   simp [SV.kall, SV.kalls_mono h l hf']
 | .elt c _ _ _, hf => h _ (by simpa [SV.kall] using hf)
 | .slr c _ u _, hf => by
   have hf' : f c = true ∧ f u = true := by simpa [SV.kall] using hf
   simp [SV.kall, h _ hf'.1, h _ hf'.2]
 | .foc _ _ x _, hf => by
   have hf' : SV.kall f x = true := by simpa [SV.kall] using hf
   simp [SV.kall, SV.kall_mono h x hf']
 | .tab _, _ | .v _, _ | .kb _, _ | .ki _ _, _ | .ix _, _ | .sl _, _ | .rcd _, _ | .rows _, _ => by simp [SV.kall]
theorem SV.kalls_mono {f g : Nat → Bool} (h : ∀ k, f k = true → g k = true) : ∀ l : List SV, SV.kalls f l = true → SV.kalls g l = true
 | [], _ => by simp [SV.kalls]
 | x :: r, hf => by
   have hf' : SV.kall f x = true ∧ SV.kalls f r = true := by simpa [SV.kalls] using hf
   simp [SV.kalls, SV.kall_mono h x hf'.1, SV.kalls_mono h r hf'.2]
end
theorem Deed.kall_mono {f g : Nat → Bool} (h : ∀ k, f k = true → g k = true) {d : Deed} (hd : d.kall f = true) : d.kall g = true := by
 have hl : ∀ l : List Nat, l.all f = true → l.all g = true := fun l hl => List.all_eq_true.2 fun k hk => h k (List.all_eq_true.1 hl k hk)
 cases d <;> simp only [Deed.kall, Bool.and_eq_true] at hd ⊢
 case yield x => exact SV.kall_mono h x hd
 case test b x => exact SV.kall_mono h x hd
 case load => exact h _ hd
 case store => exact ⟨h _ hd.1, SV.kall_mono h _ hd.2⟩
 case new y => exact SV.kall_mono h y hd
 case newSlice y l => exact SV.kall_mono h y hd
 case copy => exact h _ hd
 case join b k m z =>
   refine ⟨h _ hd.1, ?_⟩
   cases b with
   | none => rfl
   | some q => exact h _ hd.2
 case insert => exact ⟨h _ hd.1, SV.kall_mono h _ hd.2⟩
 case look => exact ⟨h _ hd.1, SV.kall_mono h _ hd.2⟩
 case ask => exact h _ hd
 case amend => exact h _ hd
 case call f args => exact SV.kalls_mono h args hd
 case act f args rs ks outs hi => exact ⟨hl _ hd.1, hl _ hd.2.1, SV.kalls_mono h _ hd.2.2.1, List.all_eq_true.2 fun e he => SV.kall_mono h _ (List.all_eq_true.1 hd.2.2.2 e he)⟩
 case read f args ks => exact ⟨hl _ hd.1, SV.kalls_mono h _ hd.2⟩
theorem keysNot_of {x : Item} {a b k : Nat} (h : x.keysOut a b = true) (hk : inR a b k = true) : x.keysNot k = true := by
 unfold Item.keysOut at h
 unfold Item.keysNot
 have hm : ∀ j, (!(inR a b j)) = true → (!(Nat.beq j k)) = true := by
   intro j hj
   cases hb : Nat.beq j k with
   | false => rfl
   | true => have := Nat.eq_of_beq_eq_true hb; subst this; rw [hk] at hj; cases hj
 split at h
 · rename_i p e r hact
   simp only [Bool.and_eq_true] at h ⊢
   refine ⟨Deed.kall_mono hm h.1, ?_⟩
   cases r with
   | none => rfl
   | some u => exact SV.kall_mono hm u h.2
 · rfl
theorem shuns_not {x y : Item} {k : Nat} (h : x.shuns y = true) (hm : y.makes k = true) : x.keysNot k = true := by
 unfold Item.shuns at h
 unfold Item.makes at hm
 split at hm
 · rename_i a b hs
   rw [hs] at h
   exact keysNot_of h hm
 · cases hm
theorem Setup.chunk (s : Setup P c n ops pre st0 items stN) (hn : Next ops D i) (hi : items[i]? = some it) {sti : St} (htf : TF c.S st0 (items.take i) sti) {k : Nat} (hk : it.keysNot k = false) :
   lastW (wSize k) D items 0 ((st0.heap.get k).map SV.size) = (sti.heap.get k).map SV.size := by
 rw [htf.size k]
 refine lastW_text (wSize k) D items i it hi _ hn.no ?_ ?_
 · intro j x hj hlt hd
   have hl := s.before hn hj hi hlt hd
   simp only [YtjemfkoamfnofaaGreat.loose, Bool.and_eq_true] at hl
   cases hw : wSize k x with
   | none => rfl
   | some L => have := shuns_not hl.2.2.2.2 (made_of_size hw); rw [hk] at this; cases this
 · intro j y hj hlt hd
   have ha := s.ahead hi hj hlt
   simp only [YtjemfkoamfnofaaGreat.ahead, Bool.and_eq_true] at ha
   cases hw : wSize k y with
   | none => rfl
   | some L => have := shuns_not ha.2.2.1 (made_of_size hw); rw [hk] at this; cases this
theorem wCell_cases {S : Stat} {x : Item} {k j : Nat} {v : Value} (h : wCell S E k j x = some v) : x.makes k = true ∨ (∃ p o y r, x.act = some (p, .store k o y, r) ∧ o.val S ≤ j ∧ j < o.val S + y.size) ∨
   ∃ p f args rs ks outs hi r, x.act = some (p, .act f args rs ks outs hi, r) ∧ hasN ks k = true := by
 unfold wCell at h
 split at h
 · rename_i p k' o y r hact
   cases hb : (Nat.beq k' k && (Nat.ble (o.val S) j && Nat.blt j (Nat.add (o.val S) y.size))) with
   | true =>
     simp only [Bool.and_eq_true] at hb
     have := Nat.eq_of_beq_eq_true hb.1
     subst this
     exact .inr (.inl ⟨p, o, y, r, hact, Nat.le_of_ble_eq_true hb.2.1, by simpa using hb.2.2⟩)
   | false => rw [hb] at h; cases h
 · rename_i p y r hact
   left
   unfold Item.makes Item.span
   rw [hact]
   cases hb : Nat.beq x.key k with
   | true => exact beq_inR hb rfl
   | false => rw [hb] at h; cases h
 · rename_i p y len r hact
   left
   unfold Item.makes Item.span
   rw [hact]
   cases hb : Nat.beq x.key k with
   | true => exact beq_inR hb rfl
   | false => rw [hb] at h; cases h
 · rename_i p f args rs ks outs hi r hact
   cases hb : inR x.key hi k with
   | true =>
     left
     unfold Item.makes Item.span
     rw [hact]
     exact hb
   | false =>
     rw [hb, Bool.false_or] at h
     cases hk : hasN ks k with
     | true => exact .inr (.inr ⟨p, f, args, rs, ks, outs, hi, r, hact, hk⟩)
     | false => rw [hk] at h; cases h
 · cases h
theorem off_far_ok (S : Stat) : ∀ {o o' : Off} {n' n'' : Nat}, o.far n' o' n'' = true → o.val S + n' ≤ o'.val S ∨ o'.val S + n'' ≤ o.val S
 | .at o, .at o', n', n'', h => by
   simp only [Off.far, Bool.or_eq_true] at h
   rcases h with h | h
   · exact .inl (Nat.le_of_ble_eq_true h)
   · exact .inr (Nat.le_of_ble_eq_true h)
 | .row (.tok j) z o, .row (.tok j') z' o', n', n'', h => by
   simp only [Off.far, Bool.and_eq_true, Bool.or_eq_true, Nat.beq_eq] at h
   obtain ⟨⟨e1, e2⟩, h⟩ := h
   subst e1 e2
   simp only [Off.val, Nat.add_eq]
   rcases h with h | h
   · have := Nat.le_of_ble_eq_true h
     simp only [Nat.add_eq] at this
     exact .inl (by omega)
   · have := Nat.le_of_ble_eq_true h
     simp only [Nat.add_eq] at this
     exact .inr (by omega)
 | .at _, .row _ _ _, _, _, h => by cases h
 | .row (.tok _) _ _, .at _, _, _, h => by cases h
 | .row (.val _) _ _, .at _, _, _, h => by cases h
 | .row (.tok _) _ _, .row (.val _) _ _, _, _, h => by cases h
 | .row (.val _) _ _, .row _ _ _, _, _, h => by cases h
theorem far_ok (S : Stat) {k n' n'' : Nat} {o o' : Off} (h : far k o n' k o' n'' = true) : o.val S + n' ≤ o'.val S ∨ o'.val S + n'' ≤ o.val S := by
 refine off_far_ok S ?_
 unfold far at h
 simpa using h
theorem Setup.cell (s : Setup P c n ops pre st0 items stN) (hn : Next ops D i) (hi : items[i]? = some it) {sti : St} (htf : TF c.S st0 (items.take i) sti) (E : Env) {k j : Nat} (hk : it.keysNot k = false)
   (hfar : ∀ x, (YtjemfkoamfnofaaGreat.loose ops x it = true ∨ YtjemfkoamfnofaaGreat.loose ops it x = true) → (∀ p o y r, x.act = some (p, .store k o y, r) → ¬ (o.val c.S ≤ j ∧ j < o.val c.S + y.size)) ∧ ∀ p f args rs ks outs hi r, x.act = some (p, .act f args rs ks outs hi, r) → hasN ks k = false) {x0 : SV} (hx : sti.heap.get k = some x0) (hj : j < x0.size) :
   lastW (wCell c.S E k j) D items 0 ((st0.heap.get k).bind fun x => (x.cells c.S E)[j]?) = (x0.cells c.S E)[j]? := by
 rw [htf.cells E k x0 j hx hj]
 refine lastW_text _ D items i it hi _ hn.no ?_ ?_
 · intro j' x hj' hlt hd
   have hl := s.before hn hj' hi hlt hd
   cases hw : wCell c.S E k j x with
   | none => rfl
   | some v =>
     exfalso
     have hl' := hl
     simp only [YtjemfkoamfnofaaGreat.loose, Bool.and_eq_true] at hl'
     rcases wCell_cases hw with hm | ⟨p, o, y, r, hact, h1, h2⟩ | ⟨p, f, args, rs, ks, outs, hi', r, hact, hh⟩
     · have := shuns_not hl'.2.2.2.2 hm; rw [hk] at this; cases this
     · exact (hfar x (.inl hl)).1 p o y r hact ⟨h1, h2⟩
     · have := (hfar x (.inl hl)).2 p f args rs ks outs hi' r hact; rw [hh] at this; cases this
 · intro j' y hj' hlt hd
   have hl := s.behind hn hj' hi hlt hd
   have ha := s.ahead hi hj' hlt
   simp only [YtjemfkoamfnofaaGreat.ahead, Bool.and_eq_true] at ha
   cases hw : wCell c.S E k j y with
   | none => rfl
   | some v =>
     exfalso
     rcases wCell_cases hw with hm | ⟨p, o, z, r, hact, h1, h2⟩ | ⟨p, f, args, rs, ks, outs, hi', r, hact, hh⟩
     · have := shuns_not ha.2.2.1 hm; rw [hk] at this; cases this
     · exact (hfar y (.inr hl)).1 p o z r hact ⟨h1, h2⟩
     · have := (hfar y (.inr hl)).2 p f args rs ks outs hi' r hact; rw [hh] at this; cases this
theorem clash_of {x y : Item} (h : YtjemfkoamfnofaaGreat.loose ops x y = true) {p q : Path} {d e : Deed} {r u : Option SV} (hx : x.act = some (p, d, r)) (hy : y.act = some (q, e, u)) : clash d e = false := by
 simp only [YtjemfkoamfnofaaGreat.loose, Bool.and_eq_true, hx, hy] at h
 simpa using h.2.2.2.1
theorem step_load (s : Setup P c n ops pre st0 items stN) (hn : Next ops D i) (hi : items[i]? = some it) {sti : St} (htf : TF c.S st0 (items.take i) sti) (inv : DInv c n w0 M E0 st0 items D E a w)
   {p : Path} {k m : Nat} {oo : Off} {g : Bool} {r : Option SV} (hact : it.act = some (p, .load k oo m g, r)) {x y : SV} {cd : Option Bool} (hx : sti.heap.get k = some x) (hy : x.partO c.S oo m g = some (cd, y)) (hcd : okC cd = true) : At w (E.place k (oo.val c.S)) (y.cells c.S E) := by
 obtain ⟨⟨h1, h2, h3, h4⟩, h5⟩ := SV.partO_ok c.S E (htf.fo k x hx) hy hcd
 have hfar : ∀ {z : Item} {q o' y' r'}, z.act = some (q, .store k o' y', r') → (YtjemfkoamfnofaaGreat.loose ops z it = true ∨ YtjemfkoamfnofaaGreat.loose ops it z = true) → oo.val c.S + m ≤ o'.val c.S ∨ o'.val c.S + y'.size ≤ oo.val c.S := by
   intro z q o' y' r' hz hl
   rcases hl with hl | hl
   · have := clash_of hl hz hact
     simp only [clash, Bool.not_eq_false'] at this
     exact (far_ok c.S this).symm
   · have := clash_of hl hact hz
     simp only [clash, Bool.not_eq_false'] at this
     exact far_ok c.S this
 generalize oo.val c.S = o at *
 have hxl := SV.len c.S E x
 have hk : it.keysNot k = false := by unfold Item.keysNot; rw [hact]; simp [Deed.kall]
 have hsz := s.chunk hn hi htf hk
 rw [hx] at hsz
 obtain ⟨vs, a1, a2, a3, a4⟩ := inv.mem k x.size hsz (by omega)
 have hsub := a3.sub o m (by omega)
 have heq : (vs.drop o).take m = y.cells c.S E := by
   rw [h2]
   apply List.ext_getElem?
   intro j
   by_cases hj : j < m
   · rw [List.getElem?_take_of_lt hj, List.getElem?_take_of_lt hj, List.getElem?_drop, List.getElem?_drop, a2 (o + j) (by omega)]
     refine s.cell hn hi htf E hk (fun z hl => ⟨?_, ?_⟩) hx (by omega)
     · intro q o' y' r' hz ⟨hz1, hz2⟩
       rcases hfar hz hl with hh | hh <;> omega
     · intro q f args rs ks outs hi' r' hz
       rcases hl with hl | hl
       · simpa [clash] using clash_of hl hz hact
       · simpa [clash] using clash_of hl hact hz
   · rw [List.getElem?_eq_none (by simp; omega), List.getElem?_eq_none (by simp; omega)]
 rw [heq] at hsub
 exact hsub
theorem hasN_false {l : List Nat} {k : Nat} (h : hasN l k = false) : ¬ k ∈ l := by
 induction l with
 | nil => simp
 | cons x r ih =>
   unfold hasN at h
   cases hb : Nat.beq x k with
   | true => rw [hb] at h; cases h
   | false =>
     rw [hb] at h
     intro hm
     rcases List.mem_cons.1 hm with he | he
     · subst he; simp at hb
     · exact ih h he
theorem step_read (s : Setup P c n ops pre st0 items stN) (hn : Next ops D i) (hi : items[i]? = some it) {sti : St} (htf : TF c.S st0 (items.take i) sti) (inv : DInv c n w0 M E0 st0 items D E a w)
   {p : Path} {f : FuncId} {args : List SV} {ks : List Nat} {r : Option SV} (hact : it.act = some (p, .read f args ks, r)) {k : Nat} (hkm : k ∈ ks) {x : SV} (hx : sti.heap.get k = some x) (hxp : 0 < x.size) : At w (E.ad k) (x.cells c.S E) := by
 have hxl := SV.len c.S E x
 have hk : it.keysNot k = false := by
   unfold Item.keysNot
   rw [hact]
   have : (ks.all fun j => !(Nat.beq j k)) = false := by
     cases hb : (ks.all fun j => !(Nat.beq j k)) with
     | false => rfl
     | true => have := List.all_eq_true.1 hb k hkm; simp at this
   simp only [Deed.kall, this, Bool.false_and]
 have hsz := s.chunk hn hi htf hk
 rw [hx] at hsz
 obtain ⟨vs, a1, a2, a3, a4⟩ := inv.mem k x.size hsz hxp
 have heq : vs = x.cells c.S E := by
   apply List.ext_getElem?
   intro j
   by_cases hj : j < x.size
   · rw [a2 j hj]
     refine s.cell hn hi htf E hk (fun z hl => ⟨?_, ?_⟩) hx hj
     · rintro q o' y' r' hz ⟨hz1, hz2⟩
       rcases hl with hl | hl
       · have := clash_of hl hz hact
         exact hasN_false (by simpa [clash] using this) hkm
       · have := clash_of hl hact hz
         exact hasN_false (by simpa [clash] using this) hkm
     · intro q f args rs' ks' outs hi' r' hz
       rcases hl with hl | hl
       · have := clash_of hl hz hact
         simp only [clash] at this
         exact List.any_eq_false.1 this k hkm |> fun h => by simpa using h
       · have := clash_of hl hact hz
         simp only [clash] at this
         exact List.any_eq_false.1 this k hkm |> fun h => by simpa using h
   · rw [List.getElem?_eq_none (by omega), List.getElem?_eq_none (by omega)]
 rw [← heq]; exact a3
theorem step_store (s : Setup P c n ops pre st0 items stN) (hn : Next ops D i) (hi : items[i]? = some it) {sti : St} (htf : TF c.S st0 (items.take i) sti) (inv : DInv c n w0 M E0 st0 items D E a w)
   {p : Path} {k : Nat} {oo : Off} {y : SV} {r : Option SV} (hact : it.act = some (p, .store k oo y, r)) {x z : SV} {cd : Option Bool} (hx : sti.heap.get k = some x) (hz : x.putO c.S oo y = some (cd, z)) (hcd : okC cd = true) (hro : c.S.ro k = false) (hone : y.one = true)
   (hdn : ∀ d, it.o.dst = some d → d < n ∧ Path.free it.val.1 d = true) (hv1 : PathHolds a it.val.1 → undef = it.val.2.den c.S E) :
   ∃ w', (storeCells (E.place k (oo.val c.S)) (y.cells c.S E)).run P w = .ok () w' ∧ DInv c n w0 M E0 st0 items (put1 D i) E (a.put it.o.dst undef) w' := by
 obtain ⟨⟨h1, h2⟩, h3, hyp⟩ := SV.putO_ok c.S E (htf.fo k x hx) hz hcd
 obtain ⟨o, ho⟩ : ∃ o, oo.val c.S = o := ⟨_, rfl⟩
 rw [ho] at h1 h2 ⊢
 have hxl := SV.len c.S E x
 have hyl := SV.len c.S E y
 have hk : it.keysNot k = false := by unfold Item.keysNot; rw [hact]; simp [Deed.kall]
 have hsz := s.chunk hn hi htf hk
 rw [hx] at hsz
 have hsz' : lastW (wSize k) D items 0 ((st0.heap.get k).map SV.size) = some x.size := hsz
 have hxp : 0 < x.size := by omega
 obtain ⟨vs, a1, a2, a3, a4⟩ := inv.mem k x.size hsz' hxp
 have hnt0 : ∀ x0, st0.heap.get k = some x0 → NoTup (x0.cells c.S E0) := by
   intro x0 hx0
   refine Classical.byContradiction fun hh => ?_
   obtain ⟨y', hy', hy2⟩ := htf.tup E0 k x0 hx0 hh
   rw [hx] at hy'; injection hy' with hy'; subst hy'
   exact hy2 E0 (SV.noTup_ok c.S E0 (SV.putO_noTup hz))
 have hsub := a3.sub o y.size (by omega)
 have hsl : ((vs.drop o).take y.size).length = y.size := by simp; omega
 obtain ⟨w', hrun, hat', hws, hfr⟩ := hsub.stored (P := P) (a4 hnt0 hro) (y.cells c.S E) (by rw [hyl, hsl]) (SV.one_cells c.S E y hone)
 rw [hsl] at hfr
 refine ⟨w', hrun, ?_⟩
 have hs0 : ∀ k', wSize k' it = none := fun k' => by simp [wSize, hact]
 refine ⟨inv.up, s.slots_step hn hi inv.size inv.slots hdn hv1 (fun _ => rfl), ?_, ?_, ?_, ?_, by rw [Act.put_size]; exact inv.size, by rw [Act.put_defers']; exact inv.defers⟩
 · intro k' L h hLp
   rw [ins_none _ hi hn (hs0 k')] at h
   by_cases hkk : k' = k
   · subst hkk
     rw [hsz'] at h
     injection h with h
     subst h
     refine ⟨splice vs o (y.cells c.S E), by rw [splice_len (by omega), a1], ?_, a3.spliced (by omega) hat' hfr (fun j hj => ⟨hj.2.1, by rw [hyl]; exact hj.2.2⟩) (a4 hnt0 hro) (by omega), fun hnt hr => (a4 hnt hr).fr hfr⟩
     intro j hj
     rw [lastW_insert _ D (put1 D i) items i it hi _ hn.no (by simp [put1]) (fun j hj => by simp [put1, hj])]
     · by_cases hin : o ≤ j ∧ j < o + y.size
       · have hw : wCell c.S E k' j it = (y.cells c.S E)[j - o]? := by
           unfold wCell; rw [hact]
           simp only [ho]
           have hb : (Nat.beq k' k' && (Nat.ble o j && Nat.blt j (Nat.add o y.size))) = true := by
             simp only [Bool.and_eq_true]
             exact ⟨by simp, Nat.ble_eq_true_of_le hin.1, by simpa using hin.2⟩
           simp only [hb, cond_true]
         obtain ⟨v, hv⟩ : ∃ v, (y.cells c.S E)[j - o]? = some v := ⟨_, List.getElem?_eq_getElem (by omega)⟩
         rw [hw, hv, ov_some]
         unfold splice
         rw [List.getElem?_append_right (by simp; omega), List.getElem?_append_left (by simp; omega)]
         rw [← hv]; congr 1; simp; omega
       · have hw : wCell c.S E k' j it = none := by
           cases hw : wCell c.S E k' j it with
           | none => rfl
           | some v =>
             exfalso
             rcases wCell_cases hw with hm | ⟨p', o', y', r', hact', h5, h6⟩ | ⟨p', f', args', rs', ks', outs', hi', r', hact', _⟩
             · unfold Item.makes Item.span at hm; rw [hact] at hm; cases hm
             rotate_left
             · rw [hact] at hact'; cases hact'
             · rw [hact] at hact'
               injection hact' with e; injection e with e1 e2; injection e2 with e3 e4; injection e3 with e5 e6 e7
               subst e6 e7
               rw [ho] at h5 h6
               exact hin ⟨h5, h6⟩
         rw [hw, ov_none, ← a2 j hj]
         unfold splice
         have hout : j < o ∨ o + y.size ≤ j := by omega
         rcases hout with h5 | h5
         · rw [List.getElem?_append_left (by simp; omega), List.getElem?_take_of_lt h5]
         · rw [List.getElem?_append_right (by simp; omega), List.getElem?_append_right (by simp; omega), List.getElem?_drop]
           congr 1; simp; omega
     · intro hw j' y' hj' hlt hd
       have hl := s.behind hn hj' hi hlt hd
       have ha := s.ahead hi hj' hlt
       simp only [YtjemfkoamfnofaaGreat.ahead, Bool.and_eq_true] at ha
       cases hw' : wCell c.S E k' j y' with
       | none => rfl
       | some v =>
         exfalso
         rcases wCell_cases hw' with hm | ⟨p', o', z', r', hact', h5, h6⟩ | ⟨p', f', args', rs', ks', outs', hi', r', hact', hh⟩
         · have := shuns_not ha.2.2.1 hm; rw [hk] at this; cases this
         rotate_left
         · have hcl := clash_of hl hact hact'
           simp only [clash] at hcl
           rw [hh, Bool.or_true] at hcl; cases hcl
         · have hcl := clash_of hl hact hact'
           simp only [clash, Bool.not_eq_false'] at hcl
           cases hwi : wCell c.S E k' j it with
           | none => exact hw hwi
           | some v' =>
             rcases wCell_cases hwi with hm | ⟨p2, o2, y2, r2, hact2, h7, h8⟩ | ⟨p2, f2, args2, rs2, ks2, outs2, hi2, r2, hact2, _⟩
             · unfold Item.makes Item.span at hm; rw [hact] at hm; cases hm
             rotate_left
             · rw [hact] at hact2; cases hact2
             · rw [hact] at hact2
               injection hact2 with e; injection e with e1 e2; injection e2 with e3 e4; injection e3 with e5 e6 e7
               subst e6 e7
               rcases far_ok c.S hcl with hh | hh <;> omega
   · obtain ⟨us, b1, b2, b3, b4⟩ := inv.mem k' L h hLp
     refine ⟨us, b1, fun j hj => ?_, ?_, fun hnt hr => (b4 hnt hr).fr hfr⟩
     · have hw : wCell c.S E k' j it = none := by
         cases hw : wCell c.S E k' j it with
         | none => rfl
         | some v =>
           exfalso
           rcases wCell_cases hw with hm | ⟨p', o', y', r', hact', h5, h6⟩ | ⟨p', f', args', rs', ks', outs', hi', r', hact', _⟩
           · unfold Item.makes Item.span at hm; rw [hact] at hm; cases hm
           rotate_left
           · rw [hact] at hact'; cases hact'
           · rw [hact] at hact'
             injection hact' with e; injection e with e1 e2; injection e2 with e3 e4; injection e3 with e5 e6 e7
             exact hkk e5.symm
       rw [ins_none _ hi hn hw]
       exact b2 j hj
     · refine b3.fr hfr ?_
       rintro j hj ⟨hb, hlo, hhi⟩
       simp only at hb hlo hhi
       rcases inv.dis k k' x.size L (Ne.symm hkk) hsz' h hxp (by omega) hro with hd | hd | hd
       · exact hd hb.symm
       · omega
       · omega
 · intro k' k'' L L' hne h h'
   rw [ins_none _ hi hn (hs0 k')] at h
   rw [ins_none _ hi hn (hs0 k'')] at h'
   exact inv.dis k' k'' L L' hne h h'
 · intro k' L h
   rw [ins_none _ hi hn (hs0 k')] at h
   exact inv.own k' L h
 · refine inv.fr.trans hfr ?_
   rintro b j hlt ⟨hb, hlo, hhi⟩
   simp only at hb hlo hhi
   rcases inv.own k x.size hsz' hro with h | h
   · omega
   · have := h (j - (E.ad k).off) (by omega)
     rw [show (E.ad k).off + (j - (E.ad k).off) = j from by omega] at this
     rw [hb]; exact this
end
end
section
open Go Go.RowKit
theorem apart_of {a b : Addr} {n m : Nat} (h : ∀ j, j < n → a.block = b.block → b.off ≤ a.off + j → a.off + j < b.off + m → False) (hn : 0 < n) (hm : 0 < m) : apart a n b m := by
 by_cases hb : a.block = b.block
 · by_cases h1 : a.off + n ≤ b.off
   · exact .inr (.inl h1)
   · by_cases h2 : b.off + m ≤ a.off
     · exact .inr (.inr h2)
     · exfalso
       by_cases h3 : a.off ≤ b.off
       · exact h (b.off - a.off) (by omega) hb (by omega) (by omega)
       · exact h 0 hn hb (by omega) (by omega)
 · exact .inl hb
def Env.over (E E1 : Env) (a b : Nat) : Env := ⟨fun k => if a ≤ k ∧ k < b then E1.ad k else E.ad k, fun k => if a ≤ k ∧ k < b then E1.cp k else E.cp k⟩
theorem Env.over_agree (E E1 : Env) (a b : Nat) : Env.agree (fun j => !(inR a b j)) E (E.over E1 a b) := by
 intro j hj
 have : ¬ (a ≤ j ∧ j < b) := by
   intro hh
   dsimp only at hj
   rw [inR_ok.2 hh] at hj; cases hj
 simp [Env.over, this]
theorem Env.over_upto (E E1 : Env) {n a : Nat} (h : n ≤ a) (b : Nat) : Env.upto n E (E.over E1 a b) := by
 intro j hj
 have : ¬ (a ≤ j ∧ j < b) := by omega
 simp [Env.over, this]
theorem Env.over_new {E E1 : Env} {a b : Nat} (h : Env.upto a E E1) : Env.upto b E1 (E.over E1 a b) := by
 intro j hj
 by_cases ha : a ≤ j
 · simp [Env.over, ha, hj]
 · have : ¬ (a ≤ j ∧ j < b) := fun h => ha h.1
   simp only [Env.over, this, if_false]
   exact ⟨(h j (by omega)).1.symm, (h j (by omega)).2.symm⟩
section
variable {P : Program} {c : Ctx} {n : Nat} {ops pre : List Oper} {st0 stN : St} {items : List Item} {w0 : World} {M : Nat → Nat → Prop} {E0 E : Env} {D : Nat → Bool} {i : Nat} {it : Item} {a : Act} {w : World}
theorem bnd_out {x : SV} {m a b : Nat} (h : x.bnd m = true) (hk : m ≤ a) : x.kall (fun j => !(inR a b j)) = true := by
 refine SV.kall_mono ?_ x h
 intro j hj
 have hj : j < m := by simpa using hj
 cases hb : inR a b j with
 | false => rfl
 | true => have := (inR_ok.1 hb).1; omega
theorem wCell_agree {S : Stat} {x : Item} {lo hi k j : Nat} {E' : Env} (ha : Env.agree (fun j => !(inR lo hi j)) E E') (h : x.keysOut lo hi = true) : wCell S E' k j x = wCell S E k j x := by
 unfold Item.keysOut at h
 unfold wCell
 split
 · rename_i p k' o y r hact
   rw [hact] at h
   simp only [Deed.kall, Bool.and_eq_true] at h
   rw [SV.cells_agree S ha y h.1.2]
 · rename_i p y r hact
   rw [hact] at h
   simp only [Deed.kall, Bool.and_eq_true] at h
   rw [SV.cells_agree S ha y h.1]
 · rename_i p y len r hact
   rw [hact] at h
   simp only [Deed.kall, Bool.and_eq_true] at h
   rw [SV.cells_agree S ha y h.1]
 · rename_i p f args rs ks outs hi' r hact
   rw [hact] at h
   simp only [Deed.kall, Bool.and_eq_true] at h
   cases ho : outs.get k with
   | none => rfl
   | some y =>
     dsimp only
     rw [SV.cells_agree S ha y (heap_all (f := fun e => e.2.kall fun j => !(inR lo hi j)) h.1.2.2.2 ho)]
 · rfl
theorem Setup.fresh (s : Setup P c n ops pre st0 items stN) (hn : Next ops D i) (hi : items[i]? = some it) {lo hi' : Nat} (hm : it.span = some (lo, hi')) {j : Nat} {x : Item} (hj : items[j]? = some x) (hd : D j = true) :
   x.keysOut lo hi' = true ∧ ∀ k, inR lo hi' k = true → x.makes k = false := by
 have hji : j ≠ i := by intro he; subst he; rw [hn.no] at hd; cases hd
 have far : ∀ {y z : Item}, sameKey y z = false → ∀ {k}, y.makes k = true → z.makes k = true → False := by
   intro y z hs k h1 h2
   unfold Item.makes at h1 h2
   unfold sameKey at hs
   split at h1
   · rename_i a b hy
     split at h2
     · rename_i a' b' hz
       rw [hy, hz] at hs
       simp only [Bool.not_eq_false', Bool.or_eq_true] at hs
       have g1 := inR_ok.1 h1
       have g2 := inR_ok.1 h2
       rcases hs with hs | hs
       · have := Nat.le_of_ble_eq_true hs; omega
       · have := Nat.le_of_ble_eq_true hs; omega
     · cases h2
   · cases h1
 have hmk : ∀ k, inR lo hi' k = true → it.makes k = true := by
   intro k hk
   unfold Item.makes
   rw [hm]
   exact hk
 have hsh : x.shuns it = true → x.keysOut lo hi' = true := by
   intro h
   unfold Item.shuns at h
   rw [hm] at h
   exact h
 rcases Nat.lt_or_gt_of_ne hji with h | h
 · have ha := s.ahead hj hi h
   simp only [YtjemfkoamfnofaaGreat.ahead, Bool.and_eq_true, Bool.not_eq_true'] at ha
   refine ⟨hsh ha.2.2.1, fun k hk => ?_⟩
   cases hx : x.makes k with
   | false => rfl
   | true => exact (far ha.2.1 hx (hmk k hk)).elim
 · have hl := s.behind hn hj hi h hd
   have ha := s.ahead hi hj h
   simp only [YtjemfkoamfnofaaGreat.ahead, Bool.and_eq_true, Bool.not_eq_true'] at ha
   simp only [YtjemfkoamfnofaaGreat.loose, Bool.and_eq_true] at hl
   refine ⟨hsh hl.2.2.2.2, fun k hk => ?_⟩
   cases hx : x.makes k with
   | false => rfl
   | true => exact (far ha.2.1 (hmk k hk) hx).elim
structure Grow (S : Stat) (E E1 : Env) (w w' : World) (lo hi : Nat) (sub outs : Heap) : Prop where
 up : Env.upto lo E E1
 bnd : ∀ k x, outs.get k = some x → k < hi ∧ x.bnd hi = true
 at_ : ∀ k x, outs.get k = some x → 0 < x.size → At w' (E1.ad k) (x.cells S E1)
 wr : ∀ k x, outs.get k = some x → lo ≤ k → 0 < x.size → Wr w' (E1.ad k).block
 dis : ∀ k k' x x', k ≠ k' → outs.get k = some x → outs.get k' = some x' → 0 < x.size → 0 < x'.size → lo ≤ k → apart (E1.ad k) x.size (E1.ad k') x'.size
 old : ∀ k x, outs.get k = some x → k < lo → ∃ x0, sub.get k = some x0 ∧ x0.size = x.size
 keep : ∀ k x0, sub.get k = some x0 → S.ro k = false → ∃ x, outs.get k = some x
 own : ∀ k x, outs.get k = some x → lo ≤ k → (w.heap.size ≤ (E1.ad k).block ∨ ∀ j, j < x.size → MH S E sub (E1.ad k).block ((E1.ad k).off + j))
 fr : Fr w w' (MH S E sub)
theorem step_grow (s : Setup P c n ops pre st0 items stN) (hn : Next ops D i) (hi : items[i]? = some it) (inv : DInv c n w0 M E0 st0 items D E a w)
   {lo hi' : Nat} {sub outs : Heap} {E1 : Env} {w' : World} (hm : it.span = some (lo, hi')) (hg : Grow c.S E E1 w w' lo hi' sub outs)
   (hsz : ∀ k, wSize k it = bif inR lo hi' k then (outs.get k).map SV.size else none)
   (hcl : ∀ E k j, wCell c.S E k j it = match outs.get k with | some y => (y.cells c.S E)[j]? | none => none)
   (hsub : ∀ k x0, sub.get k = some x0 → lastW (wSize k) D items 0 ((st0.heap.get k).map SV.size) = some x0.size ∧ it.keysNot k = false ∧ k < lo)
   (hcr : ∀ k, (∃ x0, sub.get k = some x0) → ∀ j y, items[j]? = some y → i < j → D j = true → ∀ j', wCell c.S (E.over E1 lo hi') k j' y = none)
   (hdn : ∀ d, it.o.dst = some d → d < n ∧ Path.free it.val.1 d = true) {v : Value} (hv1 : PathHolds a it.val.1 → v = it.val.2.den c.S (E.over E1 lo hi')) (hv2 : ¬ PathHolds a it.val.1 → v = undef) :
   DInv c n w0 M E0 st0 items (put1 D i) (E.over E1 lo hi') (a.put it.o.dst v) w' := by
 have hag := E.over_agree E1 lo hi'
 have hle : st0.next ≤ lo := (allPairs_ok ops st0.next items (masks ops []) 0 s.pair).1 i it hi lo hi' hm
 obtain ⟨hb1, hb2⟩ := St.bnd_ok s.bnd
 have hfr := hg.fr
 have hnew := Env.over_new (b := hi') hg.up
 have hadN : ∀ k x, outs.get k = some x → (E.over E1 lo hi').ad k = E1.ad k := fun k x hk => (hnew k (hg.bnd k x hk).1).1
 have hceN : ∀ k x, outs.get k = some x → x.cells c.S (E.over E1 lo hi') = x.cells c.S E1 := fun k x hk => SV.cells_upto c.S hnew x (hg.bnd k x hk).2
 have hadO : ∀ k, inR lo hi' k = false → (E.over E1 lo hi').ad k = E.ad k := fun k hk => (hag k (by simp [hk])).1
 have hsz0 : ∀ k, inR lo hi' k = false → wSize k it = none := fun k hk => by rw [hsz, hk]; rfl
 have hsizes : ∀ k, inR lo hi' k = false → lastW (wSize k) (put1 D i) items 0 ((st0.heap.get k).map SV.size) = lastW (wSize k) D items 0 ((st0.heap.get k).map SV.size) := fun k hk => ins_none _ hi hn (hsz0 k hk) _
 have hold : ∀ k, inR lo hi' k = true → lastW (wSize k) D items 0 ((st0.heap.get k).map SV.size) = none := by
   intro k hk
   have hge := (inR_ok.1 hk).1
   have hgn : st0.heap.get k = none := by
     cases hgg : st0.heap.get k with
     | none => rfl
     | some x => have := (hb2 k x hgg).1; omega
   rw [hgn]
   refine lastW_none _ D _ 0 _ fun j x hj hd => ?_
   rw [Nat.zero_add] at hd
   cases hw : wSize k x with
   | none => rfl
   | some L => have h1 := made_of_size hw; rw [(s.fresh hn hi hm hj hd).2 k hk] at h1; cases h1
 have hnewsize : ∀ k, inR lo hi' k = true → lastW (wSize k) (put1 D i) items 0 ((st0.heap.get k).map SV.size) = (outs.get k).map SV.size := by
   intro k hk
   rw [lastW_insert _ D (put1 D i) items i it hi _ hn.no (by simp [put1]) (fun j hj => by simp [put1, hj]), hsz, hk, hold k hk]
   · cases outs.get k <;> rfl
   · intro _ j x hj hlt hd
     cases hw : wSize k x with
     | none => rfl
     | some L => have h1 := made_of_size hw; rw [(s.fresh hn hi hm hj hd).2 k hk] at h1; cases h1
 have hbase : ∀ (k j : Nat), ((st0.heap.get k).bind fun x => (x.cells c.S (E.over E1 lo hi'))[j]?) = ((st0.heap.get k).bind fun x => (x.cells c.S E)[j]?) := by
   intro k j
   cases hgg : st0.heap.get k with
   | none => rfl
   | some x => simp only [Option.bind_some]; rw [SV.cells_agree c.S hag x (bnd_out (hb2 k x hgg).2 hle)]
 have hcells : ∀ (k j : Nat) (a : Option Value), lastW (wCell c.S (E.over E1 lo hi') k j) D items 0 a = lastW (wCell c.S E k j) D items 0 a := by
   intro k j a
   refine lastW_congr _ _ D D items 0 a fun j' x hj' => ⟨rfl, fun hd => ?_⟩
   rw [Nat.zero_add] at hd
   exact wCell_agree hag (s.fresh hn hi hm hj' hd).1
 -- what lay there, and isn't turned
 have hother : ∀ k L, lastW (wSize k) D items 0 ((st0.heap.get k).map SV.size) = some L → 0 < L → outs.get k = none → ∀ b j, b = (E.ad k).block → (E.ad k).off ≤ j → j < (E.ad k).off + L → ¬ MH c.S E sub b j := by
   rintro k L h hL ho b j hb h1 h2 ⟨k1, x1, hk1, hro, hb1, hlo, hhi⟩
   have hne : k1 ≠ k := by
     intro he; subst he
     obtain ⟨x, hx⟩ := hg.keep k1 x1 hk1 hro
     rw [hx] at ho; cases ho
   rcases inv.dis k1 k x1.size L hne (hsub k1 x1 hk1).1 h (by omega) hL hro with hd | hd | hd
   · exact hd (by rw [← hb1, ← hb])
   · omega
   · omega
 -- a new chunk, and one that was there
 have hcross : ∀ k x k' L', outs.get k = some x → lo ≤ k → 0 < x.size → inR lo hi' k' = false → lastW (wSize k') D items 0 ((st0.heap.get k').map SV.size) = some L' → 0 < L' → apart (E1.ad k) x.size (E.ad k') L' := by
   intro k x k' L' hk hlok hp hk' h' hp'
   cases ho : outs.get k' with
   | some x' =>
     have hlt : k' < lo := by
       have := (hg.bnd k' x' ho).1
       refine Nat.lt_of_not_le fun hh => ?_
       rw [inR_ok.2 ⟨hh, this⟩] at hk'; cases hk'
     obtain ⟨x0, hx0, hs0⟩ := hg.old k' x' ho hlt
     have hL : L' = x'.size := by
       have := (hsub k' x0 hx0).1
       rw [h'] at this; injection this with this; omega
     have := hg.dis k k' x x' (by omega) hk ho hp (by omega) hlok
     rw [(hg.up k' hlt).1, ← hL] at this
     exact this
   | none =>
     obtain ⟨vs, b1, b2, b3, b4⟩ := inv.mem k' L' h' hp'
     rcases hg.own k x hk hlok with hge | hmm
     · refine .inl ?_
       have := b3.lt
       omega
     · refine apart_of (fun j hj hbl h1 h2 => ?_) hp hp'
       exact hother k' L' h' hp' ho _ _ hbl h1 h2 (hmm j hj)
 refine ⟨inv.up.trans (E.over_upto E1 hle hi') (Nat.le_refl _), s.slots_step hn hi inv.size ?_ hdn hv1 hv2, ?_, ?_, ?_, ?_, by rw [Act.put_size]; exact inv.size, by rw [Act.put_defers']; exact inv.defers⟩
 · intro t p x h
   have hx : x.kall (fun j => !(inR lo hi' j)) = true := by
     rcases lastW_mem _ D items 0 _ _ h with h0 | ⟨j, z, hj, hd, hz⟩
     · exact bnd_out (slots_all hb1 h0) hle
     · rw [Nat.zero_add] at hd
       have hk := (s.fresh hn hi hm hj hd).1
       unfold wSlot at hz
       cases hdz : isDst z.o.dst t with
       | false => rw [hdz] at hz; cases hz
       | true =>
         rw [hdz] at hz
         simp only [cond_true, Option.some.injEq] at hz
         unfold Item.val at hz
         unfold Item.keysOut at hk
         split at hz
         · rename_i q dd xx hact
           rw [hact] at hk
           simp only [Bool.and_eq_true] at hk
           injection hz with e1 e2
           subst e2
           cases xx with
           | none => rfl
           | some u => exact hk.2
         · injection hz with e1 e2; subst e2; rfl
   rw [SV.den_agree c.S hag x hx]
   exact inv.slots t p x h
 · intro k L h hLp
   cases ho : outs.get k with
   | some x =>
     have hL : L = x.size ∧ (∀ j, j < x.size → (x.cells c.S E1)[j]? = lastW (wCell c.S (E.over E1 lo hi') k j) (put1 D i) items 0 ((st0.heap.get k).bind fun x => (x.cells c.S (E.over E1 lo hi'))[j]?)) ∧
         ((∀ x, st0.heap.get k = some x → NoTup (x.cells c.S E0)) → c.S.ro k = false → Wr w' (E1.ad k).block) := by
       cases hr : inR lo hi' k with
       | true =>
         have hgek := (inR_ok.1 hr).1
         rw [hnewsize k hr, ho] at h
         have e : x.size = L := Option.some.inj h
         refine ⟨e.symm, fun j hj => ?_, fun _ _ => hg.wr k x ho hgek (by omega)⟩
         rw [lastW_insert _ D (put1 D i) items i it hi _ hn.no (by simp [put1]) (fun j hj => by simp [put1, hj]), hcl, ho]
         · dsimp only
           rw [hceN k x ho]
           obtain ⟨u, hu⟩ : ∃ u, (x.cells c.S E1)[j]? = some u := ⟨_, List.getElem?_eq_getElem (by rw [SV.len]; exact hj)⟩
           rw [hu, ov_some]
         · intro _ j' y hj' hlt hd
           have hf := s.fresh hn hi hm hj' hd
           have hkn := keysNot_of hf.1 hr
           cases hw : wCell c.S (E.over E1 lo hi') k j y with
           | none => rfl
           | some u =>
             exfalso
             rcases wCell_cases hw with h1 | ⟨p, o, z, r, h1, _⟩ | ⟨p, f, args, rs, ks, outs', hi2, r, h1, hh⟩
             · rw [hf.2 k hr] at h1; cases h1
             · unfold Item.keysNot at hkn
               rw [h1] at hkn
               simp [Deed.kall] at hkn
             · unfold Item.keysNot at hkn
               rw [h1] at hkn
               simp only [Deed.kall, Bool.and_eq_true] at hkn
               have := List.all_eq_true.1 hkn.1.2.1 k (hasN_mem _ _ hh)
               simp at this
       | false =>
         have hlt : k < lo := by
           have := (hg.bnd k x ho).1
           refine Nat.lt_of_not_le fun hh => ?_
           rw [inR_ok.2 ⟨hh, this⟩] at hr; cases hr
         obtain ⟨x0, hx0, hs0⟩ := hg.old k x ho hlt
         rw [hsizes k hr, (hsub k x0 hx0).1] at h
         have e : x0.size = L := Option.some.inj h
         refine ⟨by omega, fun j hj => ?_, fun hnt hro => ?_⟩
         · rw [lastW_insert _ D (put1 D i) items i it hi _ hn.no (by simp [put1]) (fun j hj => by simp [put1, hj]), hcl, ho]
           · dsimp only
             rw [hceN k x ho]
             obtain ⟨u, hu⟩ : ∃ u, (x.cells c.S E1)[j]? = some u := ⟨_, List.getElem?_eq_getElem (by rw [SV.len]; exact hj)⟩
             rw [hu, ov_some]
           · intro _ j' y hj' hlt hd
             exact hcr k ⟨x0, hx0⟩ j' y hj' hlt hd j
         · obtain ⟨vs, b1, b2, b3, b4⟩ := inv.mem k x0.size (hsub k x0 hx0).1 (by omega)
           rw [(hg.up k hlt).1]
           exact (b4 hnt hro).fr hfr
     obtain ⟨e, h2, h3⟩ := hL
     subst e
     rw [hadN k x ho]
     exact ⟨x.cells c.S E1, SV.len c.S E1 x, h2, hg.at_ k x ho hLp, h3⟩
   | none =>
     have hr : inR lo hi' k = false := by
       cases hr : inR lo hi' k with
       | false => rfl
       | true => rw [hnewsize k hr, ho] at h; cases h
     rw [hsizes k hr] at h
     obtain ⟨vs, a1, a2, a3, a4⟩ := inv.mem k L h hLp
     rw [hadO k hr]
     refine ⟨vs, a1, fun j hj => ?_, a3.fr hfr (fun j hj => hother k L h hLp ho _ _ rfl (by omega) (by omega)), fun hnt hr => (a4 hnt hr).fr hfr⟩
     rw [ins_none _ hi hn (by rw [hcl, ho]), hcells, hbase]
     exact a2 j hj
 · intro k k' L L' hne h h' hp hp' hr
   cases hk : inR lo hi' k with
   | true =>
     rw [hnewsize k hk] at h
     cases ho : outs.get k with
     | none => rw [ho] at h; cases h
     | some x =>
       rw [ho] at h
       obtain rfl : x.size = L := Option.some.inj h
       rw [hadN k x ho]
       have hgek := (inR_ok.1 hk).1
       cases hk' : inR lo hi' k' with
       | true =>
         rw [hnewsize k' hk'] at h'
         cases ho' : outs.get k' with
         | none => rw [ho'] at h'; cases h'
         | some x' =>
           rw [ho'] at h'
           obtain rfl : x'.size = L' := Option.some.inj h'
           rw [hadN k' x' ho']
           exact hg.dis k k' x x' hne ho ho' hp hp' hgek
       | false =>
         rw [hsizes k' hk'] at h'
         rw [hadO k' hk']
         exact hcross k x k' L' ho hgek hp hk' h' hp'
   | false =>
     rw [hsizes k hk] at h
     rw [hadO k hk]
     cases hk' : inR lo hi' k' with
     | true =>
       rw [hnewsize k' hk'] at h'
       cases ho' : outs.get k' with
       | none => rw [ho'] at h'; cases h'
       | some x' =>
         rw [ho'] at h'
         obtain rfl : x'.size = L' := Option.some.inj h'
         rw [hadN k' x' ho']
         exact (hcross k' x' k L ho' (inR_ok.1 hk').1 hp' hk h hp).symm
     | false =>
       rw [hsizes k' hk'] at h'
       rw [hadO k' hk']
       exact inv.dis k k' L L' hne h h' hp hp' hr
 · intro k L h hr
   cases hk : inR lo hi' k with
   | true =>
     rw [hnewsize k hk] at h
     cases ho : outs.get k with
     | none => rw [ho] at h; cases h
     | some x =>
       rw [ho] at h
       obtain rfl : x.size = L := Option.some.inj h
       rw [hadN k x ho]
       rcases hg.own k x ho (inR_ok.1 hk).1 with hge | hmm
       · exact .inl (Nat.le_trans inv.fr.size hge)
       · by_cases hlt : (E1.ad k).block < w0.heap.size
         · refine .inr fun j hj => ?_
           obtain ⟨k2, x2, hk2, hr2, he, hlo, hhi⟩ := hmm j hj
           rcases inv.own k2 x2.size (hsub k2 x2 hk2).1 hr2 with h | h
           · omega
           · have := h ((E1.ad k).off + j - (E.ad k2).off) (by omega)
             rw [← he] at this
             rwa [show (E.ad k2).off + ((E1.ad k).off + j - (E.ad k2).off) = (E1.ad k).off + j from by omega] at this
         · exact .inl (Nat.le_of_not_lt hlt)
   | false =>
     rw [hsizes k hk] at h
     rw [hadO k hk]
     exact inv.own k L h hr
 · refine inv.fr.trans hfr ?_
   rintro b j hlt ⟨k, x, hk, hr, rfl, hlo, hhi⟩
   rcases inv.own k x.size (hsub k x hk).1 hr with h | h
   · omega
   · have := h (j - (E.ad k).off) (by omega)
     rwa [show (E.ad k).off + (j - (E.ad k).off) = j from by omega] at this
theorem step_new (s : Setup P c n ops pre st0 items stN) (hn : Next ops D i) (hi : items[i]? = some it) (inv : DInv c n w0 M E0 st0 items D E a w)
   {y : SV} {κ : Nat} (hm : it.span = some (κ, Nat.add κ 1)) (hsz : ∀ k, wSize k it = bif Nat.beq κ k then some y.size else none) (hcell : ∀ E k j, wCell c.S E k j it = bif Nat.beq κ k then (y.cells c.S E)[j]? else none) (hyone : y.one = true) (hyk : y.bnd κ = true)
   (hdn : ∀ d, it.o.dst = some d → d < n ∧ Path.free it.val.1 d = true) {v : Value} (hv1 : PathHolds a it.val.1 → ∀ E' : Env, E'.ad κ = ⟨w.heap.size, 0, none⟩ → v = it.val.2.den c.S E') (hv2 : ¬ PathHolds a it.val.1 → v = undef) (t : TypeId) :
   ∃ E', DInv c n w0 M E0 st0 items (put1 D i) E' (a.put it.o.dst v) (w.alloc (.cells (y.cells c.S E).toArray t)) := by
 have hbeq : ∀ k, inR κ (Nat.add κ 1) k = Nat.beq κ k := by
   intro k
   rw [Bool.eq_iff_iff, inR_ok, Nat.beq_eq]
   show κ ≤ k ∧ k < κ + 1 ↔ κ = k
   omega
 have hget : ∀ k, Heap.get [(κ, y)] k = bif Nat.beq κ k then some y else none := fun k => rfl
 have hgs : ∀ k x, Heap.get [(κ, y)] k = some x → k = κ ∧ x = y := by
   intro k x h
   rw [hget] at h
   cases hb : Nat.beq κ k with
   | true => rw [hb] at h; exact ⟨(Nat.eq_of_beq_eq_true hb).symm, (Option.some.inj h).symm⟩
   | false => rw [hb] at h; cases h
 let E1 : Env := { ad := fun j => if j = κ then ⟨w.heap.size, 0, none⟩ else E.ad j, cp := E.cp }
 have hup : Env.upto κ E E1 := fun j hj => by
   have : j ≠ κ := by omega
   simp [E1, this]
 have hE1 : E1.ad κ = ⟨w.heap.size, 0, none⟩ := by simp [E1]
 have hyc : y.cells c.S E1 = y.cells c.S E := SV.cells_upto c.S hup y hyk
 have hyb : y.bnd (Nat.add κ 1) = true := SV.kall_mono (fun k hk => by
   have : k < κ := by simpa using hk
   simp; omega) y hyk
 have hg : Grow c.S E E1 w (w.alloc (.cells (y.cells c.S E).toArray t)) κ (Nat.add κ 1) [] [(κ, y)] := by
   refine ⟨hup, ?_, ?_, ?_, ?_, ?_, fun k x0 h => by simp [Heap.get] at h, ?_, Fr.alloc w _ _⟩
   · intro k x h
     obtain ⟨rfl, rfl⟩ := hgs k x h
     exact ⟨Nat.lt_succ_self _, hyb⟩
   · intro k x h hp
     obtain ⟨rfl, rfl⟩ := hgs k x h
     rw [hE1, hyc]
     exact At.alloc w _ t (SV.one_cells c.S E x hyone)
   · intro k x h _ _
     obtain ⟨rfl, rfl⟩ := hgs k x h
     rw [hE1]
     exact Wr.alloc w _ t
   · intro k k' x x' hne h h'
     exact absurd ((hgs k x h).1.trans (hgs k' x' h').1.symm) hne
   · intro k x h hlt
     have := (hgs k x h).1
     omega
   · intro k x h _
     obtain ⟨rfl, rfl⟩ := hgs k x h
     rw [hE1]
     exact .inl (Nat.le_refl _)
 refine ⟨E.over E1 κ (Nat.add κ 1), step_grow s hn hi inv hm hg (fun k => ?_) (fun E k j => ?_) (fun k x0 h => by simp [Heap.get] at h) (fun k ⟨x0, h⟩ => by simp [Heap.get] at h) hdn (fun hp => hv1 hp _ ?_) hv2⟩
 · rw [hsz, hbeq, hget]
   cases Nat.beq κ k <;> rfl
 · rw [hcell, hget]
   cases Nat.beq κ k <;> rfl
 · rw [((Env.over_new (b := Nat.add κ 1) hup) κ (Nat.lt_succ_self _)).1]
   exact hE1
theorem bad_sel {α : Type} {r : α} (h : (Out.bad : Out α).sel = some r) : False := by
 have : (none : Option α) = some r := h
 cases this
theorem step_wp (s : Setup P c n ops pre st0 items stN) (hwin : WinOk c.S c.win E0) (hwb : ∀ n j k z, (n, j, k, z) ∈ c.win → k < st0.next) {Q : Exit → Act → World → Prop}
   (hn : Next ops D i) (hi : items[i]? = some it) (inv : DInv c n w0 M E0 st0 items D E a w) :
   wpOp P ops.toArray Q i (fun a w => ∃ E', DInv c n w0 M E0 st0 items (put1 D i) E' a w) a w := by
 obtain ⟨o, sti, sti1, ho, hito, hkey, htf, hstep⟩ := s.at hi
 subst hito
 have hread : ∀ t ∈ namesOf ops it.o, (slotsL D items 0 st0.slots).get t = sti.slots.get t := fun t ht => s.reads hn hi htf ht
 have hguard : guarded (slotsL D items 0 st0.slots) ops it.o = guarded sti.slots ops it.o := by
   refine guarded_congr ops it.o fun j b d hg hd => hread d ?_
   unfold namesOf
   rw [hg]
   simp [hd]
 have hplan : ∀ p, plan c (slotsL D items 0 st0.slots) p it.o = plan c sti.slots p it.o := fun p => plan_congr c it.o p fun t ht => hread t (by unfold namesOf; exact List.mem_append_left _ ht)
 have hso := inv.slotsOk
 have hwE : WinOk c.S c.win E := hwin.upto inv.up hwb
 unfold wpOp
 have hoi : ops.toArray[i]? = some it.o := by simpa using ho
 rw [hoi]
 simp only
 unfold stepItem at hstep
 rw [← hguard] at hstep
 split at hstep
 · cases hstep
 · rename_i hg
   split at hstep
   · rename_i s' hput
     simp only [Option.some.injEq, Prod.mk.injEq] at hstep
     obtain ⟨hit, _⟩ := hstep
     have hact : it.act = none := by rw [← hit]
     have hval : it.val = ([], .v undef) := by unfold Item.val; rw [hact]
     have hw := (guarded_ok hg hso).2 rfl
     rw [if_neg (by rw [hw]; exact Bool.false_ne_true)]
     refine ⟨E, inv.quiet s hn hi (Fr.refl _ _) (fun k => by simp [wSize, hact, settle]) (fun k j => by simp [wCell, hact, settle]) ?_ (fun _ => by rw [hval]; rfl) (fun _ => rfl)⟩
     intro d hd
     rw [hval]
     unfold putSlot at hput
     rw [hd] at hput
     dsimp only at hput
     cases hb : (Nat.blt d n && (sti.slots.all fun e => Path.free e.2.1 d) && Path.free [] d) with
     | false => rw [hb] at hput; cases hput
     | true =>
       simp only [Bool.and_eq_true] at hb
       exact ⟨by simpa using hb.1.1, rfl⟩
   · cases hstep
 · rename_i p hg
   obtain ⟨hw1, hw2⟩ := (guarded_ok hg hso).1 p rfl
   split at hstep
   · cases hstep
   · rename_i d hd
     rw [← hplan] at hd
     split at hstep
     · rename_i sd cd r hsd
       split at hstep
       · rename_i s' hput
         simp only [Option.some.injEq, Prod.mk.injEq] at hstep
         obtain ⟨hit, _⟩ := hstep
         have hcd : okC cd = true := by
           have := s.cnd it (List.mem_of_getElem? hi)
           rw [← hit] at this
           exact this
         have hact : it.act = some (p, sd, r.1) := by rw [← hit]
         have hval : it.val = (p, svOf r.1) := by unfold Item.val; rw [hact]
         have hkey' : it.key = sti.next := hkey
         have hdn : ∀ d, it.o.dst = some d → d < n ∧ Path.free it.val.1 d = true := by
           intro d' hd'
           rw [hval]
           unfold putSlot at hput
           rw [hd'] at hput
           dsimp only at hput
           cases hb : (Nat.blt d' n && (sti.slots.all fun e => Path.free e.2.1 d') && Path.free p d') with
           | false => rw [hb] at hput; cases hput
           | true =>
             simp only [Bool.and_eq_true] at hb
             exact ⟨by simpa using hb.1.1, hb.2⟩
         rcases stepD_cases hsd with ⟨hcalm, rfl, hr⟩ | ⟨hq, f, args, A, hsrc, rfl, rfl, rfl⟩
         · replace hr := Out.one_sel hr hcd
           by_cases hp : PathHolds a p
           · rw [if_pos (hw1 hp)]
             refine .inl ?_
             have hdoes := plan_ok s.full hwE hso hp hd
             have hpv : PathHolds a it.val.1 := by rw [hval]; exact hp
             unfold Oper.wp
             cases d with
             | yield x =>
               simp only [perform, Out.sel, Option.some.injEq] at hr
               subst hr
               rw [hdoes w, Oper.upon_value]
               exact ⟨E, inv.quiet s hn hi (Fr.refl _ _) (fun k => by simp [wSize, hact, settle]) (fun k j => by simp [wCell, hact, settle]) hdn (fun _ => by rw [hval]; rfl) (fun hh => absurd hpv hh)⟩
             | test b x =>
               simp only [perform] at hr
               obtain ⟨hb, rfl⟩ := Out.when_sel hr
               rw [hdoes hb w, Oper.upon_value]
               exact ⟨E, inv.quiet s hn hi (Fr.refl _ _) (fun k => by simp [wSize, hact, settle]) (fun k j => by simp [wCell, hact, settle]) hdn (fun _ => by rw [hval]; rfl) (fun hh => absurd hpv hh)⟩
             | load k of m g =>
               simp only [perform] at hr
               split at hr
               · rename_i x hx
                 split at hr
                 · rename_i y hy
                   obtain ⟨cy, y⟩ := y
                   obtain ⟨hcy, rfl⟩ := Out.when_sel hr
                   have hat := step_load s hn hi htf inv hact hx hy hcy
                   obtain ⟨⟨h1, h2, h3, h4⟩, _⟩ := SV.partO_ok c.S E (htf.fo _ _ hx) hy hcy
                   rw [hdoes w y h1 h3 (SV.partO_one hy).2 hat, Oper.upon_value]
                   exact ⟨E, inv.quiet s hn hi (Fr.refl _ _) (fun k => by simp [wSize, hact, settle]) (fun k j => by simp [wCell, hact, settle]) hdn (fun _ => by rw [hval]; rfl) (fun hh => absurd hpv hh)⟩
                 · cases hr
               · cases hr
             | store k of y =>
               simp only [perform] at hr
               cases hq : ((!(isNilP p)) || (c.S.ro k || !y.one)) with
               | true => rw [hq] at hr; cases hr
               | false =>
                 rw [hq] at hr
                 simp only [cond_false] at hr
                 simp only [Bool.or_eq_false_iff, Bool.not_eq_false'] at hq
                 split at hr
                 · rename_i x hx
                   split at hr
                   · rename_i z hz
                     obtain ⟨cz, z⟩ := z
                     obtain ⟨hcz, rfl⟩ := Out.when_sel hr
                     obtain ⟨w', hrun, hinv⟩ := step_store (P := P) s hn hi htf inv hact hx hz hcz hq.2.1 hq.2.2 hdn (fun _ => by rw [hval]; rfl)
                     rw [hdoes w w' hrun, Oper.upon_skip]
                     exact ⟨E, hinv⟩
                   · cases hr
                 · cases hr
             | new y =>
               simp only [perform] at hr
               cases hq : (!(isNilP p)) with
               | true => rw [hq] at hr; cases hr
               | false =>
                 rw [hq] at hr
                 simp only [cond_false] at hr
                 cases hb : (sti.bnd && (y.bnd sti.next && y.one) && !(c.S.ro sti.next)) with
                 | false => rw [hb] at hr; cases hr
                 | true =>
                   rw [hb] at hr
                   simp only [cond_true, Out.sel, Option.some.injEq] at hr
                   subst hr
                   simp only [Bool.and_eq_true] at hb
                   obtain ⟨t, ht⟩ := hdoes w
                   rw [ht, Oper.upon_value]
                   have hmade : it.span = some (sti.next, Nat.add sti.next 1) := by unfold Item.span; rw [hact, ← hkey']; rfl
                   refine step_new (y := y) s hn hi inv hmade (fun k => by simp [wSize, hact, settle, hkey']) (fun E k j => by simp [wCell, hact, settle, hkey']) hb.1.2.2 hb.1.2.1 hdn (fun _ E' hE' => ?_) (fun hh => absurd hpv hh) t
                   rw [hval]
                   simp [svOf, SV.den, Env.place, hE']
             | newSlice y len =>
               simp only [perform] at hr
               cases hq : (!(isNilP p)) with
               | true => rw [hq] at hr; cases hr
               | false =>
                 rw [hq] at hr
                 simp only [cond_false] at hr
                 cases hb : (sti.bnd && (y.bnd sti.next && y.one) && !(c.S.ro sti.next)) with
                 | false => rw [hb] at hr; cases hr
                 | true =>
                   rw [hb] at hr
                   simp only [cond_true, Out.sel, Option.some.injEq] at hr
                   subst hr
                   simp only [Bool.and_eq_true] at hb
                   obtain ⟨t, ht⟩ := hdoes w
                   rw [ht, Oper.upon_value]
                   have hmade : it.span = some (sti.next, Nat.add sti.next 1) := by unfold Item.span; rw [hact, ← hkey']; rfl
                   refine step_new (y := y) s hn hi inv hmade (fun k => by simp [wSize, hact, settle, hkey']) (fun E k j => by simp [wCell, hact, settle, hkey']) hb.1.2.2 hb.1.2.1 hdn (fun _ E' hE' => ?_) (fun hh => absurd hpv hh) t
                   rw [hval]
                   simp [svOf, SV.den, Env.place, hE']
             | emp => simp [calm] at hcalm
             | copy b k m z => simp [calm] at hcalm
             | join b k m z => simp [calm] at hcalm
             | newMap z => simp [calm] at hcalm
             | newRow R l t => simp [calm] at hcalm
             | amend k kk u => simp [calm] at hcalm
             | insert k kk m y => simp [calm] at hcalm
             | look k kk q =>
               simp only [perform] at hr
               split at hr
               · rename_i v0 l hl
                 split at hr
                 · rename_i y hy
                   obtain ⟨cdd, y⟩ := y
                   obtain ⟨hcdd, rfl⟩ := Out.when_sel hr
                   have hact' : it.act = some (p, .read 0 [q] [k], some y) := by rw [hact]; rfl
                   have hat := step_read s hn hi htf inv hact' List.mem_cons_self hl (by simp [SV.size])
                   obtain ⟨hoff, es, clk, hb, ht, _⟩ := At.entries (t := (SV.dens c.S E (v0 :: l)).toArray) hat
                   have hden : SV.dens c.S E l = es.toList.map tupM := (mapT_split (v := v0.den c.S E) (l := SV.dens c.S E l) ht).2
                   rw [hdoes w es clk l cdd y hb hden hy hcdd, Oper.upon_value]
                   exact ⟨E, inv.quiet s hn hi (Fr.refl _ _) (fun k => by simp [wSize, hact']) (fun k j => by simp [wCell, hact']) hdn (fun _ => by rw [hval]; rfl) (fun hh => absurd hpv hh)⟩
                 · cases hr
               · cases hr
             | ask k kk q =>
               simp only [perform] at hr
               split at hr
               · rename_i T hT
                 cases hkk : (T.kk == kk) with
                 | false => rw [hkk] at hr; cases hr
                 | true =>
                   rw [hkk] at hr
                   simp only [cond_true] at hr
                   split at hr
                   · rename_i y hy
                     simp only [Out.sel, Option.some.injEq] at hr
                     subst hr
                     have hact' : it.act = some (p, .read 0 [] [k], some y) := by rw [hact]; rfl
                     have hat := step_read s hn hi htf inv hact' List.mem_cons_self hT (by simp [SV.size])
                     obtain ⟨hoff, es, clk, hb, ht, _⟩ := At.entries (t := T.all.toArray) hat
                     have hden : T.ents = es.toList.map tupM := (mapT_split ht).2
                     rw [hdoes w es clk T y hb (beq_iff_eq.1 hkk) hden hy, Oper.upon_value]
                     exact ⟨E, inv.quiet s hn hi (Fr.refl _ _) (fun k => by simp [wSize, hact']) (fun k j => by simp [wCell, hact']) hdn (fun _ => by rw [hval]; rfl) (fun hh => absurd hpv hh)⟩
                   · cases hr
               · cases hr
             | read f args ks => cases hr
             | act f args rs ks outs hi => cases hr
             | call f args =>
               unfold calm at hcalm
               simp only [perform] at hr
               split at hr
               · rename_i y hy
                 obtain ⟨y, ks, cdd⟩ := y
                 obtain ⟨hcdd, rfl⟩ := Out.when_sel hr
                 have hact' : it.act = some (p, .read f args ks, some y) := by rw [hact]; simp only [settle, hy]
                 obtain ⟨hfn, hcall⟩ := s.full.read f args sti.heap sti.next y ks cdd hy hcdd
                 rw [hdoes hfn w, Oper.upon_enter]
                 refine (hcall E w (fun k x hk hx => ⟨fun hxp => step_read s hn hi htf inv hact' hk hx hxp, htf.fo k x hx⟩) hwE).mono ?_
                 rintro e w' ⟨rfl, hfr⟩
                 exact ⟨E, inv.quiet s hn hi hfr (fun k => by simp [wSize, hact']) (fun k j => by simp [wCell, hact']) hdn (fun _ => by rw [hval]; rfl) (fun hh => absurd hpv hh)⟩
               · rename_i hno
                 dsimp only at hcalm
                 rw [hno] at hcalm; cases hcalm
           · rw [if_neg (by rw [hw2 hp]; exact Bool.false_ne_true)]
             have hq : (!(isNilP p)) = true := by
               cases hb : isNilP p with
               | false => rfl
               | true => exact absurd (by rw [isNilP_ok hb]; intro t b hm; cases hm) hp
             rw [hq] at hr
             have hnp : ¬ PathHolds a it.val.1 := by rw [hval]; exact hp
             refine ⟨E, inv.quiet s hn hi (Fr.refl _ _) ?_ ?_ hdn (fun hh => absurd hh hnp) (fun _ => rfl)⟩
             · intro k
               unfold wSize
               rw [hact]
               cases d <;> simp [perform, settle] at hr ⊢
               all_goals first | (exact (bad_sel hr).elim) | (split at hr <;> first | rfl | (exact (bad_sel hr).elim))
             · intro k j
               unfold wCell
               rw [hact]
               cases d <;> simp [perform, settle] at hr ⊢
               all_goals first | (exact (bad_sel hr).elim) | (split at hr <;> first | rfl | (exact (bad_sel hr).elim))
         · obtain ⟨hvb, hF⟩ := hsrc.facts hcd
           have hpn : p = [] := isNilP_ok (by simpa using hq)
           have hp : PathHolds a p := by rw [hpn]; intro t b hm; cases hm
           rw [if_pos (hw1 hp)]
           refine .inl ?_
           have hdoes := plan_ok s.full hwE hso hp hd
           have hpv : PathHolds a it.val.1 := by rw [hval]; exact hp
           unfold Oper.wp
           have hspan : it.span = some (sti.next, A.hi) := by unfold Item.span; rw [hact, ← hkey']
           have hnames : ∀ k, k ∈ A.ks → it.keysNot k = false := by
             intro k hk
             unfold Item.keysNot
             rw [hact]
             have : (A.ks.all fun j => !(Nat.beq j k)) = false := by
               cases hb : (A.ks.all fun j => !(Nat.beq j k)) with
               | false => rfl
               | true => have := List.all_eq_true.1 hb k hk; simp at this
             simp only [Deed.kall, this, Bool.false_and, Bool.and_false]
           have hnamesR : ∀ k, k ∈ A.rs → it.keysNot k = false := by
             intro k hk
             unfold Item.keysNot
             rw [hact]
             have : (A.rs.all fun j => !(Nat.beq j k)) = false := by
               cases hb : (A.rs.all fun j => !(Nat.beq j k)) with
               | false => rfl
               | true => have := List.all_eq_true.1 hb k hk; simp at this
             simp only [Deed.kall, this, Bool.false_and]
           have hsize : ∀ k x, (heapOf A.ks sti.heap).get k = some x → lastW (wSize k) D items 0 ((st0.heap.get k).map SV.size) = some x.size := by
             intro k x hk
             obtain ⟨g1, g2⟩ := heapOf_get hk
             rw [s.chunk hn hi htf (hnames k g2), g1]
             rfl
           have hatm : ∀ k x, (k ∈ A.rs ∨ k ∈ A.ks) → sti.heap.get k = some x → 0 < x.size → At w (E.ad k) (x.cells c.S E) := by
             intro k x hkm g1 hxp
             have hnk : it.keysNot k = false := hkm.elim (hnamesR k) (hnames k)
             have hsz : lastW (wSize k) D items 0 ((st0.heap.get k).map SV.size) = some x.size := by
               rw [s.chunk hn hi htf hnk, g1]
               rfl
             obtain ⟨vs, a1, a2, a3, a4⟩ := inv.mem k x.size hsz hxp
             have hxl := SV.len c.S E x
             have heq : vs = x.cells c.S E := by
               apply List.ext_getElem?
               intro j
               by_cases hj : j < x.size
               · rw [a2 j hj]
                 refine s.cell hn hi htf E hnk (fun z hl => ⟨?_, ?_⟩) g1 hj
                 · rintro q o' y' r' hz ⟨hz1, hz2⟩
                   have hcl : (hasN A.rs k || hasN A.ks k) = false := by
                     rcases hl with hl | hl
                     · have := clash_of hl hz hact
                       simpa [clash] using this
                     · have := clash_of hl hact hz
                       simpa [clash] using this
                   simp only [Bool.or_eq_false_iff] at hcl
                   exact hkm.elim (hasN_false hcl.1) (hasN_false hcl.2)
                 · intro q f' args' rs' ks' outs' hi2 r' hz
                   rcases hl with hl | hl
                   · have := clash_of hl hz hact
                     simp [clash] at this
                   · have := clash_of hl hact hz
                     simp [clash] at this
               · rw [List.getElem?_eq_none (by omega), List.getElem?_eq_none (by omega)]
             rw [← heq]; exact a3
           have hatk : ∀ k x, (heapOf A.ks sti.heap).get k = some x → 0 < x.size → At w (E.ad k) (x.cells c.S E) := fun k x hk hxp => hatm k x (.inr (heapOf_get hk).2) (heapOf_get hk).1 hxp
           have hs : HS c.S E (heapOf A.ks sti.heap) w := by
             refine ⟨hatk, fun k x hk hxp hnt hro => ?_, fun k k' x x' hne hk hk' hp1 hp2 hro => ?_, fun k x hk => htf.fo k x (heapOf_get hk).1⟩
             · obtain ⟨g1, g2⟩ := heapOf_get hk
               obtain ⟨vs, a1, a2, a3, a4⟩ := inv.mem k x.size (hsize k x hk) hxp
               refine a4 (fun x0 hx0 => Classical.byContradiction fun hh => ?_) hro
               obtain ⟨y', hy', hy2⟩ := htf.tup E0 k x0 hx0 hh
               rw [g1] at hy'; injection hy' with hy'; subst hy'
               exact hy2 E hnt
             · exact inv.dis k k' x.size x'.size hne (hsize k x hk) (hsize k' x' hk') hp1 hp2 hro
           have hle0 : st0.next ≤ sti.next := (allPairs_ok ops st0.next items (masks ops []) 0 s.pair).1 i it hi sti.next A.hi hspan
           have tail : ∀ (E1 : Env) (w' : World) (r0 : Heap), A.outs = keepW c.S.ro sti.next r0 → Env.upto sti.next E E1 → HS c.S E1 r0 w' → Fr w w' (MH c.S E (heapOf A.ks sti.heap)) →
               (∀ k x, r0.get k = some x → c.S.ro k = false → (w.heap.size ≤ (E1.ad k).block ∨ ∀ j, j < x.size → MH c.S E (heapOf A.ks sti.heap) (E1.ad k).block ((E1.ad k).off + j))) →
               ∃ E', DInv c n w0 M E0 st0 items (put1 D i) E' (a.put it.o.dst (A.v.den c.S E1)) w' := by
             intro E1 w' r0 hout hu hs' hfr hown
             have hget : ∀ k x, A.outs.get k = some x → r0.get k = some x := by
               intro k x hk
               rw [hout, keepW_get] at hk
               split at hk
               · exact hk
               · cases hk
             have hgrow : Grow c.S E E1 w w' sti.next A.hi (heapOf A.ks sti.heap) A.outs := by
               refine ⟨hu, hF.bnd, fun k x hk hxp => hs'.at_ k x (hget k x hk) hxp, fun k x hk hge hxp => hs'.wr k x (hget k x hk) hxp (SV.noTup_ok c.S E1 (hF.new k x hk hge).1) (hF.new k x hk hge).2,
                 fun k k' x x' hne hk hk' h1 h2 hge => hs'.dis k k' x x' hne (hget k x hk) (hget k' x' hk') h1 h2 (hF.new k x hk hge).2, fun k x hk hlt => ?_, fun k x0 hk hro => ?_,
                 fun k x hk hge => hown k x (hget k x hk) (hF.new k x hk hge).2, hfr⟩
               · obtain ⟨g1, x0, g2, g3, _⟩ := hF.old k x hk hlt
                 exact ⟨x0, heapOf_of g2 g1, g3⟩
               · obtain ⟨g1, g2⟩ := heapOf_get hk
                 exact hF.keep k x0 g1 g2 hro
             have hinO : ∀ k x, A.outs.get k = some x → (inR sti.next A.hi k || hasN A.ks k) = true := by
               intro k x ho
               by_cases hlt : k < sti.next
               · rw [hasN_of (hF.old k x ho hlt).1, Bool.or_true]
               · rw [inR_ok.2 ⟨Nat.le_of_not_lt hlt, (hF.bnd k x ho).1⟩, Bool.true_or]
             refine ⟨_, step_grow s hn hi inv hspan hgrow (fun k => ?_) (fun E k j => ?_) (fun k x0 hk => ⟨hsize k x0 hk, hnames k (heapOf_get hk).2, (hF.heap k x0 (heapOf_get hk).1).1⟩) (fun k hk j' y hj' hlt hdj j => ?_) hdn (fun _ => ?_) (fun hh => absurd hpv hh)⟩
             · simp only [wSize, hact, hkey']
             · simp only [wCell, hact, hkey']
               cases ho : A.outs.get k with
               | some x => rw [hinO k x ho]; rfl
               | none => cases (inR sti.next A.hi k || hasN A.ks k) <;> rfl
             · obtain ⟨x0, hk⟩ := hk
               have g2 := (heapOf_get hk).2
               have ha := s.ahead hi hj' hlt
               simp only [YtjemfkoamfnofaaGreat.ahead, Bool.and_eq_true] at ha
               have hl := s.behind hn hj' hi hlt hdj
               cases hw : wCell c.S (E.over E1 sti.next A.hi) k j y with
               | none => rfl
               | some u =>
                 exfalso
                 rcases wCell_cases hw with h1 | ⟨p', o', z, r', h1, _⟩ | ⟨p', f', args', rs', ks', outs', hi2, r', h1, hh⟩
                 · have := shuns_not ha.2.2.1 h1
                   rw [hnames k g2] at this; cases this
                 · have := clash_of hl hact h1
                   simp only [clash] at this
                   rw [hasN_of g2, Bool.or_true] at this; cases this
                 · have := clash_of hl hact h1
                   simp [clash] at this
             · rw [hval]
               simp only [svOf]
               rw [SV.den_upto c.S (Env.over_new (b := A.hi) hu) A.v hvb]
           rcases hsrc with ⟨rfl, hrd, hA⟩ | ⟨rfl, hrd, hA⟩ | ⟨b0, k0, m0, z0, rfl, hA⟩
           · obtain ⟨r0, hsp, hout, hba, _, _⟩ := actRes_ok hA hcd
             obtain ⟨hfn, hcall⟩ := s.full.spec f args (heapOf A.ks sti.heap) sti.next A.v r0 A.hi hsp
             rw [hdoes hfn w, Oper.upon_enter]
             refine (hcall E w hs hwE (fun m j k z hm => Nat.lt_of_lt_of_le (hwb m j k z hm) hle0) (fun k x hk => hF.heap k x (heapOf_get hk).1)).mono ?_
             rintro e w' ⟨E1, hu, hle, rfl, hs', hfr, hown⟩
             exact tail E1 w' r0 hout hu hs' hfr hown
           · obtain ⟨r0, hsp, hout, hks, hba, _, _⟩ := makeRes_ok hA hcd
             obtain ⟨hfn, hcall⟩ := s.full.make f args (heapOf A.rs sti.heap) sti.next A.v r0 A.hi hsp
             rw [hdoes hfn w, Oper.upon_enter]
             have hlt : ∀ k x, (heapOf A.rs sti.heap).get k = some x → (c.S.still sti.next).ro k = true := fun k x hk => by
               show Nat.blt k sti.next = true
               have := (hF.heap k x (heapOf_get hk).1).1
               simpa using this
             have hsr : HS (c.S.still sti.next) E (heapOf A.rs sti.heap) w := by
               refine ⟨fun k x hk hxp => ?_, fun k x hk _ _ hro => ?_, fun k k' x x' _ hk _ _ _ hro => ?_, fun k x hk => SV.foOk_stat (S := c.S) rfl (htf.fo k x (heapOf_get hk).1)⟩
               · rw [SV.cells_stat (S := c.S.still sti.next) (S' := c.S) rfl rfl]
                 exact hatm k x (.inl (heapOf_get hk).2) (heapOf_get hk).1 hxp
               · rw [hlt k x hk] at hro; cases hro
               · rw [hlt k x hk] at hro; cases hro
             have hMF : ∀ b j, MH (c.S.still sti.next) E (heapOf A.rs sti.heap) b j → False := by
               rintro b j ⟨k, x, hk, hro, _⟩
               rw [hlt k x hk] at hro; cases hro
             refine (hcall E w hsr hwE (fun m j k z hm => Nat.lt_of_lt_of_le (hwb m j k z hm) hle0) (fun k x hk => hF.heap k x (heapOf_get hk).1)).mono ?_
             rintro e w' ⟨E1, hu, hle, rfl, hs', hfr, hown⟩
             have hnx : ∀ k x, (keepW (c.S.still sti.next).ro sti.next r0).get k = some x → sti.next ≤ k := by
               intro k x hk
               rw [keepW_get] at hk
               split at hk
               · rename_i hh
                 simp only [Bool.or_eq_true, Bool.not_eq_true'] at hh
                 rcases hh with hh | hh
                 · exact Nat.le_of_ble_eq_true hh
                 · have hh : Nat.blt k sti.next = false := hh
                   apply Nat.le_of_not_lt
                   intro hl
                   have : Nat.blt k sti.next = true := by simpa using hl
                   rw [hh] at this; cases this
               · cases hk
             have hr0 : ∀ k x, (keepW (c.S.still sti.next).ro sti.next r0).get k = some x → r0.get k = some x := by
               intro k x hk
               rw [keepW_get] at hk
               split at hk
               · exact hk
               · cases hk
             have hrn : ∀ k x, (keepW (c.S.still sti.next).ro sti.next r0).get k = some x → (c.S.still sti.next).ro k = false := by
               intro k x hk
               have h1 := hnx k x hk
               show Nat.blt k sti.next = false
               cases hb : Nat.blt k sti.next with
               | false => rfl
               | true => have : k < sti.next := by simpa using hb
                         omega
             refine tail E1 w' (keepW (c.S.still sti.next).ro sti.next r0) ?_ hu ?_ ?_ ?_
             · rw [hout]
               have key : ∀ l : Heap, (∀ e ∈ l, sti.next ≤ e.1) → keepW c.S.ro sti.next l = l := by
                 intro l
                 induction l with
                 | nil => intro _; rfl
                 | cons e t ih =>
                   intro hl
                   have h1 := hl e List.mem_cons_self
                   unfold keepW
                   rw [show Nat.ble sti.next e.1 = true from by simpa using h1, Bool.true_or, cond_true, ih fun e he => hl e (List.mem_cons_of_mem _ he)]
               refine (key _ ?_).symm
               have key2 : ∀ l : Heap, ∀ e ∈ keepW (c.S.still sti.next).ro sti.next l, sti.next ≤ e.1 := by
                 intro l
                 induction l with
                 | nil => intro e he; cases he
                 | cons e t ih =>
                   intro e1 he'
                   unfold keepW at he'
                   cases hb : (Nat.ble sti.next e.1 || !((c.S.still sti.next).ro e.1)) with
                   | false => rw [hb] at he'; exact ih e1 he'
                   | true =>
                     rw [hb] at he'
                     rcases List.mem_cons.1 he' with hh | hh
                     · subst hh
                       simp only [Bool.or_eq_true, Bool.not_eq_true'] at hb
                       rcases hb with hb | hb
                       · exact Nat.le_of_ble_eq_true hb
                       · have hb : Nat.blt e.1 sti.next = false := hb
                         apply Nat.le_of_not_lt
                         intro hl
                         have : Nat.blt e.1 sti.next = true := by simpa using hl
                         rw [hb] at this; cases this
                     · exact ih e1 hh
               exact key2 r0
             · refine ⟨fun k x hk hxp => ?_, fun k x hk hxp hnt hro => ?_, fun k k' x x' hne hk hk' h1 h2 hro => ?_, fun k x hk => ?_⟩
               · have := hs'.at_ k x (hr0 k x hk) hxp
                 rwa [SV.cells_stat (S := c.S.still sti.next) (S' := c.S) rfl rfl] at this
               · exact hs'.wr k x (hr0 k x hk) hxp (by rw [SV.cells_stat (S := c.S.still sti.next) (S' := c.S) rfl rfl]; exact hnt) (hrn k x hk)
               · exact hs'.dis k k' x x' hne (hr0 k x hk) (hr0 k' x' hk') h1 h2 (hrn k x hk)
               · exact SV.foOk_stat (S := c.S.still sti.next) rfl (hs'.fo k x (hr0 k x hk))
             · exact hfr.mono fun b j _ h => (hMF b j h).elim
             · intro k x hk hro
               rcases hown k x (hr0 k x hk) (hrn k x hk) with h | h
               · exact .inl h
               · refine .inr fun j hj => (hMF _ _ (h j hj)).elim
           · obtain ⟨r0, hpf, hout, _, _⟩ := joinRes_ok hA hcd
             have sat0 : Sat c n w (MH c.S E (heapOf A.ks sti.heap)) E ⟨[], heapOf A.ks sti.heap, sti.next⟩ a w :=
               ⟨fun t p x hx => by simp [Slots.get] at hx, hs, fun k x hk hr => .inr fun j hj => ⟨k, x, hk, hr, rfl, Nat.le_add_right _ _, Nat.add_lt_add_left hj _⟩, Fr.refl _ _, hwE, fun m j k z hm => Nat.lt_of_lt_of_le (hwb m j k z hm) hle0, inv.size, inv.defers⟩
             refine perform_ok s.full sat0 hdoes hpf ?_
             rintro E1 w' ⟨hu, hle, sat2⟩
             exact tail E1 w' r0 hout hu sat2.hs sat2.fr sat2.own
       · cases hstep
     · cases hstep
end
end
section
open Go Go.RowKit
section
variable {P : Program} {c : Ctx} {n : Nat} {ops pre : List Oper} {st0 stN : St} {items : List Item} {w0 : World} {M : Nat → Nat → Prop} {E0 E : Env} {a : Act} {w : World}
theorem perform_next {st : St} {q : Bool} {d : Deed} {r : Option SV × Heap × Nat} (h : (perform c st q d).sel = some r) (hcalm : calm c st d = true) : st.next ≤ r.2.2 := by
 unfold perform at h
 split at h
 · simp only [Out.sel, Option.some.injEq] at h; subst h; exact Nat.le_refl _
 · obtain ⟨_, rfl⟩ := Out.when_sel h; exact Nat.le_refl _
 · split at h
   · split at h
     · obtain ⟨_, rfl⟩ := Out.when_sel h; exact Nat.le_refl _
     · cases h
   · cases h
 · rename_i k o y
   cases hb : (q || (c.S.ro k || !y.one)) with
   | true => rw [hb] at h; cases h
   | false =>
     rw [hb] at h
     simp only [cond_false] at h
     split at h
     · split at h
       · obtain ⟨_, rfl⟩ := Out.when_sel h; exact Nat.le_refl _
       · cases h
     · cases h
 · rename_i y
   cases q with
   | true => cases h
   | false =>
     simp only [cond_false] at h
     cases hb : (st.bnd && (y.bnd st.next && y.one) && !(c.S.ro st.next)) with
     | false => rw [hb] at h; cases h
     | true => rw [hb] at h; simp only [cond_true, Out.sel, Option.some.injEq] at h; subst h; exact Nat.le_succ _
 · rename_i y len
   cases q with
   | true => cases h
   | false =>
     simp only [cond_false] at h
     cases hb : (st.bnd && (y.bnd st.next && y.one) && !(c.S.ro st.next)) with
     | false => rw [hb] at h; cases h
     | true => rw [hb] at h; simp only [cond_true, Out.sel, Option.some.injEq] at h; subst h; exact Nat.le_succ _
 · simp [calm] at hcalm
 · simp [calm] at hcalm
 · simp [calm] at hcalm
 · simp [calm] at hcalm
 · simp [calm] at hcalm
 · simp [calm] at hcalm
 · split at h
   · split at h
     · obtain ⟨_, rfl⟩ := Out.when_sel h; exact Nat.le_refl _
     · cases h
   · cases h
 · split at h
   · rename_i T hT
     cases hb : (T.kk == _) with
     | false => rw [hb] at h; cases h
     | true =>
       rw [hb] at h
       simp only [cond_true] at h
       split at h
       · simp only [Out.sel, Option.some.injEq] at h; subst h; exact Nat.le_refl _
       · cases h
   · cases h
 · simp [calm] at hcalm
 · cases h
 · cases h
 · unfold calm at hcalm
   split at h
   · obtain ⟨_, rfl⟩ := Out.when_sel h; exact Nat.le_refl _
   · rename_i hno
     dsimp only at hcalm
     rw [hno] at hcalm; cases hcalm
theorem trace_next : ∀ (l : List Oper) (st st' : St) (items : List Item), trace c n ops l st = some (items, st') → (∀ it ∈ items, okC it.cnd = true) → st.next ≤ st'.next
 | [], st, st', items, h, _ => by
   simp only [trace, Option.some.injEq, Prod.mk.injEq] at h
   obtain ⟨_, rfl⟩ := h
   exact Nat.le_refl _
 | o :: r, st, st', items, h, hcs => by
   unfold trace at h
   split at h
   · cases h
   · rename_i q hq
     split at h
     · cases h
     · rename_i q2 hq2
       simp only [Option.some.injEq, Prod.mk.injEq] at h
       obtain ⟨rfl, rfl⟩ := h
       refine Nat.le_trans ?_ (trace_next r q.2 q2.2 q2.1 hq2 fun it hit => hcs it (List.mem_cons_of_mem _ hit))
       have hc0 := hcs q.1 List.mem_cons_self
       unfold stepItem at hq
       split at hq
       · cases hq
       · split at hq
         · simp only [Option.some.injEq] at hq; subst hq; exact Nat.le_refl _
         · cases hq
       · split at hq
         · cases hq
         · rename_i d hd
           split at hq
           · rename_i sd cd r hsd
             split at hq
             · simp only [Option.some.injEq] at hq
               subst hq
               rcases stepD_cases hsd with ⟨hcalm, rfl, hr⟩ | ⟨_, f, args, A, hsrc, rfl, rfl, rfl⟩
               · exact perform_next (Out.one_sel hr hc0) hcalm
               · exact (hsrc.facts hc0).2.le
             · cases hq
           · cases hq
def isIn (listed : Array Bool) : Nat → Bool := fun j => listed.getD j false
theorem isIn_set {listed : Array Bool} {i : Nat} (h : i < listed.size) : isIn (listed.setIfInBounds i true) = put1 (isIn listed) i := by
 funext j
 unfold isIn put1
 by_cases hj : j = i
 · subst hj; simp [h]
 · simp only [if_neg hj]
   exact getD_set_ne false (Ne.symm hj)
def unseen (listed : Array Bool) (m : Nat) : Nat := (List.range m).countP fun i => !(isIn listed i)
theorem unseen_set {listed : Array Bool} {i m : Nat} (h : i < listed.size) (hm : i < m) (hi : isIn listed i = false) : unseen (listed.setIfInBounds i true) m < unseen listed m := by
 unfold unseen
 rw [isIn_set h]
 obtain ⟨s, t, hst⟩ := List.append_of_mem (List.mem_range.2 hm)
 rw [hst]
 simp only [List.countP_append, List.countP_cons]
 have h1 : List.countP (fun j => !(put1 (isIn listed) i j)) s ≤ List.countP (fun j => !(isIn listed j)) s := List.countP_mono_left fun j _ hj => by
   unfold put1 at hj; split at hj <;> simp_all
 have h2 : List.countP (fun j => !(put1 (isIn listed) i j)) t ≤ List.countP (fun j => !(isIn listed j)) t := List.countP_mono_left fun j _ hj => by
   unfold put1 at hj; split at hj <;> simp_all
 have h3 : put1 (isIn listed) i i = true := by simp [put1]
 simp only [h3, hi]
 simp
 omega
theorem unseen_zero {listed : Array Bool} {m : Nat} (h : unseen listed m = 0) : ∀ i, i < m → isIn listed i = true := by
 intro i hi
 unfold unseen at h
 rw [List.countP_eq_zero] at h
 have := h i (List.mem_range.2 hi)
 simpa using this
theorem ready_nil (he : edgesBack ops 0 = true) {listed : Array Bool} (hl : listed.size = ops.length) (h : Region.ready .any ops.toArray listed = []) : ∀ i, i < ops.length → isIn listed i = true := by
 intro i
 induction i using Nat.strongRecOn with
 | _ i ih =>
   intro hi
   cases hb : isIn listed i with
   | true => rfl
   | false =>
     exfalso
     have : i ∈ Region.ready .any ops.toArray listed := by
       rw [mem_ready]
       refine ⟨?_, ops[i], by simp [hi], ?_⟩
       · unfold isIn at hb
         have : i < listed.size := by omega
         simpa [Array.getD_eq_getD_getElem?, this] using hb
       · intro e hee hbe
         have hlt := edgesBack_ok ops ops 0 he i ops[i] e (List.getElem?_eq_getElem hi) (by simpa using hee) hbe
         exact ih e.on (by omega) (by omega)
     rw [h] at this
     cases this
theorem all_listed {listed : Array Bool} {a : Act} {w : World} (hl : listed.size = ops.length) (h : ∀ i, i < ops.length → isIn listed i = true) {Q : Exit → Act → World → Prop} (hq : Q .normal a w) (fuel : Nat) : wpAny P .any ops.toArray Q fuel listed a w := by
 have hno : ∀ i, ¬ i ∈ Region.ready .any ops.toArray listed := by
   intro i hi
   rw [mem_ready] at hi
   obtain ⟨h1, o, ho, _⟩ := hi
   have hlt : i < ops.length := by
     have := (Array.getElem?_eq_some_iff.1 ho).1
     simpa using this
   have := h i hlt
   unfold isIn at this
   have hlt' : i < listed.size := by omega
   simp [Array.getD_eq_getD_getElem?, hlt'] at this h1
   rw [this] at h1; cases h1
 cases fuel with
 | zero => exact ⟨List.eq_nil_iff_forall_not_mem.2 hno, hq⟩
 | succ f => exact ⟨fun _ => hq, fun i hi => absurd hi (hno i)⟩
theorem any_ok (s : Setup P c n ops pre st0 items stN) (hwin : WinOk c.S c.win E0) (hwb : ∀ n j k z, (n, j, k, z) ∈ c.win → k < st0.next) {Q : Exit → Act → World → Prop}
   (hend : ∀ E a w (D : Nat → Bool), pre.length = ops.length → (∀ i, i < pre.length → D i = true) → DInv c n w0 M E0 st0 items D E a w → Q .normal a w)
   (hlast : ∀ i E a w (D : Nat → Bool), pre.length ≤ i → i < ops.length → Next ops D i → DInv c n w0 M E0 st0 items D E a w → (∀ j, j < ops.length → j ≠ i → D j = true) ∧ wpOp P ops.toArray Q i (fun a w => Q .normal a w) a w) :
   ∀ (fuel : Nat) (listed : Array Bool) (a : Act) (w : World) (E : Env), listed.size = ops.length → Closed ops (isIn listed) → (∀ i, pre.length ≤ i → isIn listed i = false) → unseen listed ops.length ≤ fuel → DInv c n w0 M E0 st0 items (isIn listed) E a w →
     wpAny P .any ops.toArray Q fuel listed a w := by
 have hple : pre.length ≤ ops.length := by
   obtain ⟨post, hpost⟩ := s.hpre
   rw [hpost]; simp
 have hfull : ∀ {listed : Array Bool} {a : Act} {w : World} {E : Env}, (∀ i, i < ops.length → isIn listed i = true) → (∀ i, pre.length ≤ i → isIn listed i = false) → DInv c n w0 M E0 st0 items (isIn listed) E a w → Q .normal a w := by
   intro listed a w E hall hno inv
   have he : pre.length = ops.length := by
     refine Nat.le_antisymm hple (Nat.le_of_not_lt fun hlt => ?_)
     have h1 := hall _ hlt
     rw [hno _ (Nat.le_refl _)] at h1; cases h1
   exact hend E a w _ he (fun i hi => hall i (by omega)) inv
 intro fuel
 induction fuel with
 | zero =>
   intro listed a w E hl hcl hno hf inv
   have hall := unseen_zero (Nat.le_zero.1 hf)
   exact all_listed hl hall (hfull hall hno inv) 0
 | succ fuel ih =>
   intro listed a w E hl hcl hnol hf inv
   refine ⟨fun h => hfull (ready_nil s.edges hl h) hnol inv, fun i hi => ?_⟩
   rw [mem_ready] at hi
   obtain ⟨h1, o, ho, hpre⟩ := hi
   have hlt : i < ops.length := by
     have := (Array.getElem?_eq_some_iff.1 ho).1
     simpa using this
   have hlt' : i < listed.size := by omega
   have hno : isIn listed i = false := by
     unfold isIn
     simpa [Array.getD_eq_getD_getElem?, hlt'] using h1
   have hn : Next ops (isIn listed) i := by
     refine ⟨hcl, hno, fun o' e ho' he hb => ?_⟩
     have : o = o' := by
       have h2 : ops.toArray[i]? = some o' := by simpa using ho'
       rw [ho] at h2; injection h2
     subst this
     exact hpre e (by simpa using he) hb
   by_cases hip : i < pre.length
   · obtain ⟨it, hit⟩ : ∃ it, items[i]? = some it := ⟨items[i]'(by rw [s.len]; exact hip), List.getElem?_eq_getElem _⟩
     have hstep := step_wp (Q := Q) s hwin hwb hn hit inv
     refine wpOp_mono ?_ hstep
     rintro a' w' ⟨E', inv'⟩
     rw [← isIn_set hlt'] at inv'
     have hcl' : Closed ops (isIn (listed.setIfInBounds i true)) := by rw [isIn_set hlt']; exact hn.put1
     refine ih (listed.setIfInBounds i true) a' w' E' (by simp [hl]) hcl' (fun j hj => ?_) (by have := unseen_set hlt' hlt hno; omega) inv'
     rw [isIn_set hlt']
     unfold put1
     rw [if_neg (by omega)]
     exact hnol j hj
   · obtain ⟨hD, hstep⟩ := hlast i E a w _ (by omega) hlt hn inv
     refine wpOp_mono ?_ hstep
     intro a' w' hq
     refine all_listed (by simp [hl]) (fun j hj => ?_) hq fuel
     rw [isIn_set hlt']
     unfold put1
     split
     · rfl
     · rename_i hne; exact hD j hj hne
theorem DInv.done (s : Setup P c n ops pre st0 items stN) (hwin : WinOk c.S c.win E0) (hwb : ∀ n j k z, (n, j, k, z) ∈ c.win → k < st0.next) {D : Nat → Bool} (hD : ∀ i, i < pre.length → D i = true) (inv : DInv c n w0 M E0 st0 items D E a w) :
   Sat c n w0 M E stN a w := by
 have htf := (trace_TF (S := c.S) (st0 := st0) rfl pre [] st0 stN items (TF.start _ _ s.fo) s.ht s.cnd).1
 simp only [List.nil_append] at htf
 have hle := trace_next pre st0 stN items s.ht s.cnd
 have hall : ∀ {β : Type} (w : Item → Option β) (b : Option β), lastW w (fun _ => true) items 0 b = lastW w D items 0 b := fun w b => lastW_congr _ _ _ _ items 0 b fun j it hj => by
   have : j < pre.length := by rw [← s.len]; exact (List.getElem?_eq_some_iff.1 hj).1
   exact ⟨by rw [Nat.zero_add, hD j this], fun _ => rfl⟩
 have hsz : ∀ k x, stN.heap.get k = some x → lastW (wSize k) D items 0 ((st0.heap.get k).map SV.size) = some x.size := by
   intro k x hk
   rw [← hall, ← htf.size k, hk]; rfl
 refine ⟨?_, ⟨?_, ?_, ?_, htf.fo⟩, ?_, inv.fr, hwin.upto inv.up hwb, fun m j k z hm => Nat.lt_of_lt_of_le (hwb m j k z hm) hle, inv.size, inv.defers⟩
 · intro t p x hx
   rw [htf.slots t, hall] at hx
   exact inv.slots t p x hx
 · intro k x hk hxp
   obtain ⟨vs, a1, a2, a3, a4⟩ := inv.mem k x.size (hsz k x hk) hxp
   have : vs = x.cells c.S E := by
     apply List.ext_getElem?
     intro j
     by_cases hj : j < x.size
     · rw [a2 j hj, ← hall, ← htf.cells E k x j hk hj]
     · rw [List.getElem?_eq_none (by omega), List.getElem?_eq_none (by rw [SV.len]; omega)]
   rw [← this]; exact a3
 · intro k x hk hxp hnt hr
   obtain ⟨vs, a1, a2, a3, a4⟩ := inv.mem k x.size (hsz k x hk) hxp
   refine a4 (fun x0 hx0 => Classical.byContradiction fun hh => ?_) hr
   obtain ⟨y', hy', hy2⟩ := htf.tup E0 k x0 hx0 hh
   rw [hk] at hy'; injection hy' with hy'; subst hy'
   exact hy2 E hnt
 · intro k k' x x' hne hk hk' hp hp' hr
   exact inv.dis k k' x.size x'.size hne (hsz k x hk) (hsz k' x' hk') hp hp' hr
 · intro k x hk hr
   exact inv.own k x.size (hsz k x hk) hr
theorem DInv.start (sat : Sat c n w0 M E st0 a w) : DInv c n w0 M E st0 items (fun _ => false) E a w := by
 have hno : ∀ {β : Type} (w : Item → Option β) (b : Option β), lastW w (fun _ => false) items 0 b = b := fun w b => lastW_none _ _ items 0 b fun j it hj hd => by cases hd
 refine ⟨Env.upto.refl _ _, ?_, ?_, ?_, ?_, sat.fr, sat.size, sat.defers⟩
 · intro t p x hx
   rw [hno] at hx
   exact sat.slots t p x hx
 · intro k L h hLp
   rw [hno] at h
   cases hk : st0.heap.get k with
   | none => rw [hk] at h; cases h
   | some x =>
     rw [hk] at h
     simp only [Option.map_some, Option.some.injEq] at h
     subst h
     exact ⟨x.cells c.S E, SV.len c.S E x, fun j hj => by rw [hno]; rfl, sat.hs.at_ k x hk hLp, fun hnt hr => sat.hs.wr k x hk hLp (hnt x rfl) hr⟩
 · intro k k' L L' hne h h' hp hp' hr
   rw [hno] at h h'
   cases hk : st0.heap.get k with
   | none => rw [hk] at h; cases h
   | some x =>
     cases hk' : st0.heap.get k' with
     | none => rw [hk'] at h'; cases h'
     | some x' =>
       rw [hk] at h; rw [hk'] at h'
       simp only [Option.map_some, Option.some.injEq] at h h'
       subst h h'
       exact sat.hs.dis k k' x x' hne hk hk' hp hp' hr
 · intro k L h hr
   rw [hno] at h
   cases hk : st0.heap.get k with
   | none => rw [hk] at h; cases h
   | some x =>
     rw [hk] at h
     simp only [Option.map_some, Option.some.injEq] at h
     subst h
     exact sat.own k x hk hr
theorem Sat.drew (sat : Sat c n w0 M E st0 a w) : Sat c n w0 M E st0 a { w with drawn := w.drawn + 1 } := by
 have hfr : Fr w { w with drawn := w.drawn + 1 } (fun _ _ => False) := Fr.drew w _
 exact ⟨sat.slots, ⟨fun k x hk hp => (sat.hs.at_ k x hk hp).fr hfr (fun _ _ h => h), fun k x hk hp hnt hr => (sat.hs.wr k x hk hp hnt hr).fr hfr, sat.hs.dis, sat.hs.fo⟩, sat.own, sat.fr.trans hfr (fun _ _ _ h => h.elim), sat.win, sat.winb, sat.size, sat.defers⟩
theorem lowBits_ok {m : Nat} : ∀ {k : Nat}, lowBits m k = true → ∀ j, j < k → m.testBit j = true
 | 0, _, j, h => by omega
 | k + 1, h, j, hj => by
   simp only [lowBits, Bool.and_eq_true] at h
   by_cases he : j = k
   · subst he; exact h.1
   · exact lowBits_ok h.2 j (by omega)
theorem isIn_start (m : Nat) : isIn (Array.replicate m false) = fun _ => false := by
 funext j
 unfold isIn
 simp [Array.getD_eq_getD_getElem?, Array.getElem?_replicate]
 split <;> rfl
theorem last_ok (hc : CtxFull P c) {id : Nat} {st st' : St} (sat : Sat c n w0 M E st a w) {Q : Exit → Act → World → Prop} (h : (drawLast c n ops st).sel = some st')
   (hK : ∀ E' a' w', Env.upto st.next E E' → st.next ≤ st'.next → Sat c n w0 M E' { st' with slots := dropGuarded st'.slots } a' w' → Q .normal a' w') : (Code.region id ops.toArray true).wp P Q a w := by
 unfold drawLast at h
 split at h
 · cases h
 · rename_i o ho
   split at h
   · cases h
   · rename_i items stN ht
     cases hb : (edgesBack ops 0 && (guardedSlots st.slots).isEmpty && allPairs ops st.next items (masks ops []) 0 && st.bnd && (o.guard.isNone && lastBits (masks ops []) ops.dropLast.length)) with
     | false => rw [hb] at h; cases h
     | true =>
       rw [hb] at h
       simp only [cond_true] at h
       split at h
       · cases h
       · rename_i d hd
         rw [Out.sel_bind] at h
         cases hw : (Out.when (cnds items) ()).sel with
         | none => rw [hw] at h; cases h
         | some u =>
           rw [hw] at h
           simp only [Option.bind_some, Out.sel_bind] at h
           obtain ⟨hcn, _⟩ := Out.when_sel hw
           cases hpf : (perform c stN false d).sel with
           | none => rw [hpf] at h; cases h
           | some r =>
             rw [hpf] at h
             simp only [Option.bind_some] at h
             split at h
             · rename_i s' hput
               simp only [Out.sel, Option.some.injEq] at h
               subst h
               simp only [Bool.and_eq_true, List.isEmpty_iff, Option.isNone_iff_eq_none] at hb
               obtain ⟨⟨⟨⟨b1, b2⟩, b3⟩, b4⟩, b5, b6⟩ := hb
               have hcs := cnds_ok hcn
               have hops : ops = ops.dropLast ++ [o] := by
                 have hne : ops ≠ [] := by intro he; rw [he] at ho; cases ho
                 have h1 := List.dropLast_concat_getLast hne
                 rw [List.getLast?_eq_some_getLast hne] at ho
                 injection ho with ho
                 rw [← ho]; exact h1.symm
               have hlen : ops.length = ops.dropLast.length + 1 := by
                 conv => lhs; rw [hops]
                 simp
               have s : Setup P c n ops ops.dropLast st items stN := ⟨hc, ⟨[o], hops⟩, ht, b1, b2, b3, b4, hcs, sat.hs.fo⟩
               have hoi : ops[ops.dropLast.length]? = some o := by
                 conv => lhs; rw [hops]
                 rw [List.getElem?_append_right (by simp)]
                 simp
               refine wp_region_any hc.mixed ?_
               have hle1 := trace_next ops.dropLast st stN items ht hcs
               refine any_ok s sat.win sat.winb ?_ ?_ ops.toArray.size (Array.replicate ops.toArray.size false) a _ E (by simp) ?_ ?_ ?_ ?_ (w0 := w0) (M := M)
               · intro E' a' w' D he
                 omega
               · intro i E' a' w' D hi1 hi2 hn inv
                 have hie : i = ops.dropLast.length := by omega
                 subst hie
                 have hD : ∀ j, j < ops.length → j ≠ ops.dropLast.length → D j = true := by
                   intro j hj hne
                   unfold lastBits at b6
                   cases hm : (masks ops []).getLast? with
                   | none => rw [hm] at b6; cases b6
                   | some m =>
                     rw [hm] at b6
                     obtain ⟨hg1, hg2⟩ := masks_good ops ops [] ⟨[], by simp, rfl⟩ (fun j m h => by simp at h)
                     have hml : (masks ops []).length = ops.length := by simpa using hg2
                     have hmi : (masks ops [])[ops.dropLast.length]? = some m := by
                       rw [List.getLast?_eq_getElem?] at hm
                       rw [hml] at hm
                       rw [show ops.length - 1 = ops.dropLast.length from by omega] at hm
                       exact hm
                     have := hg1 _ m hmi (put1 D ops.dropLast.length) hn.put1 (by simp [put1]) j (lowBits_ok b6 j (by omega))
                     unfold put1 at this
                     rw [if_neg hne] at this
                     exact this
                 refine ⟨hD, ?_⟩
                 have sat' := inv.done s sat.win sat.winb (fun j hj => hD j (by omega) (by omega))
                 have hnil : PathHolds a' [] := fun _ _ hm => by cases hm
                 unfold wpOp
                 have hoi' : ops.toArray[ops.dropLast.length]? = some o := by simpa using hoi
                 rw [hoi']
                 simp only
                 rw [if_pos (by simp [Region.wanted, b5])]
                 refine .inl ?_
                 refine perform_ok hc sat' (plan_ok hc sat'.win sat'.slots hnil hd) hpf (Q := Q) ?_
                 intro E2 w2 ⟨hu, hle, sat2⟩
                 have hso := putSlot_ok hput sat2.slots sat2.size (v := vOf c.S E2 r.1) (fun _ => rfl) (fun hh => absurd hnil hh)
                 exact hK E2 _ w2 (inv.up.trans hu hle1) (Nat.le_trans hle1 hle) (sat2.put hso).drop
               · rw [isIn_start]
                 intro i o e _ hd
                 cases hd
               · rw [isIn_start]
                 intro i _
                 rfl
               · unfold unseen
                 exact Nat.le_trans List.countP_le_length (by simp)
               · rw [isIn_start]
                 exact DInv.start sat.drew
             · cases h
theorem drawAny_ok (hc : CtxFull P c) {id : Nat} {st st' : St} (sat : Sat c n w0 M E st a w) {Q : Exit → Act → World → Prop} (h : (drawAny c n ops st).sel = some st')
   (hK : ∀ E' a' w', Env.upto st.next E E' → st.next ≤ st'.next → Sat c n w0 M E' { st' with slots := dropGuarded st'.slots } a' w' → Q .normal a' w') : (Code.region id ops.toArray true).wp P Q a w := by
 unfold drawAny at h
 split at h
 · exact last_ok hc sat h hK
 · rename_i items stN ht
   cases hb : (edgesBack ops 0 && (guardedSlots st.slots).isEmpty && allPairs ops st.next items (masks ops []) 0 && st.bnd) with
   | false => rw [hb] at h; cases h
   | true =>
     rw [hb] at h
     simp only [cond_true] at h
     obtain ⟨hcn, rfl⟩ := Out.when_sel h
     simp only [Bool.and_eq_true, List.isEmpty_iff] at hb
     have hcs := cnds_ok hcn
     have s : Setup P c n ops ops st items stN := ⟨hc, ⟨[], by simp⟩, ht, hb.1.1.1, hb.1.1.2, hb.1.2, hb.2, hcs, sat.hs.fo⟩
     refine wp_region_any hc.mixed ?_
     refine any_ok s sat.win sat.winb ?_ ?_ ops.toArray.size (Array.replicate ops.toArray.size false) a _ E (by simp) ?_ ?_ ?_ ?_ (w0 := w0) (M := M)
     · intro E' a' w' D _ hD inv
       exact hK E' a' w' inv.up (trace_next ops st stN items ht hcs) (inv.done s sat.win sat.winb hD).drop
     · intro i E' a' w' D h1 h2
       omega
     · rw [isIn_start]
       intro i o e _ hd
       cases hd
     · rw [isIn_start]
       intro i _
       rfl
     · unfold unseen
       exact Nat.le_trans List.countP_le_length (by simp)
     · rw [isIn_start]
       exact DInv.start sat.drew
theorem draw_ok (hc : CtxFull P c) : DrawOk P c n := by
 intro id ops w0 M Q st st' a w E sat h hK
 unfold drawRegion at h
 cases hb : callsLast ops with
 | false => rw [hb] at h; exact drawAny_ok hc sat h hK
 | true =>
   rw [hb] at h
   simp only [cond_true] at h
   split at h
   · exact drawAny_ok hc sat h hK
   · exact last_ok hc sat h hK
end
end
end Go.Proofs.YtjemfkoamfnofaaGreat
