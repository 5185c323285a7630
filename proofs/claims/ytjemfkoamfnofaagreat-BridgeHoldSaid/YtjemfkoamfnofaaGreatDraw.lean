import Derived.Test.YtjemfkoamfnofaaGreatTrace
import Derived.Test.YtjemfkoamfnofaaGreatCode
set_option linter.unusedVariables false
namespace Go.Proofs.YtjemfkoamfnofaaGreat
section
open Go Go.RowKit
section
variable {s s' : Slots} {p : Path}
theorem ev_congr {x : Operand} (h : ∀ t, Operand.tmp? x = some t → s.get t = s'.get t) (p : Path) : ev s p x = ev s' p x := by
 cases x with
 | tmp t => simp only [ev]; rw [h t rfl]
 | const v => rfl
 | global g => rfl
 | func f => rfl
theorem evs_congr (p : Path) : ∀ (l : List Operand), (∀ x ∈ l, ∀ p, ev s p x = ev s' p x) → evs s p l = evs s' p l
 | [], _ => rfl
 | x :: r, h => by
   simp only [evs, h x List.mem_cons_self p, evs_congr p r fun y hy => h y (List.mem_cons_of_mem _ hy)]
theorem fills_congr (c : Ctx) (fl : List (Nat × TypeId)) (p : Path) : ∀ (l : List (Nat × Operand)) (z : SV), (∀ x ∈ l.map (·.2), ∀ p, ev s p x = ev s' p x) → fills c fl s p l z = fills c fl s' p l z
 | [], _, _ => rfl
 | (i, x) :: r, z, h => by
   unfold fills
   rw [show evZ c s p z x = evZ c s' p z x from by unfold evZ; rw [h x (by simp) p]]
   have ih := fun z => fills_congr c fl p r z fun y hy => h y (by simp only [List.map_cons]; exact List.mem_cons_of_mem _ hy)
   simp only [ih]
theorem fillsAt_congr (c : Ctx) (e : TypeId) (d : TD) (p : Path) : ∀ (l : List (Nat × Operand)) (z : SV), (∀ x ∈ l.map (·.2), ∀ p, ev s p x = ev s' p x) → fillsAt c e d s p l z = fillsAt c e d s' p l z
 | [], _, _ => rfl
 | (i, x) :: r, z, h => by
   unfold fillsAt
   rw [h x (by simp) p]
   have ih := fun z => fillsAt_congr c e d p r z fun y hy => h y (by simp only [List.map_cons]; exact List.mem_cons_of_mem _ hy)
   simp only [ih]
theorem plan0_congr (c : Ctx) (o : Oper) (p : Path) (h : ∀ t ∈ o.op.operands.toList.filterMap Operand.tmp?, s.get t = s'.get t) : plan0 c s p o = plan0 c s' p o := by
 have H : ∀ x ∈ o.op.operands.toList, ∀ p, ev s p x = ev s' p x := fun x hx p => ev_congr (fun t ht => h t (List.mem_filterMap.2 ⟨x, hx, ht⟩)) p
 cases ho : o.op <;> simp only [ho] at H <;> simp only [plan0, ho]
 case move x => rw [H x (by simp [Op.operands]) p]
 case assign x => rw [H x (by simp [Op.operands]) p]
 case pick x a b =>
   simp only [H x (by simp [Op.operands]) p, H a (by simp [Op.operands]), H b (by simp [Op.operands])]
 case box t x => rw [H x (by simp [Op.operands]) p]
 case build t parts =>
   have := fun fs z => fills_congr (s := s) (s' := s') c fs p parts.toList z fun x hx => H x (by simpa [Op.operands] using hx)
   have h2 := fun e d z => fillsAt_congr (s := s) (s' := s') c e d p parts.toList z fun x hx => H x (by simpa [Op.operands] using hx)
   simp only [this, h2]
 case buildSlice t len parts =>
   have := fun e d z => fillsAt_congr (s := s) (s' := s') c e d p parts.toList z fun x hx => H x (by simpa [Op.operands] using hx)
   simp only [this]
 case load t x => rw [H x (by simp [Op.operands]) p]
 case store t x y => simp only [H x (by simp [Op.operands]) p, H y (by simp [Op.operands]) p]
 case nilCheck x => rw [H x (by simp [Op.operands]) p]
 case binOp op t x y t' => simp only [H x (by simp [Op.operands]) p, H y (by simp [Op.operands]) p]
 case unOp op t x => rw [H x (by simp [Op.operands]) p]
 case convert a b x => rw [H x (by simp [Op.operands]) p]
 case makeSlice t l k => simp only [H l (by simp [Op.operands]) p, H k (by simp [Op.operands]) p]
 case makeMap t r => cases r <;> rfl
 case insert t m k x => simp only [H m (by simp [Op.operands]) p, H k (by simp [Op.operands]) p, H x (by simp [Op.operands]) p]
 case mapUpdate t m k x => simp only [H m (by simp [Op.operands]) p, H k (by simp [Op.operands]) p, H x (by simp [Op.operands]) p]
 case lookup t m k b => cases b <;> simp only [H m (by simp [Op.operands]) p, H k (by simp [Op.operands]) p]
 case makeFunc fn first cap =>
   rw [evs_congr p first.toList fun x hx => H x (by simp [Op.operands]; left; simpa using hx), evs_congr p cap.toList fun x hx => H x (by simp [Op.operands]; right; simpa using hx)]
 case fieldAddr t x f => rw [H x (by simp [Op.operands]) p]
 case field t x f => rw [H x (by simp [Op.operands]) p]
 case indexAddr t x i => simp only [H x (by simp [Op.operands]) p, H i (by simp [Op.operands]) p]
 case index t x i => simp only [H x (by simp [Op.operands]) p, H i (by simp [Op.operands]) p]
 case slice t x lo hi mx =>
   cases lo with
   | some r => rfl
   | none => cases hi with
     | none => rfl
     | some h0 => cases mx with
       | none => rfl
       | some m0 => simp only [H x (by simp [Op.operands]) p, H h0 (by simp [Op.operands]) p, H m0 (by simp [Op.operands]) p]
 case extract x i => rw [H x (by simp [Op.operands]) p]
 case call q =>
   have ha : ∀ x ∈ q.args.toList, ∀ p, ev s p x = ev s' p x := fun x hx => H x (by simp [Op.operands, Call.operands]; right; simpa using hx)
   have hs := evs_congr p q.args.toList ha
   rw [hs]
   split
   · rename_i f hf
     rw [H f (by simp [Op.operands, Call.operands, hf]) p]
   · split
     · rename_i x t hx ht
       rw [ha x (by rw [hx]; simp) p]
     · rfl
   · rfl
   · split
     · rename_i m k t t' hx ht
       simp only [ha m (by rw [hx]; simp) p, ha k (by rw [hx]; simp) p]
     · rfl
   all_goals rfl
theorem plan_congr (c : Ctx) (o : Oper) (p : Path) (h : ∀ t ∈ o.op.operands.toList.filterMap Operand.tmp?, s.get t = s'.get t) : plan c s p o = plan c s' p o := by
 unfold plan
 rw [plan0_congr c o p h]
theorem guarded_congr (ops : List Oper) (o : Oper) (h : ∀ j b d, o.guard = some (j, b) → (ops[j]?).bind (·.dst) = some d → s.get d = s'.get d) : guarded s ops o = guarded s' ops o := by
 unfold guarded
 split
 · rfl
 · rename_i j b hg
   split
   · rfl
   · rename_i d hd
     rw [h j b d hg hd]
end
def Closed (ops : List Oper) (D : Nat → Bool) : Prop := ∀ i o e, ops[i]? = some o → D i = true → e ∈ o.after.toList → Region.binds .any e = true → D e.on = true
theorem maskOf_bit (tab : List Nat) : ∀ (es : List Edge) (b : Nat), (maskOf tab es).testBit b = true → ∃ e ∈ es, Region.binds .any e = true ∧ (b = e.on ∨ (tab.getD e.on 0).testBit b = true)
 | [], b, h => by simp [maskOf] at h
 | e :: r, b, h => by
   unfold maskOf at h
   cases hb : Region.binds .any e with
   | true =>
     rw [hb] at h
     simp only [cond_true] at h
     have h' : ((2 ^ e.on ||| tab.getD e.on 0) ||| maskOf tab r).testBit b = true := h
     rw [Nat.testBit_or, Nat.testBit_or, Nat.testBit_two_pow] at h'
     simp only [Bool.or_eq_true, decide_eq_true_eq] at h'
     rcases h' with (h1 | h1) | h1
     · exact ⟨e, List.mem_cons_self, hb, .inl h1.symm⟩
     · exact ⟨e, List.mem_cons_self, hb, .inr h1⟩
     · obtain ⟨e', h2, h3, h4⟩ := maskOf_bit tab r b h1
       exact ⟨e', List.mem_cons_of_mem _ h2, h3, h4⟩
   | false =>
     rw [hb] at h
     obtain ⟨e', h2, h3, h4⟩ := maskOf_bit tab r b h
     exact ⟨e', List.mem_cons_of_mem _ h2, h3, h4⟩
def MaskGood (ops : List Oper) (j m : Nat) : Prop := ∀ D, Closed ops D → D j = true → ∀ b, m.testBit b = true → D b = true
theorem masks_good (ops : List Oper) : ∀ (l : List Oper) (tab : List Nat), (∃ pre, ops = pre ++ l ∧ pre.length = tab.length) → (∀ (j m : Nat), tab[j]? = some m → MaskGood ops j m) →
   (∀ (j m : Nat), (masks l tab)[j]? = some m → MaskGood ops j m) ∧ (masks l tab).length = tab.length + l.length
 | [], tab, _, h => ⟨by simpa [masks] using h, by simp [masks]⟩
 | o :: r, tab, ⟨pre, hpre, hlen⟩, h => by
   unfold masks
   have hio : ops[tab.length]? = some o := by rw [hpre, List.getElem?_append_right (by omega)]; simp [hlen]
   have ih := masks_good ops r (tab ++ [maskOf tab o.after.toList]) ⟨pre ++ [o], by simp [hpre], by simp [hlen]⟩ ?_
   · exact ⟨ih.1, by rw [ih.2]; simp; omega⟩
   · intro j m hj
     by_cases hlt : j < tab.length
     · rw [List.getElem?_append_left hlt] at hj
       exact h j m hj
     · have hje : j = tab.length := by
         have := (List.getElem?_eq_some_iff.1 hj).1
         simp at this; omega
       subst hje
       simp only [List.getElem?_append_right (Nat.le_refl _), Nat.sub_self, List.getElem?_cons_zero, Option.some.injEq] at hj
       subst hj
       intro D hD hDj b hb
       obtain ⟨e, he, hbe, hor⟩ := maskOf_bit tab _ b hb
       have hon := hD _ o e hio hDj he hbe
       rcases hor with rfl | hor
       · exact hon
       · by_cases hlt2 : e.on < tab.length
         · have : tab[e.on]? = some (tab.getD e.on 0) := by simp [List.getD_eq_getElem?_getD, List.getElem?_eq_getElem hlt2]
           exact h _ _ this D hD hon b hor
         · rw [List.getD_eq_getElem?_getD, List.getElem?_eq_none (by omega)] at hor
           simp at hor
theorem pairs_ok (ops : List Oper) (x : Item) (i : Nat) : ∀ (l : List Item) (ms : List Nat), pairs ops x i l ms = true → ∀ (j : Nat) (y : Item), l[j]? = some y → ahead x y = true ∧ ((∃ m : Nat, ms[j]? = some m ∧ m.testBit i = true) ∨ loose ops x y = true)
 | [], _, _, j, y, hj => by simp at hj
 | z :: r, [], h, j, y, hj => by simp [pairs] at h
 | z :: r, m :: ms, h, j, y, hj => by
   simp only [pairs, Bool.and_eq_true, Bool.or_eq_true] at h
   cases j with
   | zero =>
     simp only [List.getElem?_cons_zero, Option.some.injEq] at hj
     subst hj
     exact ⟨h.1, h.2.1.imp (fun hh => ⟨m, rfl, hh⟩) id⟩
   | succ j => simpa using pairs_ok ops x i r ms h.2.2 j y (by simpa using hj)
theorem allPairs_ok (ops : List Oper) (nx : Nat) : ∀ (l : List Item) (ms : List Nat) (i : Nat), allPairs ops nx l ms i = true →
   (∀ (j : Nat) (x : Item), l[j]? = some x → ∀ a b, x.span = some (a, b) → nx ≤ a) ∧ ∀ (j k : Nat) (x y : Item), l[j]? = some x → l[k]? = some y → j < k → ahead x y = true ∧ ((∃ m : Nat, ms[k]? = some m ∧ m.testBit (i + j) = true) ∨ loose ops x y = true)
 | [], _, _, _ => ⟨fun j x h => by simp at h, fun j k x y h => by simp at h⟩
 | z :: r, [], i, h => by simp [allPairs] at h
 | z :: r, m :: ms, i, h => by
   simp only [allPairs, Bool.and_eq_true] at h
   obtain ⟨h0, h1, h2⟩ := h
   obtain ⟨k1, k2⟩ := allPairs_ok ops nx r ms (i + 1) h2
   refine ⟨?_, ?_⟩
   · intro j x hj k b hk
     cases j with
     | zero =>
       simp only [List.getElem?_cons_zero, Option.some.injEq] at hj
       subst hj
       rw [hk] at h0
       exact Nat.le_of_ble_eq_true h0
     | succ j => exact k1 j x (by simpa using hj) k b hk
   · intro j k x y hj hk hlt
     cases k with
     | zero => omega
     | succ k =>
       cases j with
       | zero =>
         simp only [List.getElem?_cons_zero, Option.some.injEq] at hj
         subst hj
         simpa using pairs_ok ops _ i r ms h1 k y (by simpa using hk)
       | succ j =>
         have := k2 j k x y (by simpa using hj) (by simpa using hk) (by omega)
         simpa [Nat.add_assoc, Nat.add_comm 1] using this
theorem edgesBack_ok (ops : List Oper) : ∀ (l : List Oper) (i : Nat), edgesBack l i = true → ∀ (j : Nat) (o : Oper) (e : Edge), l[j]? = some o → e ∈ o.after.toList → Region.binds .any e = true → e.on < i + j
 | [], _, _, j, o, e, hj => by simp at hj
 | z :: r, i, h, j, o, e, hj => by
   simp only [edgesBack, Bool.and_eq_true] at h
   intro he hb
   cases j with
   | zero =>
     simp only [List.getElem?_cons_zero, Option.some.injEq] at hj
     subst hj
     have := List.all_eq_true.1 h.1 e he
     simpa [hb] using this
   | succ j =>
     have := edgesBack_ok ops r (i + 1) h.2 j o e (by simpa using hj) he hb
     omega
end
section
open Go Go.RowKit
structure Setup (P : Program) (c : Ctx) (n : Nat) (ops pre : List Oper) (st0 : St) (items : List Item) (stN : St) : Prop where
 full : CtxFull P c
 hpre : ∃ post, ops = pre ++ post
 ht : trace c n ops pre st0 = some (items, stN)
 edges : edgesBack ops 0 = true
 nog : guardedSlots st0.slots = []
 pair : allPairs ops st0.next items (masks ops []) 0 = true
 bnd : st0.bnd = true
 cnd : ∀ it ∈ items, okC it.cnd = true
 fo : ∀ k x, st0.heap.get k = some x → x.foOk c.S
def put1 (D : Nat → Bool) (i : Nat) : Nat → Bool := fun j => if j = i then true else D j
structure Next (ops : List Oper) (D : Nat → Bool) (i : Nat) : Prop where
 cl : Closed ops D
 no : D i = false
 pre : ∀ o e, ops[i]? = some o → e ∈ o.after.toList → Region.binds .any e = true → D e.on = true
theorem Next.put1 {ops : List Oper} {D : Nat → Bool} {i : Nat} (h : Next ops D i) : Closed ops (put1 D i) := by
 intro j o e hj hd he hb
 unfold YtjemfkoamfnofaaGreat.put1 at hd ⊢
 split at hd
 · rename_i hji; subst hji
   have := h.pre o e hj he hb
   split
   · rfl
   · exact this
 · have := h.cl j o e hj hd he hb
   split
   · rfl
   · exact this
section
variable {P : Program} {c : Ctx} {n : Nat} {ops pre : List Oper} {st0 stN : St} {items : List Item}
theorem Setup.len (s : Setup P c n ops pre st0 items stN) : items.length = pre.length := (trace_TF (S := c.S) (st0 := st0) rfl pre [] st0 stN items (TF.start _ _ s.fo) s.ht s.cnd).2.1
theorem Setup.at (s : Setup P c n ops pre st0 items stN) {i : Nat} {it : Item} (hi : items[i]? = some it) :
   ∃ o sti sti1, ops[i]? = some o ∧ it.o = o ∧ it.key = sti.next ∧ TF c.S st0 (items.take i) sti ∧ stepItem c n ops sti o = some (it, sti1) := by
 obtain ⟨o, sti, sti1, h1, h2⟩ := (trace_TF (S := c.S) (st0 := st0) rfl pre [] st0 stN items (TF.start _ _ s.fo) s.ht s.cnd).2.2 i it hi
 obtain ⟨post, hpost⟩ := s.hpre
 refine ⟨o, sti, sti1, ?_, by simpa using h2⟩
 rw [hpost, List.getElem?_append_left (List.getElem?_eq_some_iff.1 h1).1]
 exact h1
theorem Setup.ahead (s : Setup P c n ops pre st0 items stN) {i j : Nat} {x y : Item} (hi : items[i]? = some x) (hj : items[j]? = some y) (hlt : i < j) : ahead x y = true :=
 ((allPairs_ok ops st0.next items (masks ops []) 0 s.pair).2 i j x y hi hj hlt).1
theorem Setup.loose (s : Setup P c n ops pre st0 items stN) {D : Nat → Bool} (hD : Closed ops D) {i j : Nat} {x y : Item} (hi : items[i]? = some x) (hj : items[j]? = some y) (hlt : i < j) (h1 : D i = false) (h2 : D j = true) : loose ops x y = true := by
 rcases ((allPairs_ok ops st0.next items (masks ops []) 0 s.pair).2 i j x y hi hj hlt).2 with ⟨m, hm, hb⟩ | h
 · have hg := (masks_good ops ops [] ⟨[], by simp, rfl⟩ (fun j m h => by simp at h)).1 j m hm D hD h2 i (by simpa using hb)
   rw [h1] at hg; cases hg
 · exact h
theorem Setup.before (s : Setup P c n ops pre st0 items stN) {D : Nat → Bool} {i j : Nat} (hn : Next ops D i) {x it : Item} (hj : items[j]? = some x) (hi : items[i]? = some it) (hlt : j < i) (h1 : D j = false) : YtjemfkoamfnofaaGreat.loose ops x it = true :=
 s.loose hn.put1 hj hi hlt (by unfold YtjemfkoamfnofaaGreat.put1; rw [if_neg (by omega)]; exact h1) (by unfold YtjemfkoamfnofaaGreat.put1; rw [if_pos rfl])
theorem Setup.behind (s : Setup P c n ops pre st0 items stN) {D : Nat → Bool} {i j : Nat} (hn : Next ops D i) {y it : Item} (hj : items[j]? = some y) (hi : items[i]? = some it) (hlt : i < j) (h1 : D j = true) : YtjemfkoamfnofaaGreat.loose ops it y = true :=
 s.loose hn.cl hi hj hlt hn.no h1
def slotsL (D : Nat → Bool) : List Item → Nat → Slots → Slots
 | [], _, s => s
 | it :: r, i, s => slotsL D r (i + 1) (if D i = true then (match it.o.dst with | some d => (d, it.val) :: s | none => s) else s)
theorem slotsL_get (D : Nat → Bool) (t : Nat) : ∀ (l : List Item) (i : Nat) (s : Slots), (slotsL D l i s).get t = lastW (wSlot t) D l i (s.get t)
 | [], _, _ => rfl
 | it :: r, i, s => by
   simp only [slotsL, lastW]
   rw [slotsL_get D t r (i + 1)]
   congr 1
   split
   · unfold wSlot
     cases it.o.dst with
     | none => rfl
     | some d =>
       simp only [isDst, Slots.get]
       cases Nat.beq d t <;> rfl
   · rfl
theorem lastW_mem {β : Type} (w : Item → Option β) (D : Nat → Bool) : ∀ (l : List Item) (i : Nat) (a : Option β) (v : β), lastW w D l i a = some v → a = some v ∨ ∃ j it, l[j]? = some it ∧ D (i + j) = true ∧ w it = some v
 | [], i, a, v, h => .inl h
 | it :: r, i, a, v, h => by
   simp only [lastW] at h
   rcases lastW_mem w D r (i + 1) _ v h with h1 | ⟨j, x, h1, h2, h3⟩
   · split at h1
     · rename_i hd
       cases hw : w it with
       | none => rw [hw] at h1; exact .inl (by simpa using h1)
       | some u =>
         rw [hw] at h1
         exact .inr ⟨0, it, rfl, hd, by rw [hw]; simpa using h1⟩
     · exact .inl h1
   · exact .inr ⟨j + 1, x, by simpa using h1, by rwa [show i + (j + 1) = i + 1 + j from by omega], h3⟩
structure DInv (c : Ctx) (n : Nat) (w0 : World) (M : Nat → Nat → Prop) (E0 : Env) (st0 : St) (items : List Item) (D : Nat → Bool) (E : Env) (a : Act) (w : World) : Prop where
 up : Env.upto st0.next E0 E
 slots : ∀ t p x, lastW (wSlot t) D items 0 (st0.slots.get t) = some (p, x) → (PathHolds a p → a.tmps[t]? = some (x.den c.S E)) ∧ (¬ PathHolds a p → a.tmps[t]? = some undef)
 mem : ∀ k L, lastW (wSize k) D items 0 ((st0.heap.get k).map SV.size) = some L → 0 < L → ∃ vs : List Value, vs.length = L ∧
   (∀ j, j < L → vs[j]? = lastW (wCell c.S E k j) D items 0 ((st0.heap.get k).bind fun x => (x.cells c.S E)[j]?)) ∧ At w (E.ad k) vs ∧ ((∀ x, st0.heap.get k = some x → NoTup (x.cells c.S E0)) → c.S.ro k = false → Wr w (E.ad k).block)
 dis : ∀ k k' L L', k ≠ k' → lastW (wSize k) D items 0 ((st0.heap.get k).map SV.size) = some L → lastW (wSize k') D items 0 ((st0.heap.get k').map SV.size) = some L' → 0 < L → 0 < L' → c.S.ro k = false → apart (E.ad k) L (E.ad k') L'
 own : ∀ k L, lastW (wSize k) D items 0 ((st0.heap.get k).map SV.size) = some L → c.S.ro k = false → w0.heap.size ≤ (E.ad k).block ∨ ∀ j, j < L → M (E.ad k).block ((E.ad k).off + j)
 fr : Fr w0 w M
 size : a.tmps.size = n
 defers : a.defers = []
theorem DInv.slotsOk {w0 : World} {M : Nat → Nat → Prop} {E0 E : Env} {D : Nat → Bool} {a : Act} {w : World} (h : DInv c n w0 M E0 st0 items D E a w) : SlotsOk c.S E (slotsL D items 0 st0.slots) a := by
 intro d p x hx
 rw [slotsL_get] at hx
 exact h.slots d p x hx
theorem all_not {l : List Nat} {d : Option Nat} (h : (l.all fun t => !(isDst d t)) = true) {t : Nat} (ht : t ∈ l) : isDst d t = false := by
 have := List.all_eq_true.1 h t ht
 simpa using this
theorem Setup.reads (s : Setup P c n ops pre st0 items stN) {D : Nat → Bool} {i : Nat} {it : Item} (hn : Next ops D i) (hi : items[i]? = some it) {sti : St} (htf : TF c.S st0 (items.take i) sti) {t : Nat} (ht : t ∈ namesOf ops it.o) :
   (slotsL D items 0 st0.slots).get t = sti.slots.get t := by
 rw [slotsL_get, htf.slots t]
 refine lastW_text (wSlot t) D items i it hi _ hn.no ?_ ?_
 · intro j x hj hlt hd
   have hl := s.before hn hj hi hlt hd
   simp only [YtjemfkoamfnofaaGreat.loose, Bool.and_eq_true] at hl
   simp [wSlot, all_not hl.1 ht]
 · intro j y hj hlt hd
   have hl := s.behind hn hj hi hlt hd
   simp only [YtjemfkoamfnofaaGreat.loose, Bool.and_eq_true] at hl
   simp [wSlot, all_not hl.2.1 ht]
theorem path_not {l : Path} {d : Option Nat} (h : (l.all fun a => !(isDst d a.1)) = true) {d' : Nat} (hd : d = some d') : Path.free l d' = true := by
 unfold Path.free
 rw [List.all_eq_true] at h ⊢
 intro x hx
 have := h x hx
 rw [hd] at this
 simp only [isDst, Bool.not_eq_true'] at this ⊢
 cases hb : Nat.beq x.1 d' with
 | false => rfl
 | true =>
   have := Nat.eq_of_beq_eq_true hb
   subst this
   simp at *
theorem Setup.slots_step (s : Setup P c n ops pre st0 items stN) {D : Nat → Bool} {i : Nat} {it : Item} (hn : Next ops D i) (hi : items[i]? = some it) {E : Env} {a : Act} (hsz : a.tmps.size = n)
   (hs : ∀ t p x, lastW (wSlot t) D items 0 (st0.slots.get t) = some (p, x) → (PathHolds a p → a.tmps[t]? = some (x.den c.S E)) ∧ (¬ PathHolds a p → a.tmps[t]? = some undef))
   (hdn : ∀ d, it.o.dst = some d → d < n ∧ Path.free it.val.1 d = true) {v : Value} (h1 : PathHolds a it.val.1 → v = it.val.2.den c.S E) (h2 : ¬ PathHolds a it.val.1 → v = undef) :
   ∀ t p x, lastW (wSlot t) (put1 D i) items 0 (st0.slots.get t) = some (p, x) → (PathHolds (a.put it.o.dst v) p → (a.put it.o.dst v).tmps[t]? = some (x.den c.S E)) ∧ (¬ PathHolds (a.put it.o.dst v) p → (a.put it.o.dst v).tmps[t]? = some undef) := by
 intro t p x h
 have hins := lastW_insert (wSlot t) D (put1 D i) items i it hi (st0.slots.get t) hn.no (by simp [YtjemfkoamfnofaaGreat.put1]) (fun j hj => by simp [YtjemfkoamfnofaaGreat.put1, hj]) (by
   intro hw j y hj hlt hd
   have ha := s.ahead hi hj hlt
   simp only [YtjemfkoamfnofaaGreat.ahead, sameDst, Bool.and_eq_true] at ha
   unfold wSlot at hw ⊢
   cases hdi : it.o.dst with
   | none => rw [hdi] at hw; simp [isDst] at hw
   | some d =>
     rw [hdi] at hw ha
     simp only [isDst] at hw
     cases hb : Nat.beq d t with
     | false => rw [hb] at hw; simp at hw
     | true =>
       have := Nat.eq_of_beq_eq_true hb
       subst this
       have := ha.1
       simp only [Bool.not_eq_true'] at this
       simp [this])
 rw [hins] at h
 cases hdi : it.o.dst with
 | none =>
   have hw : wSlot t it = none := by simp [wSlot, hdi, isDst]
   rw [hw] at h
   exact hs t p x h
 | some d =>
   obtain ⟨hlt, hfree⟩ := hdn d hdi
   cases hb : Nat.beq d t with
   | true =>
     have := Nat.eq_of_beq_eq_true hb
     subst this
     have hw : wSlot d it = some it.val := by simp [wSlot, hdi, isDst]
     rw [hw] at h
     simp only [ov_some, Option.some.injEq] at h
     have hp : p = it.val.1 := by rw [h]
     have hx : x = it.val.2 := by rw [h]
     subst hp hx
     have hput : (a.put (some d) v).tmps[d]? = some v := by simp [Act.put, hsz, hlt]
     rw [Path.holds_put hfree, hput]
     exact ⟨fun hh => by rw [h1 hh], fun hh => by rw [h2 hh]⟩
   | false =>
     have hw : wSlot t it = none := by simp [wSlot, hdi, isDst, hb]
     rw [hw] at h
     simp only [ov_none] at h
     have hne : d ≠ t := by intro he; subst he; simp at hb
     have hput : (a.put (some d) v).tmps[t]? = a.tmps[t]? := by
       simp only [Act.put, Array.getElem?_setIfInBounds]
       rw [if_neg hne]
     have hfr : Path.free p d = true := by
       rcases lastW_mem _ D items 0 _ _ h with h0 | ⟨j, y, hj, hd, hy⟩
       · have : p = [] := by
           cases p with
           | nil => rfl
           | cons q r =>
             exfalso
             have hg : ∀ (l : Slots) (t : Nat) (q : Path × SV), Slots.get l t = some q → guardedSlots l = [] → q.1 = [] := by
               intro l
               induction l with
               | nil => intro t q h; simp [Slots.get] at h
               | cons e r ih =>
                 obtain ⟨k, pp, xx⟩ := e
                 intro t q h hgs
                 unfold guardedSlots at hgs
                 cases hnp : isNilP pp with
                 | false => rw [hnp] at hgs; simp at hgs
                 | true =>
                   rw [hnp] at hgs
                   simp only [Slots.get] at h
                   cases hb : Nat.beq k t with
                   | true => rw [hb] at h; simp only [cond_true, Option.some.injEq] at h; subst h; exact isNilP_ok hnp
                   | false => rw [hb] at h; exact ih t q h hgs
             have := hg _ _ _ h0 s.nog
             cases this
         subst this
         rfl
       · simp only [wSlot] at hy
         cases hdy : isDst y.o.dst t with
         | false => rw [hdy] at hy; cases hy
         | true =>
           rw [hdy] at hy
           simp only [cond_true, Option.some.injEq] at hy
           have hpy : p = pathOf y ∨ p = [] := by
             simp only [Item.val] at hy
             unfold pathOf
             split at hy
             · rename_i q dd xx hact; rw [hact]; exact .inl (by injection hy with e1 e2; exact e1.symm)
             · exact .inr (by injection hy with e1 e2; exact e1.symm)
           rcases hpy with rfl | rfl
           · rw [Nat.zero_add] at hd
             rcases Nat.lt_trichotomy j i with hji | hji | hji
             · have ha := s.ahead hj hi hji
               simp only [YtjemfkoamfnofaaGreat.ahead, Bool.and_eq_true] at ha
               exact path_not ha.2.2.2 hdi
             · subst hji; rw [hn.no] at hd; cases hd
             · have hl := s.behind hn hj hi hji hd
               simp only [YtjemfkoamfnofaaGreat.loose, Bool.and_eq_true] at hl
               exact path_not hl.2.2.1 hdi
           · rfl
     rw [hput, Path.holds_put hfr]
     exact hs t p x h
end
end
end Go.Proofs.YtjemfkoamfnofaaGreat
