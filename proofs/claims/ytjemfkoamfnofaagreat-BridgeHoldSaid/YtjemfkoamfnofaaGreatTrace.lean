import Derived.Test.YtjemfkoamfnofaaGreatWalk
set_option linter.unusedVariables false
namespace Go.Proofs.YtjemfkoamfnofaaGreat
open Go Go.RowKit
section
variable {β : Type}
def ov (w a : Option β) : Option β := match w with | some v => some v | none => a
@[simp] theorem ov_some (v : β) (a : Option β) : ov (some v) a = some v := rfl
@[simp] theorem ov_none (a : Option β) : ov none a = a := rfl
def lastW (w : Item → Option β) (D : Nat → Bool) : List Item → Nat → Option β → Option β
 | [], _, a => a
 | it :: r, i, a => lastW w D r (i + 1) (if D i = true then (ov (w it) a) else a)
theorem lastW_append (w : Item → Option β) (D : Nat → Bool) : ∀ (l1 l2 : List Item) (i : Nat) (a : Option β), lastW w D (l1 ++ l2) i a = lastW w D l2 (i + l1.length) (lastW w D l1 i a)
 | [], l2, i, a => by simp [lastW]
 | it :: r, l2, i, a => by
   simp only [List.cons_append, lastW, List.length_cons]
   rw [lastW_append w D r l2 (i + 1)]
   rw [show i + 1 + r.length = i + (r.length + 1) from by omega]
theorem lastW_congr (w w' : Item → Option β) (D D' : Nat → Bool) : ∀ (l : List Item) (i : Nat) (a : Option β),
   (∀ j it, l[j]? = some it → D (i + j) = D' (i + j) ∧ (D (i + j) = true → w it = w' it)) → lastW w D l i a = lastW w' D' l i a
 | [], i, a, _ => rfl
 | it :: r, i, a, h => by
   simp only [lastW]
   obtain ⟨h0, h1⟩ := h 0 it rfl
   have hstep : (if D i = true then (ov (w it) a) else a) = (if D' i = true then (ov (w' it) a) else a) := by
     rw [← show D i = D' i from h0]
     split
     · rename_i hd; rw [h1 hd]
     · rfl
   rw [hstep]
   exact lastW_congr w w' D D' r (i + 1) _ fun j it' hj => by
     have := h (j + 1) it' (by simpa using hj)
     rwa [show i + (j + 1) = i + 1 + j from by omega] at this
theorem lastW_none (w : Item → Option β) (D : Nat → Bool) : ∀ (l : List Item) (i : Nat) (a : Option β),
   (∀ j it, l[j]? = some it → D (i + j) = true → w it = none) → lastW w D l i a = a
 | [], i, a, _ => rfl
 | it :: r, i, a, h => by
   simp only [lastW]
   rw [lastW_none w D r (i + 1) _ fun j it' hj hd => h (j + 1) it' (by simpa using hj) (by rwa [show i + (j + 1) = i + 1 + j from by omega])]
   split
   · rename_i hd; rw [h 0 it rfl hd]; rfl
   · rfl
theorem lastW_text (w : Item → Option β) (D : Nat → Bool) (items : List Item) (i : Nat) (it : Item) (hi : items[i]? = some it) (a : Option β) (hD : D i = false)
   (h1 : ∀ j x, items[j]? = some x → j < i → D j = false → w x = none) (h2 : ∀ j x, items[j]? = some x → i < j → D j = true → w x = none) :
   lastW w D items 0 a = lastW w (fun _ => true) (items.take i) 0 a := by
 have hlt : i < items.length := (List.getElem?_eq_some_iff.1 hi).1
 have hsplit : items = items.take i ++ (it :: items.drop (i + 1)) := by
   have := List.take_append_drop i items
   rw [List.drop_eq_getElem_cons hlt] at this
   rw [(List.getElem?_eq_some_iff.1 hi).2] at this
   exact this.symm
 have hlen : (items.take i).length = i := by simp; omega
 conv => lhs; rw [hsplit]
 rw [lastW_append, hlen]
 simp only [lastW, Nat.zero_add, hD]
 rw [if_neg (by simp)]
 rw [lastW_none w D _ (i + 1) _ fun j x hj hd => by
   rw [List.getElem?_drop] at hj
   exact h2 _ x hj (by omega) hd]
 -- the part ahead
 have key : ∀ (l : List Item) (k : Nat) (b : Option β), (∀ j x, l[j]? = some x → D (k + j) = false → w x = none) → lastW w D l k b = lastW w (fun _ => true) l k b := by
   intro l
   induction l with
   | nil => intro k b _; rfl
   | cons y r ih =>
     intro k b h
     simp only [lastW]
     cases hd : D k with
     | true => simp only [if_true]; exact ih _ _ fun j x hj hdj => h (j + 1) x (by simpa using hj) (by rwa [show k + (j + 1) = k + 1 + j from by omega])
     | false =>
       have := h 0 y rfl (by simpa using hd)
       simp only [this, ov, if_true, Bool.false_eq_true, if_false]
       exact ih _ _ fun j x hj hdj => h (j + 1) x (by simpa using hj) (by rwa [show k + (j + 1) = k + 1 + j from by omega])
 refine key _ 0 a fun j x hj hd => ?_
 have hji : j < i := by
   have := (List.getElem?_eq_some_iff.1 hj).1
   omega
 rw [List.getElem?_take_of_lt hji] at hj
 exact h1 j x hj hji (by simpa using hd)
theorem lastW_insert (w : Item → Option β) (D D' : Nat → Bool) (items : List Item) (i : Nat) (it : Item) (hi : items[i]? = some it) (a : Option β) (hD : D i = false) (hD' : D' i = true) (hne : ∀ j, j ≠ i → D' j = D j)
   (h2 : w it ≠ none → ∀ j x, items[j]? = some x → i < j → D j = true → w x = none) :
   lastW w D' items 0 a = ov (w it) (lastW w D items 0 a) := by
 have hlt : i < items.length := (List.getElem?_eq_some_iff.1 hi).1
 have hsplit : items = items.take i ++ (it :: items.drop (i + 1)) := by
   have := List.take_append_drop i items
   rw [List.drop_eq_getElem_cons hlt] at this
   rw [(List.getElem?_eq_some_iff.1 hi).2] at this
   exact this.symm
 have hlen : (items.take i).length = i := by simp; omega
 have hpre : ∀ b, lastW w D' (items.take i) 0 b = lastW w D (items.take i) 0 b := fun b => lastW_congr w w D' D _ 0 b fun j x hj => by
   have := (List.getElem?_eq_some_iff.1 hj).1
   exact ⟨hne _ (by omega), fun _ => rfl⟩
 have hpost : ∀ b, lastW w D' (items.drop (i + 1)) (i + 1) b = lastW w D (items.drop (i + 1)) (i + 1) b := fun b => lastW_congr w w D' D _ (i + 1) b fun j x hj =>
   ⟨hne _ (by omega), fun _ => rfl⟩
 have e1 : lastW w D' items 0 a = lastW w D (items.drop (i + 1)) (i + 1) (ov (w it) (lastW w D (items.take i) 0 a)) := by
   conv => lhs; rw [hsplit]
   rw [lastW_append, hlen]
   simp only [lastW, Nat.zero_add, hD', if_true, hpre, hpost]
 have e2 : lastW w D items 0 a = lastW w D (items.drop (i + 1)) (i + 1) (lastW w D (items.take i) 0 a) := by
   conv => lhs; rw [hsplit]
   rw [lastW_append, hlen]
   simp only [lastW, Nat.zero_add, hD]
   rw [if_neg (by simp)]
 rw [e1, e2]
 cases hw : w it with
 | none => rfl
 | some v =>
   simp only [ov]
   refine lastW_none w D _ (i + 1) _ fun j x hj hd => ?_
   rw [List.getElem?_drop] at hj
   exact h2 (by rw [hw]; simp) _ x hj (by omega) hd
end
def Item.val (it : Item) : Path × SV := match it.act with
 | some (p, _, x) => (p, svOf x)
 | none => ([], .v undef)
def wSlot (t : Nat) (it : Item) : Option (Path × SV) := bif isDst it.o.dst t then some it.val else none
def wSize (k : Nat) (it : Item) : Option Nat := match it.act with
 | some (_, .new y, _) => bif Nat.beq it.key k then some y.size else none
 | some (_, .newSlice y _, _) => bif Nat.beq it.key k then some y.size else none
 | some (_, .act _ _ _ _ outs hi, _) => bif inR it.key hi k then (outs.get k).map SV.size else none
 | _ => none
def wCell (S : Stat) (E : Env) (k j : Nat) (it : Item) : Option Value := match it.act with
 | some (_, .store k' o y, _) => bif Nat.beq k' k && (Nat.ble (o.val S) j && Nat.blt j (Nat.add (o.val S) y.size)) then (y.cells S E)[j - o.val S]? else none
 | some (_, .new y, _) => bif Nat.beq it.key k then (y.cells S E)[j]? else none
 | some (_, .newSlice y _, _) => bif Nat.beq it.key k then (y.cells S E)[j]? else none
 | some (_, .act _ _ _ ks outs hi, _) => bif inR it.key hi k || hasN ks k then (match outs.get k with | some y => (y.cells S E)[j]? | none => none) else none
 | _ => none
theorem inR_ok {a b k : Nat} : inR a b k = true ↔ a ≤ k ∧ k < b := by
 unfold inR
 simp
theorem heapOf_get {ks : List Nat} : ∀ {H : Heap} {k : Nat} {x : SV}, (heapOf ks H).get k = some x → H.get k = some x ∧ k ∈ ks
 | [], k, x, h => by simp [heapOf, Heap.get] at h
 | (q, z) :: r, k, x, h => by
   unfold heapOf at h
   cases hb : hasN ks q with
   | true =>
     rw [hb] at h
     simp only [cond_true, Heap.get] at h ⊢
     cases hq : Nat.beq q k with
     | true =>
       rw [hq] at h
       have := Nat.eq_of_beq_eq_true hq; subst this
       exact ⟨by simpa using h, hasN_mem _ _ hb⟩
     | false => rw [hq] at h; simpa using heapOf_get h
   | false =>
     rw [hb] at h
     simp only [cond_false] at h
     obtain ⟨h1, h2⟩ := heapOf_get h
     refine ⟨?_, h2⟩
     simp only [Heap.get]
     cases hq : Nat.beq q k with
     | true =>
       have := Nat.eq_of_beq_eq_true hq; subst this
       have : hasN ks q = true := by
         clear h h1 hb
         induction ks with
         | nil => cases h2
         | cons a l ih =>
           unfold hasN
           cases hc : Nat.beq a q with
           | true => rfl
           | false =>
             rcases List.mem_cons.1 h2 with he | he
             · subst he; simp at hc
             · exact ih he
       rw [this] at hb; cases hb
     | false => simpa using h1
theorem hasN_of {l : List Nat} {k : Nat} : k ∈ l → hasN l k = true := by
 induction l with
 | nil => intro h; cases h
 | cons a l ih =>
   intro h
   unfold hasN
   cases hc : Nat.beq a k with
   | true => rfl
   | false =>
     rcases List.mem_cons.1 h with he | he
     · subst he; simp at hc
     · exact ih he
theorem heapOf_of {ks : List Nat} : ∀ {H : Heap} {k : Nat} {x : SV}, H.get k = some x → k ∈ ks → (heapOf ks H).get k = some x
 | [], k, x, h, _ => by simp [Heap.get] at h
 | (q, z) :: r, k, x, h, hk => by
   simp only [Heap.get] at h
   unfold heapOf
   cases hq : Nat.beq q k with
   | true =>
     rw [hq] at h
     have := Nat.eq_of_beq_eq_true hq; subst this
     rw [hasN_of hk]
     simp only [cond_true, Heap.get, hq]
     exact h
   | false =>
     rw [hq] at h
     cases hb : hasN ks q with
     | true => simp only [cond_true, Heap.get, hq, cond_false]; exact heapOf_of (by simpa using h) hk
     | false => simp only [cond_false]; exact heapOf_of (by simpa using h) hk
def tupTag : Value → Bool
 | .tuple _ => true
 | _ => false
mutual
theorem SV.tags (S : Stat) (E E' : Env) : ∀ x : SV, (x.cells S E).map tupTag = (x.cells S E').map tupTag
 | .agg l => by simp only [SV.cells]; exact SV.tagss S E E' l
 | .foc _ a x b => by simp only [SV.cells, List.map_append, SV.tags S E E' x]
 | .tab _ | .tup _ | .mp _ | .v _ | .kb _ | .ki _ _ | .ptr _ _ | .ix _ | .sl _ | .slc _ _ _ _ | .slu _ _ _ _ | .fn _ _ _ | .rcd _ | .elt _ _ _ _ | .slr _ _ _ _ | .rows _ => by simp [SV.cells, tupTag]
theorem SV.tagss (S : Stat) (E E' : Env) : ∀ l : List SV, (SV.cellss S E l).map tupTag = (SV.cellss S E' l).map tupTag
 | [] => by simp [SV.cellss]
 | x :: r => by simp only [SV.cellss, List.map_append, SV.tags S E E' x, SV.tagss S E E' r]
end
theorem tags_tup (vs : List Value) : ¬ NoTup vs ↔ vs.map tupTag = [true] := by
 constructor
 · intro h
   refine Classical.byContradiction fun hh => h fun t he => hh (by rw [he]; rfl)
 · intro h hn
   match vs, h with
   | [.tuple t], _ => exact hn t rfl
   | [.bool _], h => simp [tupTag] at h
theorem SV.tupE (S : Stat) (E E' : Env) (x : SV) : ¬ NoTup (x.cells S E) ↔ ¬ NoTup (x.cells S E') := by
 rw [tags_tup, tags_tup, SV.tags S E E' x]
section
variable {c : Ctx} {st : St}
def ActSrc (c : Ctx) (st : St) (d : Deed) (f : FuncId) (args : List SV) (a : ActR) : Prop :=
 (d = .call f args ∧ c.read f args st.heap st.next = none ∧ actRes c st f args = some a) ∨ (d = .call f args ∧ c.read f args st.heap st.next = none ∧ makeRes c st f args = some a) ∨ ∃ b k m z, d = .join b k m z ∧ joinRes c st b k m z = some a
theorem stepD_cases {q : Bool} {d sd : Deed} {cd : Option Bool} {r : Option SV × Heap × Nat} (h : stepD c st q d = some (sd, cd, r)) : (calm c st d = true ∧ sd = settle c st d ∧ (perform c st q d).one = some (cd, r)) ∨
   (q = false ∧ ∃ f args a, ActSrc c st d f args a ∧ sd = .act f args a.rs a.ks a.outs a.hi ∧ cd = a.cd ∧ r = (some a.v, putsA st.heap a.outs, a.hi)) := by
 unfold stepD at h
 cases hc : calm c st d with
 | true =>
   rw [hc] at h
   simp only [cond_true] at h
   split at h
   · rename_i cd' r' hr
     obtain ⟨rfl, h2⟩ := Prod.mk.inj (Option.some.inj h)
     obtain ⟨rfl, rfl⟩ := Prod.mk.inj h2
     exact .inl ⟨rfl, rfl, hr⟩
   · cases h
 | false =>
   rw [hc] at h
   simp only [cond_false] at h
   cases q with
   | true => cases h
   | false =>
     simp only [cond_false] at h
     split at h
     · rename_i f args
       split at h
       · rename_i a ha
         obtain ⟨rfl, h2⟩ := Prod.mk.inj (Option.some.inj h)
         obtain ⟨rfl, rfl⟩ := Prod.mk.inj h2
         refine .inr ⟨rfl, f, args, a, .inr (.inl ⟨rfl, ?_, ha⟩), rfl, rfl, rfl⟩
         unfold calm at hc
         dsimp only at hc
         split at hc
         · cases hc
         · assumption
       split at h
       · rename_i a ha
         obtain ⟨rfl, h2⟩ := Prod.mk.inj (Option.some.inj h)
         obtain ⟨rfl, rfl⟩ := Prod.mk.inj h2
         refine .inr ⟨rfl, f, args, a, .inl ⟨rfl, ?_, ha⟩, rfl, rfl, rfl⟩
         unfold calm at hc
         dsimp only at hc
         split at hc
         · cases hc
         · assumption
       · cases h
     · rename_i b k m z
       split at h
       · rename_i a ha
         obtain ⟨rfl, h2⟩ := Prod.mk.inj (Option.some.inj h)
         obtain ⟨rfl, rfl⟩ := Prod.mk.inj h2
         exact .inr ⟨rfl, 0, [], a, .inr (.inr ⟨b, k, m, z, rfl, ha⟩), rfl, rfl, rfl⟩
       · cases h
     · cases h
theorem keepW_get (ro : Nat → Bool) (nx : Nat) : ∀ (H : Heap) (k : Nat), (keepW ro nx H).get k = if (Nat.ble nx k || !(ro k)) = true then H.get k else none
 | [], k => by simp [keepW, Heap.get]
 | (q, x) :: r, k => by
   unfold keepW
   cases hq : Nat.beq q k with
   | true =>
     have := Nat.eq_of_beq_eq_true hq; subst this
     cases hc : (Nat.ble nx q || !(ro q)) with
     | true => simp only [cond_true, Heap.get, hq, if_true]
     | false =>
       simp only [cond_false]
       rw [keepW_get ro nx r q, hc]
       simp
   | false =>
     cases hc : (Nat.ble nx q || !(ro q)) with
     | true => simp only [cond_true, Heap.get, hq, cond_false]; exact keepW_get ro nx r k
     | false => simp only [cond_false, Heap.get, hq]; exact keepW_get ro nx r k
theorem putsA_get (H : Heap) : ∀ (O : Heap) (k : Nat), (putsA H O).get k = match O.get k with | some x => some x | none => H.get k
 | [], k => rfl
 | (q, x) :: r, k => by
   unfold putsA
   rw [Heap.get_put]
   simp only [Heap.get]
   by_cases h : k = q
   · subst h; simp
   · have : Nat.beq q k = false := by
       cases hb : Nat.beq q k with
       | false => rfl
       | true => exact absurd (Nat.eq_of_beq_eq_true hb).symm h
     rw [if_neg h, this, cond_false, putsA_get H r k]
theorem sizesT_get {sub : Heap} {nx : Nat} : ∀ {O : Heap}, sizesT sub nx O = true → ∀ {k : Nat} {x : SV}, O.get k = some x → k < nx → ∃ y, sub.get k = some y ∧ foLikeB y x = true ∧ y.size = x.size
 | [], _, k, x, h, _ => by simp [Heap.get] at h
 | (q, z) :: r, hs, k, x, h, hk => by
   simp only [sizesT, Bool.and_eq_true] at hs
   simp only [Heap.get] at h
   cases hq : Nat.beq q k with
   | true =>
     rw [hq] at h
     have := Nat.eq_of_beq_eq_true hq; subst this
     simp only [cond_true, Option.some.injEq] at h
     subst h
     have h1 := hs.1
     rw [show Nat.blt q nx = true from by simpa using hk] at h1
     simp only [cond_true] at h1
     split at h1
     · rename_i y hy
       simp only [Bool.and_eq_true] at h1
       exact ⟨y, hy, h1.1, Nat.eq_of_beq_eq_true h1.2⟩
     · cases h1
   | false => rw [hq] at h; exact sizesT_get hs.2 (by simpa using h) hk
structure ActF (ro : Nat → Bool) (st : St) (ks : List Nat) (outs : Heap) (hi : Nat) : Prop where
 le : st.next ≤ hi
 bnd : ∀ k x, outs.get k = some x → k < hi ∧ x.bnd hi = true
 foc : ∀ k x, outs.get k = some x → x.notFoc = true ∨ ∃ x0, st.heap.get k = some x0 ∧ foLikeB x0 x = true
 old : ∀ k x, outs.get k = some x → k < st.next → k ∈ ks ∧ ∃ x0, st.heap.get k = some x0 ∧ x0.size = x.size ∧ (x0.noTup = true ∨ x.isTup = true)
 new : ∀ k x, outs.get k = some x → st.next ≤ k → x.noTup = true ∧ ro k = false
 keep : ∀ k x0, st.heap.get k = some x0 → k ∈ ks → ro k = false → ∃ x, outs.get k = some x
 heap : ∀ k x, st.heap.get k = some x → k < st.next ∧ x.bnd st.next = true
theorem actF_of {ks : List Nat} {O : Heap} {hi : Nat} (hb : st.bnd = true) (hok : actOk c.S.ro (heapOf ks st.heap) st.next hi O = true)
   (hsz : sizesT (heapOf ks st.heap) st.next O = true) : ActF c.S.ro st ks O hi := by
 unfold actOk at hok
 simp only [Bool.and_eq_true] at hok
 obtain ⟨h1, h2, h3⟩ := hok
 have hg : ∀ k x, O.get k = some x → _ := fun k x hk => heap_all h2 hk
 refine ⟨Nat.le_of_ble_eq_true h1, fun k x hk => ?_, fun k x hk => ?_, fun k x hk hlt => ?_, fun k x hk hge => ?_, fun k x0 hk hm hro => ?_, (St.bnd_ok hb).2⟩
 · have := hg k x hk
   simp only [Bool.and_eq_true] at this
   exact ⟨by simpa using this.1.1, this.1.2⟩
 · by_cases hlt : k < st.next
   · obtain ⟨y, hy, hfo, _⟩ := sizesT_get hsz hk hlt
     exact .inr ⟨y, (heapOf_get hy).1, hfo⟩
   · have := hg k x hk
     simp only [Bool.and_eq_true] at this
     have t := this.2
     rw [show Nat.blt k st.next = false from by
       cases hq : Nat.blt k st.next with
       | false => rfl
       | true => have : k < st.next := by simpa using hq
                 omega] at t
     simp only [cond_false, Bool.and_eq_true] at t
     exact .inl t.1
 · have := hg k x hk
   simp only [Bool.and_eq_true] at this
   have t := this.2
   rw [show Nat.blt k st.next = true from by simpa using hlt] at t
   simp only [cond_true] at t
   obtain ⟨y, hy, _, hsz⟩ := sizesT_get hsz hk hlt
   rw [hy] at t
   obtain ⟨g1, g2⟩ := heapOf_get hy
   exact ⟨g2, y, g1, hsz, by simpa using t⟩
 · have := hg k x hk
   simp only [Bool.and_eq_true] at this
   have t := this.2
   rw [show Nat.blt k st.next = false from by
     cases hq : Nat.blt k st.next with
     | false => rfl
     | true => have : k < st.next := by simpa using hq
               omega] at t
   simp only [cond_false, Bool.and_eq_true] at t
   simpa using t.2
 · have := heap_all h3 (heapOf_of hk hm)
   simp only [hro, Bool.false_or] at this
   exact Option.isSome_iff_exists.1 this
theorem andC_ok {cd : Option Bool} {b : Bool} (h : okC (andC cd b) = true) : okC cd = true ∧ b = true := by
 cases cd with
 | none => exact ⟨rfl, h⟩
 | some q =>
   have : (q && b) = true := h
   simpa [okC] using this
theorem heapOf_nil : ∀ H : Heap, heapOf [] H = []
 | [] => rfl
 | (k, x) :: r => heapOf_nil r
theorem sizesT_new {nx hi : Nat} {ro : Nat → Bool} : ∀ {O : Heap}, (O.all fun e => (Nat.blt e.1 hi && e.2.bnd hi) && (bif Nat.blt e.1 nx then (match Heap.get [] e.1 with | some x => x.noTup || e.2.isTup | none => false) else e.2.notFoc && (e.2.noTup && !(ro e.1)))) = true → sizesT [] nx O = true
 | [], _ => rfl
 | (k, x) :: r, h => by
   simp only [List.all_cons, Bool.and_eq_true] at h
   unfold sizesT
   rw [sizesT_new (ro := ro) h.2, Bool.and_true]
   cases hb : Nat.blt k nx with
   | false => rfl
   | true => have := h.1.2; rw [hb] at this; simp [Heap.get] at this
theorem actTry_ok {f : FuncId} {args : List SV} {ks : List Nat} {a : ActR} (h : actTry c st f args ks = some a) (hcd : okC a.cd = true) : ∃ r, (c.spec f args (heapOf a.ks st.heap) st.next).sel = some (a.v, r, a.hi) ∧ a.outs = keepW c.S.ro st.next r ∧
   SV.bnds st.next args = true ∧ a.v.bnd a.hi = true ∧ ActF c.S.ro st a.ks a.outs a.hi := by
 unfold actTry at h
 dsimp only at h
 cases hb : (st.bnd && SV.bnds st.next args) with
 | false => rw [hb] at h; cases h
 | true =>
   rw [hb] at h
   simp only [cond_true] at h
   simp only [Bool.and_eq_true] at hb
   split at h
   · rename_i cd r hr
     obtain ⟨v, H', hi⟩ := r
     dsimp only at h
     cases hok : (v.bnd hi && actOk c.S.ro (heapOf ks st.heap) st.next hi (keepW c.S.ro st.next H')) with
     | false => rw [hok] at h; cases h
     | true =>
       rw [hok] at h
       simp only [cond_true, Option.some.injEq] at h
       subst h
       simp only [Bool.and_eq_true] at hok
       cases ks with
       | nil =>
         refine ⟨H', Out.flat_sel hr hcd, rfl, hb.2, hok.1, actF_of hb.1 hok.2 ?_⟩
         rw [heapOf_nil] at hok ⊢
         have h2 := hok.2
         unfold actOk at h2
         simp only [Bool.and_eq_true] at h2
         exact sizesT_new h2.2.1
       | cons k ks =>
         obtain ⟨hc1, hc2⟩ := andC_ok hcd
         exact ⟨H', Out.flat_sel hr hc1, rfl, hb.2, hok.1, actF_of hb.1 hok.2 hc2⟩
   · cases h
theorem actRes_ok {f : FuncId} {args : List SV} {a : ActR} (h : actRes c st f args = some a) (hcd : okC a.cd = true) : ∃ r, (c.spec f args (heapOf a.ks st.heap) st.next).sel = some (a.v, r, a.hi) ∧ a.outs = keepW c.S.ro st.next r ∧
   SV.bnds st.next args = true ∧ a.v.bnd a.hi = true ∧ ActF c.S.ro st a.ks a.outs a.hi := by
 unfold actRes at h
 split at h
 · rename_i a' ha
   injection h with h; subst h
   exact actTry_ok ha hcd
 · exact actTry_ok h hcd
theorem makeRes_ok {f : FuncId} {args : List SV} {a : ActR} (h : makeRes c st f args = some a) (hcd : okC a.cd = true) : ∃ r, (c.make f args (heapOf a.rs st.heap) st.next).sel = some (a.v, r, a.hi) ∧ a.outs = keepW (c.S.still st.next).ro st.next r ∧ a.ks = [] ∧
   SV.bnds st.next args = true ∧ a.v.bnd a.hi = true ∧ ActF c.S.ro st a.ks a.outs a.hi := by
 unfold makeRes at h
 dsimp only at h
 cases hb : (st.bnd && SV.bnds st.next args) with
 | false => rw [hb] at h; cases h
 | true =>
   rw [hb] at h
   simp only [cond_true] at h
   simp only [Bool.and_eq_true] at hb
   split at h
   · rename_i cd r hr
     obtain ⟨v, H', hi⟩ := r
     dsimp only at h
     cases hok : (v.bnd hi && actOk c.S.ro [] st.next hi (keepW (fun k => Nat.blt k st.next) st.next H')) with
     | false => rw [hok] at h; cases h
     | true =>
       rw [hok] at h
       simp only [cond_true, Option.some.injEq] at h
       subst h
       simp only [Bool.and_eq_true] at hok
       refine ⟨H', Out.flat_sel hr hcd, rfl, rfl, hb.2, hok.1, actF_of hb.1 (by rw [heapOf_nil]; exact hok.2) ?_⟩
       rw [heapOf_nil]
       have h2 := hok.2
       unfold actOk at h2
       simp only [Bool.and_eq_true] at h2
       exact sizesT_new h2.2.1
   · cases h
theorem joinRes_ok {b : Option (Nat × Nat)} {k m z : Nat} {a : ActR} (h : joinRes c st b k m z = some a) (hcd : okC a.cd = true) : ∃ r, (perform c ⟨[], heapOf a.ks st.heap, st.next⟩ false (.join b k m z)).sel = some (some a.v, r, a.hi) ∧ a.outs = keepW c.S.ro st.next r ∧
   a.v.bnd a.hi = true ∧ ActF c.S.ro st a.ks a.outs a.hi := by
 unfold joinRes at h
 dsimp only at h
 cases hb : st.bnd with
 | false => rw [hb] at h; cases h
 | true =>
   rw [hb] at h
   simp only [cond_true] at h
   split at h
   · rename_i cd v r hr
     obtain ⟨H', hi⟩ := r
     dsimp only at h
     cases hok : (v.bnd hi && actOk c.S.ro (heapOf (joinKs b k) st.heap) st.next hi (keepW c.S.ro st.next H')) with
     | false => rw [hok] at h; cases h
     | true =>
       rw [hok] at h
       simp only [cond_true, Option.some.injEq] at h
       subst h
       simp only [Bool.and_eq_true] at hok
       obtain ⟨hc1, hc2⟩ := andC_ok hcd
       exact ⟨H', Out.flat_sel hr hc1, rfl, hok.1, actF_of hb hok.2 hc2⟩
   · cases h
theorem ActSrc.facts {d : Deed} {f : FuncId} {args : List SV} {a : ActR} (h : ActSrc c st d f args a) (hcd : okC a.cd = true) : a.v.bnd a.hi = true ∧ ActF c.S.ro st a.ks a.outs a.hi := by
 rcases h with ⟨_, _, h⟩ | ⟨_, _, h⟩ | ⟨b, k, m, z, _, h⟩
 · obtain ⟨r, _, _, _, h1, h2⟩ := actRes_ok h hcd
   exact ⟨h1, h2⟩
 · obtain ⟨r, _, _, _, _, h1, h2⟩ := makeRes_ok h hcd
   exact ⟨h1, h2⟩
 · obtain ⟨r, _, _, h1, h2⟩ := joinRes_ok h hcd
   exact ⟨h1, h2⟩
end
theorem SV.foOk_of {x : SV} (h : x.notFoc = true) (S : Stat) : x.foOk S := by
 cases x <;> first | trivial | cases h
theorem SV.foOk_like {x y : SV} {S : Stat} (h : foLikeB y x = true) (hy : y.foOk S) : x.foOk S := by
 unfold foLikeB at h
 split at h
 · split at h
   · simp only [Bool.and_eq_true, Nat.beq_eq] at h
     obtain ⟨rfl, h2⟩ := h
     show _ = _
     rw [← h2]; exact hy
   · cases h
 · cases x <;> first | trivial | (rename_i hh; exact absurd rfl (hh _ _ _ _))
theorem SV.isTup_no {x : SV} (h : x.isTup = true) (S : Stat) (E : Env) : ¬ NoTup (x.cells S E) := by
 cases x <;> first | (cases h; done) | exact fun hh => hh _ rfl
structure TF (S : Stat) (st0 : St) (items : List Item) (st : St) : Prop where
 slots : ∀ t, st.slots.get t = lastW (wSlot t) (fun _ => true) items 0 (st0.slots.get t)
 size : ∀ k, (st.heap.get k).map SV.size = lastW (wSize k) (fun _ => true) items 0 ((st0.heap.get k).map SV.size)
 cells : ∀ E k x j, st.heap.get k = some x → j < x.size → (x.cells S E)[j]? = lastW (wCell S E k j) (fun _ => true) items 0 ((st0.heap.get k).bind fun x => (x.cells S E)[j]?)
 fo : ∀ k x, st.heap.get k = some x → x.foOk S
 tup : ∀ E k x, st0.heap.get k = some x → ¬ NoTup (x.cells S E) → ∃ y, st.heap.get k = some y ∧ ∀ E, ¬ NoTup (y.cells S E)
theorem TF.start (S : Stat) (st : St) (h : ∀ k x, st.heap.get k = some x → x.foOk S) : TF S st [] st :=
 ⟨fun _ => rfl, fun _ => rfl, fun E k x j hk hj => by simp [lastW, hk], h, fun E k x hk hx => ⟨x, hk, fun E' => (x.tupE S E E').1 hx⟩⟩
theorem lastW_snoc {β : Type} (w : Item → Option β) (l : List Item) (it : Item) (a : Option β) : lastW w (fun _ => true) (l ++ [it]) 0 a = ov (w it) (lastW w (fun _ => true) l 0 a) := by
 rw [lastW_append]; simp [lastW]
theorem putSlot_get {s s' : Slots} {n : Nat} {dst : Option Nat} {p : Path} {x : Option SV} (h : putSlot s n dst p x = some s') (t : Nat) :
   s'.get t = bif isDst dst t then some (p, svOf x) else s.get t := by
 unfold putSlot at h
 cases dst with
 | none => injection h with h; subst h; rfl
 | some d =>
   dsimp only at h
   cases hb : (Nat.blt d n && (s.all fun e => Path.free e.2.1 d) && Path.free p d) with
   | false => rw [hb] at h; cases h
   | true =>
     rw [hb] at h
     simp only [cond_true, Option.some.injEq] at h
     subst h
     simp only [Slots.get, isDst]
theorem wSlot_val {it : Item} {t : Nat} {p : Path} {x : Option SV} (hv : it.val = (p, svOf x)) (a : Option (Path × SV)) :
   ov (wSlot t it) a = bif isDst it.o.dst t then some (p, svOf x) else a := by
 unfold wSlot
 cases isDst it.o.dst t with
 | true => simp [hv, ov]
 | false => rfl
theorem TF.step {S : Stat} {c : Ctx} {n : Nat} {ops : List Oper} {st0 st st1 : St} {items : List Item} {o : Oper} {it : Item} (hS : c.S = S) (h : TF S st0 items st) (hs : stepItem c n ops st o = some (it, st1)) (hcd : okC it.cnd = true) :
   TF S st0 (items ++ [it]) st1 ∧ it.o = o ∧ it.key = st.next := by
 unfold stepItem at hs
 split at hs
 · cases hs
 · split at hs
   · rename_i s' hput
     simp only [Option.some.injEq, Prod.mk.injEq] at hs
     obtain ⟨rfl, rfl⟩ := hs
     refine ⟨⟨fun t => ?_, fun k => ?_, fun E k x j hk hj => ?_, h.fo, h.tup⟩, rfl, rfl⟩
     · rw [lastW_snoc, wSlot_val (p := []) (x := none) rfl, ← h.slots t]
       exact putSlot_get hput t
     · rw [lastW_snoc]; exact h.size k
     · rw [lastW_snoc]; exact h.cells E k x j hk hj
   · cases hs
 · rename_i p hg
   split at hs
   · cases hs
   · rename_i d hd
     split at hs
     · rename_i sd cd r hsd
       split at hs
       · rename_i s' hput
         simp only [Option.some.injEq, Prod.mk.injEq] at hs
         obtain ⟨rfl, rfl⟩ := hs
         rcases stepD_cases hsd with ⟨hcalm, rfl, hr⟩ | ⟨hq, f, args, A, hsrc, rfl, rfl, rfl⟩
         ·
             replace hr := Out.one_sel hr hcd
             have hslots : ∀ t, s'.get t = lastW (wSlot t) (fun _ => true) (items ++ [⟨o, some (p, settle c st d, r.1), st.next, cd⟩]) 0 (st0.slots.get t) := by
               intro t
               rw [lastW_snoc, wSlot_val (x := r.1) (p := p) rfl, ← h.slots t]
               exact putSlot_get hput t
             have hfo := h.fo
             rw [← hS] at hfo
             have hfo1 := perform_fo hr hcalm hfo
             rw [hS] at hfo1
             have htup1 : ∀ E k x, st0.heap.get k = some x → ¬ NoTup (x.cells S E) → ∃ y, r.2.1.get k = some y ∧ ∀ E, ¬ NoTup (y.cells S E) := fun E k x hk hx => by
               obtain ⟨y, hy, hy2⟩ := h.tup E k x hk hx
               exact ⟨y, perform_tup hr hcalm E k y hy (by rw [hS]; exact hy2 E), hy2⟩
             refine ⟨⟨hslots, fun k => ?_, fun E k x j hk hj => ?_, hfo1, htup1⟩, rfl, rfl⟩
             · rw [lastW_snoc, ← h.size k]
               unfold perform at hr
               split at hr
               · simp only [Out.sel, Option.some.injEq] at hr; subst hr; rfl
               · obtain ⟨_, rfl⟩ := Out.when_sel hr; rfl
               · split at hr
                 · split at hr
                   · obtain ⟨_, rfl⟩ := Out.when_sel hr; rfl
                   · cases hr
                 · cases hr
               · rename_i k' o' y
                 cases hq : ((!(isNilP p)) || (c.S.ro k' || !y.one)) with
                 | true => rw [hq] at hr; cases hr
                 | false =>
                   rw [hq] at hr
                   simp only [cond_false] at hr
                   split at hr
                   · rename_i x0 hx0
                     split at hr
                     · rename_i z hz
                       obtain ⟨cz, z⟩ := z
                       obtain ⟨hcz, rfl⟩ := Out.when_sel hr
                       simp only [wSize, settle, Heap.get_put]
                       split
                       · rename_i he; subst he
                         rw [hx0]; simp [(SV.putO_ok c.S ⟨fun _ => default, fun _ => (0, false)⟩ (hfo _ _ hx0) hz hcz).2.1]
                       · rfl
                     · cases hr
                   · cases hr
               · rename_i y
                 cases hq : (!(isNilP p)) with
                 | true => rw [hq] at hr; cases hr
                 | false =>
                   rw [hq] at hr
                   simp only [cond_false] at hr
                   cases hb : (st.bnd && (y.bnd st.next && y.one) && !(c.S.ro st.next)) with
                   | false => rw [hb] at hr; cases hr
                   | true =>
                     rw [hb] at hr
                     simp only [cond_true] at hr
                     simp only [Out.sel, Option.some.injEq] at hr; subst hr
                     simp only [wSize, settle, Heap.get]
                     cases Nat.beq st.next k <;> rfl
               · rename_i y len
                 cases hq : (!(isNilP p)) with
                 | true => rw [hq] at hr; cases hr
                 | false =>
                   rw [hq] at hr
                   simp only [cond_false] at hr
                   cases hb : (st.bnd && (y.bnd st.next && y.one) && !(c.S.ro st.next)) with
                   | false => rw [hb] at hr; cases hr
                   | true =>
                     rw [hb] at hr
                     simp only [cond_true] at hr
                     simp only [Out.sel, Option.some.injEq] at hr; subst hr
                     simp only [wSize, settle, Heap.get]
                     cases Nat.beq st.next k <;> rfl
               · simp [calm] at hcalm
               · simp [calm] at hcalm
               · simp [calm] at hcalm
               · simp [calm] at hcalm
               · simp [calm] at hcalm
               · simp [calm] at hcalm
               · split at hr
                 · split at hr
                   · obtain ⟨_, rfl⟩ := Out.when_sel hr; rfl
                   · cases hr
                 · cases hr
               · split at hr
                 · rename_i T hT
                   cases hkk : (T.kk == _) with
                   | false => rw [hkk] at hr; cases hr
                   | true =>
                     rw [hkk] at hr
                     simp only [cond_true] at hr
                     split at hr
                     · simp only [Out.sel, Option.some.injEq] at hr; subst hr; rfl
                     · cases hr
                 · cases hr
               · simp [calm] at hcalm
               · cases hr
               · cases hr
               · rename_i f args
                 unfold calm at hcalm
                 split at hr
                 · rename_i hp
                   obtain ⟨_, rfl⟩ := Out.when_sel hr; simp [wSize, settle, hp]
                 · rename_i hp
                   dsimp only at hcalm
                   rw [hp] at hcalm; cases hcalm
             · rw [lastW_snoc]
               unfold perform at hr
               split at hr
               · simp only [Out.sel, Option.some.injEq] at hr; subst hr; exact h.cells E k x j hk hj
               · obtain ⟨_, rfl⟩ := Out.when_sel hr; exact h.cells E k x j hk hj
               · split at hr
                 · split at hr
                   · obtain ⟨_, rfl⟩ := Out.when_sel hr; exact h.cells E k x j hk hj
                   · cases hr
                 · cases hr
               · rename_i k' o' y
                 cases hq : ((!(isNilP p)) || (c.S.ro k' || !y.one)) with
                 | true => rw [hq] at hr; cases hr
                 | false =>
                   rw [hq] at hr
                   simp only [cond_false] at hr
                   split at hr
                   · rename_i x0 hx0
                     split at hr
                     · rename_i z hz
                       obtain ⟨cz, z⟩ := z
                       obtain ⟨hcz, rfl⟩ := Out.when_sel hr
                       simp only [Heap.get_put] at hk
                       split at hk
                       · rename_i he; subst he
                         injection hk with hk; subst hk
                         rw [hS] at hz
                         obtain ⟨⟨h1, h2⟩, h3, h4⟩ := SV.putO_ok S E (h.fo _ _ hx0) hz hcz
                         have hl0 := SV.len S E x0
                         have hly := SV.len S E y
                         simp only [wCell, settle]
                         have hbk : Nat.beq k k = true := by simp
                         rw [hbk, Bool.true_and]
                         generalize o'.val S = o' at h1 h2 ⊢
                         cases hin : (Nat.ble o' j && Nat.blt j (Nat.add o' y.size)) with
                         | true =>
                           simp only [Bool.and_eq_true] at hin
                           have ha : o' ≤ j := Nat.le_of_ble_eq_true hin.1
                           have hb : j < o' + y.size := by simpa using hin.2
                           simp only [cond_true]
                           have hcell : (z.cells S E)[j]? = (y.cells S E)[j - o']? := by
                             rw [h1]; unfold splice
                             rw [List.getElem?_append_right (by simp; omega), List.getElem?_append_left (by simp; omega)]
                             congr 1
                             simp; omega
                           rw [hcell]
                           obtain ⟨v, hv⟩ : ∃ v, (y.cells S E)[j - o']? = some v := ⟨_, List.getElem?_eq_getElem (by omega)⟩
                           rw [hv, ov_some]
                         | false =>
                           simp only [cond_false]
                           rw [h3] at hj
                           rw [ov_none, ← h.cells E k x0 j hx0 hj, h1]
                           unfold splice
                           have hout : j < o' ∨ o' + y.size ≤ j := by
                             by_cases h5 : j < o'
                             · exact .inl h5
                             · refine .inr (Nat.le_of_not_lt fun h6 => ?_)
                               have : (Nat.ble o' j && Nat.blt j (Nat.add o' y.size)) = true := by
                                 simp only [Bool.and_eq_true]
                                 exact ⟨Nat.ble_eq_true_of_le (by omega), by simpa using h6⟩
                               rw [this] at hin; cases hin
                           rcases hout with h5 | h5
                           · rw [List.getElem?_append_left (by simp; omega), List.getElem?_take_of_lt h5]
                           · rw [List.getElem?_append_right (by simp; omega), List.getElem?_append_right (by simp; omega), List.getElem?_drop]
                             congr 1
                             simp; omega
                       · rename_i hne
                         have hbk : Nat.beq k' k = false := by
                           cases hb : Nat.beq k' k with
                           | false => rfl
                           | true => exact absurd (Nat.eq_of_beq_eq_true hb).symm hne
                         simp only [wCell, settle, hbk, Bool.false_and, cond_false]
                         exact h.cells E k x j hk hj
                     · cases hr
                   · cases hr
               · rename_i y
                 cases hq : (!(isNilP p)) with
                 | true => rw [hq] at hr; cases hr
                 | false =>
                   rw [hq] at hr
                   simp only [cond_false] at hr
                   cases hb : (st.bnd && (y.bnd st.next && y.one) && !(c.S.ro st.next)) with
                   | false => rw [hb] at hr; cases hr
                   | true =>
                     rw [hb] at hr
                     simp only [cond_true] at hr
                     simp only [Out.sel, Option.some.injEq] at hr; subst hr
                     simp only [Heap.get] at hk
                     simp only [wCell, settle]
                     cases hbk : Nat.beq st.next k with
                     | true =>
                       rw [hbk] at hk
                       simp only [cond_true, Option.some.injEq] at hk
                       subst hk
                       simp only [cond_true]
                       obtain ⟨v, hv⟩ : ∃ v, (y.cells S E)[j]? = some v := ⟨_, List.getElem?_eq_getElem (by rw [SV.len]; exact hj)⟩
                       rw [hv, ov_some]
                     | false =>
                       rw [hbk] at hk
                       simp only [cond_false]
                       exact h.cells E k x j hk hj
               · rename_i y len
                 cases hq : (!(isNilP p)) with
                 | true => rw [hq] at hr; cases hr
                 | false =>
                   rw [hq] at hr
                   simp only [cond_false] at hr
                   cases hb : (st.bnd && (y.bnd st.next && y.one) && !(c.S.ro st.next)) with
                   | false => rw [hb] at hr; cases hr
                   | true =>
                     rw [hb] at hr
                     simp only [cond_true] at hr
                     simp only [Out.sel, Option.some.injEq] at hr; subst hr
                     simp only [Heap.get] at hk
                     simp only [wCell, settle]
                     cases hbk : Nat.beq st.next k with
                     | true =>
                       rw [hbk] at hk
                       simp only [cond_true, Option.some.injEq] at hk
                       subst hk
                       simp only [cond_true]
                       obtain ⟨v, hv⟩ : ∃ v, (y.cells S E)[j]? = some v := ⟨_, List.getElem?_eq_getElem (by rw [SV.len]; exact hj)⟩
                       rw [hv, ov_some]
                     | false =>
                       rw [hbk] at hk
                       simp only [cond_false]
                       exact h.cells E k x j hk hj
               · simp [calm] at hcalm
               · simp [calm] at hcalm
               · simp [calm] at hcalm
               · simp [calm] at hcalm
               · simp [calm] at hcalm
               · simp [calm] at hcalm
               · split at hr
                 · split at hr
                   · obtain ⟨_, rfl⟩ := Out.when_sel hr; exact h.cells E k x j hk hj
                   · cases hr
                 · cases hr
               · split at hr
                 · rename_i T hT
                   cases hkk : (T.kk == _) with
                   | false => rw [hkk] at hr; cases hr
                   | true =>
                     rw [hkk] at hr
                     simp only [cond_true] at hr
                     split at hr
                     · simp only [Out.sel, Option.some.injEq] at hr; subst hr; exact h.cells E k x j hk hj
                     · cases hr
                 · cases hr
               · simp [calm] at hcalm
               · cases hr
               · cases hr
               · rename_i f args
                 unfold calm at hcalm
                 split at hr
                 · rename_i hp
                   obtain ⟨_, rfl⟩ := Out.when_sel hr; simp only [wCell, settle, hp, ov_none]; exact h.cells E k x j hk hj
                 · rename_i hp
                   dsimp only at hcalm
                   rw [hp] at hcalm; cases hcalm
         · obtain ⟨hvb, hF⟩ := hsrc.facts hcd
           refine ⟨⟨fun t => ?_, fun k => ?_, fun E k x j hk hj => ?_, fun k x hk => ?_, fun E k x hk hx => ?_⟩, rfl, rfl⟩
           · rw [lastW_snoc, wSlot_val (x := some A.v) (p := p) rfl, ← h.slots t]
             exact putSlot_get hput t
           · rw [lastW_snoc, ← h.size k]
             simp only [wSize, putsA_get]
             cases hin : inR st.next A.hi k with
             | true =>
               have hge := (inR_ok.1 hin).1
               have hn : st.heap.get k = none := by
                 cases hg : st.heap.get k with
                 | none => rfl
                 | some y => have := (hF.heap k y hg).1; omega
               cases ho : A.outs.get k with
               | none => simp [hn, ov]
               | some y => simp [ov]
             | false =>
               cases ho : A.outs.get k with
               | none => simp [ov]
               | some y =>
                 have hlt : k < st.next := by
                   have := (hF.bnd k y ho).1
                   refine Nat.lt_of_not_le fun hh => ?_
                   rw [inR_ok.2 ⟨hh, this⟩] at hin; cases hin
                 obtain ⟨_, x0, hx0, hsz, _⟩ := hF.old k y ho hlt
                 simp [hx0, hsz, ov]
           · rw [lastW_snoc]
             simp only [putsA_get] at hk
             simp only [wCell]
             cases ho : A.outs.get k with
             | some y =>
               rw [ho] at hk
               simp only [Option.some.injEq] at hk
               subst hk
               have hin : (inR st.next A.hi k || hasN A.ks k) = true := by
                 by_cases hlt : k < st.next
                 · rw [hasN_of (hF.old k y ho hlt).1, Bool.or_true]
                 · rw [inR_ok.2 ⟨Nat.le_of_not_lt hlt, (hF.bnd k y ho).1⟩, Bool.true_or]
               rw [hin]
               simp only [cond_true]
               obtain ⟨u, hu⟩ : ∃ u, (y.cells S E)[j]? = some u := ⟨_, List.getElem?_eq_getElem (by rw [SV.len]; exact hj)⟩
               rw [hu, ov_some]
             | none =>
               rw [ho] at hk
               have : (bif inR st.next A.hi k || hasN A.ks k then (match (none : Option SV) with | some y => (y.cells S E)[j]? | none => none) else none) = none := by cases (inR st.next A.hi k || hasN A.ks k) <;> rfl
               rw [this, ov_none]
               exact h.cells E k x j hk hj
           · simp only [putsA_get] at hk
             cases ho : A.outs.get k with
             | some y => rw [ho] at hk; simp only [Option.some.injEq] at hk; subst hk; exact (hF.foc k y ho).elim (fun h => SV.foOk_of h S) fun ⟨x0, h1, h2⟩ => SV.foOk_like h2 (h.fo k x0 h1)
             | none => rw [ho] at hk; exact h.fo k x hk
           · obtain ⟨y, hy, hy2⟩ := h.tup E k x hk hx
             simp only [putsA_get]
             cases ho : A.outs.get k with
             | none => exact ⟨y, hy, hy2⟩
             | some z =>
               refine ⟨z, rfl, fun E' => ?_⟩
               obtain ⟨_, x0, hx0, _, hor⟩ := hF.old k z ho (hF.heap k y hy).1
               rw [hy] at hx0; injection hx0 with hx0; subst hx0
               rcases hor with hor | hor
               · exact absurd (SV.noTup_ok S E hor) (hy2 E)
               · exact SV.isTup_no hor S E'
       · cases hs
     · cases hs
theorem trace_TF {S : Stat} {c : Ctx} {n : Nat} {ops : List Oper} {st0 : St} (hS : c.S = S) : ∀ (l : List Oper) (pre : List Item) (st st' : St) (items : List Item), TF S st0 pre st → trace c n ops l st = some (items, st') → (∀ it ∈ items, okC it.cnd = true) →
   TF S st0 (pre ++ items) st' ∧ items.length = l.length ∧ ∀ i it, items[i]? = some it → ∃ o sti sti1, l[i]? = some o ∧ it.o = o ∧ it.key = sti.next ∧ TF S st0 (pre ++ items.take i) sti ∧ stepItem c n ops sti o = some (it, sti1)
 | [], pre, st, st', items, h, ht, _ => by
   simp only [trace, Option.some.injEq, Prod.mk.injEq] at ht
   obtain ⟨rfl, rfl⟩ := ht
   exact ⟨by simpa using h, rfl, fun i it hi => by simp at hi⟩
 | o :: r, pre, st, st', items, h, ht, hcs => by
   unfold trace at ht
   split at ht
   · cases ht
   · rename_i q hq
     obtain ⟨it, st1⟩ := q
     split at ht
     · cases ht
     · rename_i q2 hq2
       obtain ⟨items2, st2⟩ := q2
       simp only [Option.some.injEq, Prod.mk.injEq] at ht
       obtain ⟨rfl, rfl⟩ := ht
       obtain ⟨h1, h2, h3⟩ := TF.step hS h hq (hcs it List.mem_cons_self)
       obtain ⟨k1, k2, k3⟩ := trace_TF hS r (pre ++ [it]) st1 st2 items2 h1 hq2 (fun x hx => hcs x (List.mem_cons_of_mem _ hx))
       refine ⟨by simpa using k1, by simp [k2], ?_⟩
       intro i it' hi
       cases i with
       | zero =>
         simp only [List.getElem?_cons_zero, Option.some.injEq] at hi
         subst hi
         exact ⟨o, st, st1, rfl, h2, h3, by simpa using h, hq⟩
       | succ i =>
         obtain ⟨o', sti, sti1, a1, a2, a3, a4, a5⟩ := k3 i it' (by simpa using hi)
         exact ⟨o', sti, sti1, by simpa using a1, a2, a3, by simpa using a4, a5⟩
end Go.Proofs.YtjemfkoamfnofaaGreat
