import Derived.Test.YtjemfkoamfnofaaGreatPlan
set_option linter.unusedVariables false
namespace Go.Proofs.YtjemfkoamfnofaaGreat
open Go Go.RowKit
def apart (a : Addr) (n : Nat) (b : Addr) (m : Nat) : Prop := a.block ≠ b.block ∨ a.off + n ≤ b.off ∨ b.off + m ≤ a.off
theorem apart.symm {a b : Addr} {n m : Nat} (h : apart a n b m) : apart b m a n := by
 rcases h with h | h | h
 · exact .inl (Ne.symm h)
 · exact .inr (.inr h)
 · exact .inr (.inl h)
structure HS (S : Stat) (E : Env) (H : Heap) (w : World) : Prop where
 at_ : ∀ k x, H.get k = some x → 0 < x.size → At w (E.ad k) (x.cells S E)
 wr : ∀ k x, H.get k = some x → 0 < x.size → NoTup (x.cells S E) → S.ro k = false → Wr w (E.ad k).block
 dis : ∀ k k' x x', k ≠ k' → H.get k = some x → H.get k' = some x' → 0 < x.size → 0 < x'.size → S.ro k = false → apart (E.ad k) x.size (E.ad k') x'.size
 fo : ∀ k x, H.get k = some x → x.foOk S
def MH (S : Stat) (E : Env) (H : Heap) (b j : Nat) : Prop := ∃ k x, H.get k = some x ∧ S.ro k = false ∧ b = (E.ad k).block ∧ (E.ad k).off ≤ j ∧ j < (E.ad k).off + x.size
def Own (S : Stat) (E : Env) (H : Heap) (B : Nat) (M : Nat → Nat → Prop) : Prop :=
 ∀ k x, H.get k = some x → S.ro k = false → B ≤ (E.ad k).block ∨ ∀ j, j < x.size → M (E.ad k).block ((E.ad k).off + j)
def Stat.still (S : Stat) (nx : Nat) : Stat := { S with ro := fun k => Nat.blt k nx }
mutual
theorem SV.cells_stat {S S' : Stat} (h1 : S.sl = S'.sl) (h2 : S.ix = S'.ix) (E : Env) : ∀ x : SV, x.cells S E = x.cells S' E
 | .fn _ a b => by simp [SV.cells, SV.dens_stat h1 h2 E a, SV.dens_stat h1 h2 E b]
 | .agg l => by simp [SV.cells, SV.cellss_stat h1 h2 E l]
 | .tup l => by simp [SV.cells, SV.dens_stat h1 h2 E l]
 | .sl _ => by simp [SV.cells, h1]
 | .ix _ => by simp [SV.cells, h2]
 | .elt _ i _ _ => by cases i <;> simp [SV.cells, Ix.int, h2]
 | .foc _ a x b => by simp [SV.cells, SV.cells_stat h1 h2 E x]
 | .tab _ | .mp _ | .v _ | .kb _ | .ki _ _ | .ptr _ _ | .slc _ _ _ _ | .slu _ _ _ _ | .rcd _ | .slr _ _ _ _ | .rows _ => by simp [SV.cells]
theorem SV.cellss_stat {S S' : Stat} (h1 : S.sl = S'.sl) (h2 : S.ix = S'.ix) (E : Env) : ∀ l : List SV, SV.cellss S E l = SV.cellss S' E l
 | [] => by simp [SV.cellss]
 | x :: r => by simp [SV.cellss, SV.cells_stat h1 h2 E x, SV.cellss_stat h1 h2 E r]
theorem SV.den_stat {S S' : Stat} (h1 : S.sl = S'.sl) (h2 : S.ix = S'.ix) (E : Env) : ∀ x : SV, x.den S E = x.den S' E
 | .fn _ a b => by simp [SV.den, SV.dens_stat h1 h2 E a, SV.dens_stat h1 h2 E b]
 | .agg l => by simp [SV.den, SV.cellss_stat h1 h2 E l]
 | .tup l => by simp [SV.den, SV.dens_stat h1 h2 E l]
 | .sl _ => by simp [SV.den, h1]
 | .ix _ => by simp [SV.den, h2]
 | .elt _ i _ _ => by cases i <;> simp [SV.den, Ix.int, h2]
 | .foc _ a x b => by simp [SV.den, SV.cells_stat h1 h2 E x]
 | .tab _ | .mp _ | .v _ | .kb _ | .ki _ _ | .ptr _ _ | .slc _ _ _ _ | .slu _ _ _ _ | .rcd _ | .slr _ _ _ _ | .rows _ => by simp [SV.den]
theorem SV.dens_stat {S S' : Stat} (h1 : S.sl = S'.sl) (h2 : S.ix = S'.ix) (E : Env) : ∀ l : List SV, SV.dens S E l = SV.dens S' E l
 | [] => by simp [SV.dens]
 | x :: r => by simp [SV.dens, SV.den_stat h1 h2 E x, SV.dens_stat h1 h2 E r]
end
theorem SV.foOk_stat {S S' : Stat} (h : S.ix = S'.ix) {x : SV} (hx : x.foOk S) : x.foOk S' := by
 cases x <;> first | trivial | (simp only [SV.foOk] at hx ⊢; rw [← h]; exact hx)
structure Sat (c : Ctx) (n : Nat) (w0 : World) (M : Nat → Nat → Prop) (E : Env) (st : St) (a : Act) (w : World) : Prop where
 slots : SlotsOk c.S E st.slots a
 hs : HS c.S E st.heap w
 own : Own c.S E st.heap w0.heap.size M
 fr : Fr w0 w M
 win : WinOk c.S c.win E
 winb : ∀ n j k z, (n, j, k, z) ∈ c.win → k < st.next
 size : a.tmps.size = n
 defers : a.defers = []
structure CtxFull (P : Program) (c : Ctx) : Prop extends CtxOk P c where
 flds : ∀ t z1 fs z2, c.tys t = some ⟨z1, .strct fs, z2⟩ → (fs.all fun f => (c.tys f.2).isSome) = true
 read : ∀ f args H nx y ks cd, c.read f args H nx = some (y, ks, cd) → okC cd = true → FnIn P f ∧ ∀ E w, (∀ k x, k ∈ ks → H.get k = some x → (0 < x.size → At w (E.ad k) (x.cells c.S E)) ∧ x.foOk c.S) → WinOk c.S c.win E → Calls P f (SV.dens c.S E args).toArray w fun e w' =>
   e = .returned (y.den c.S E) ∧ Fr w w' (fun _ _ => False)
 spec : ∀ f args H nx v H' nx', (c.spec f args H nx).sel = some (v, H', nx') → FnIn P f ∧ ∀ E w, HS c.S E H w → WinOk c.S c.win E → (∀ n j k z, (n, j, k, z) ∈ c.win → k < nx) →
   (∀ k x, H.get k = some x → k < nx ∧ x.bnd nx = true) → Calls P f (SV.dens c.S E args).toArray w fun e w' =>
   ∃ E', Env.upto nx E E' ∧ nx ≤ nx' ∧ e = .returned (v.den c.S E') ∧ HS c.S E' H' w' ∧ Fr w w' (MH c.S E H) ∧
     ∀ k x, H'.get k = some x → c.S.ro k = false → (w.heap.size ≤ (E'.ad k).block ∨ ∀ j, j < x.size → MH c.S E H (E'.ad k).block ((E'.ad k).off + j))
 make : ∀ f args H nx v H' nx', (c.make f args H nx).sel = some (v, H', nx') → FnIn P f ∧ ∀ E w, HS (c.S.still nx) E H w → WinOk c.S c.win E → (∀ n j k z, (n, j, k, z) ∈ c.win → k < nx) →
   (∀ k x, H.get k = some x → k < nx ∧ x.bnd nx = true) → Calls P f (SV.dens c.S E args).toArray w fun e w' =>
   ∃ E', Env.upto nx E E' ∧ nx ≤ nx' ∧ e = .returned (v.den c.S E') ∧ HS (c.S.still nx) E' H' w' ∧ Fr w w' (MH (c.S.still nx) E H) ∧
     ∀ k x, H'.get k = some x → (c.S.still nx).ro k = false → (w.heap.size ≤ (E'.ad k).block ∨ ∀ j, j < x.size → MH (c.S.still nx) E H (E'.ad k).block ((E'.ad k).off + j)) := by
   intro f args H nx v H' nx' h; cases h
 tail : ∀ n ops l st r st', c.tail n ops l st = some r → r.sel = some st' → ∀ (w0 : World) (M : Nat → Nat → Prop) (Q : Exit → Act → World → Prop) (tl : List Oper) (a : Act) (w : World) (E : Env), Sat c n w0 M E st a w →
   (∀ E' a' w', Env.upto st.next E E' → st.next ≤ st'.next → Sat c n w0 M E' st' a' w' → wpList P ops.toArray Q tl a' w') → wpList P ops.toArray Q (l ++ tl) a w := by
   intro n ops l st r st' h; cases h
section
variable {P : Program} {c : Ctx}
theorem plan0_ok (hc : CtxFull P c) {E : Env} {s : Slots} {a : Act} {p : Path} {o : Oper} {d : Deed} (hw : WinOk c.S c.win E) (hs : SlotsOk c.S E s a) (hp : PathHolds a p)
   (h : plan0 c s p o = some d) : Does P c.S E o a d := by
 have h0 := h
 cases ho : o.op <;> simp only [plan0, ho, reduceCtorEq] at h
 case move x => exact plan_move hs hp (.inl ho) h
 case assign x => exact plan_move hs hp (.inr ho) h
 case pick t x y =>
   split at h <;> (try cases h)
   exact plan_pick hs hp ho h
 case alloc t => exact plan_alloc hc.toCtxOk ho h
 case box t x => exact plan_box hs hp ho h
 case build t parts => exact plan_build hc.toCtxOk hs hp ho h0 (hc.flds t)
 case buildSlice t len parts => exact plan_buildSlice hc.toCtxOk hs hp ho h0
 case load t x => exact plan_load hc.toCtxOk hs hp ho h
 case store t x y => exact plan_store hc.toCtxOk hs hp ho h
 case nilCheck x => exact plan_nilCheck hs hp ho h
 case binOp op t x y t' => exact plan_binOp hc.toCtxOk hs hp ho h
 case unOp op t x => exact plan_unOp hs hp ho h
 case convert src dst x => exact plan_convert hc.toCtxOk hs hp ho h
 case makeMap t r =>
   cases r with
   | some r => cases h
   | none => injection h with h; subst h; exact plan_newMap ho _
 case makeSlice t l k => exact plan_makeSlice hc.toCtxOk hs hp ho h0
 case insert t m k x => exact plan_insert hc.toCtxOk hs hp ho h0
 case lookup t m k b =>
   cases b with
   | true => exact plan_lookup2 hc.toCtxOk hs hp ho h0
   | false => exact plan_lookup hc.toCtxOk hs hp ho h0
 case mapUpdate t m k x => exact plan_mapUpdate hc.toCtxOk hs hp ho h0
 case makeFunc fn first cap => exact plan_makeFunc hs hp ho h0
 case fieldAddr t x f => exact plan_fieldAddr hc.toCtxOk hs hp ho h
 case field t x f => exact plan_field hc.toCtxOk hs hp ho h
 case indexAddr t x i => exact plan_indexAddr hc.toCtxOk hw hs hp ho h0
 case index t x i => exact plan_index hc.toCtxOk hs hp ho h0
 case slice t x lo hi mx =>
   cases lo with
   | some r => cases h
   | none => cases hi with
     | none => cases h
     | some h0' => cases mx with
       | none => cases h
       | some m0' => exact plan_slice hc.toCtxOk hs hp ho h
 case extract t i => exact plan_extract hs hp ho h
 case call q => exact plan_call hc.toCtxOk hs hp ho h0
theorem plan_ok (hc : CtxFull P c) {E : Env} {s : Slots} {a : Act} {p : Path} {o : Oper} {d : Deed} (hw : WinOk c.S c.win E) (hs : SlotsOk c.S E s a) (hp : PathHolds a p)
   (h : plan c s p o = some d) : Does P c.S E o a d := by
 unfold plan at h
 split at h
 · rename_i d0 h0
   injection h with h
   subst h
   have hd := plan0_ok hc hw hs hp h0
   unfold sureD
   split
   · exact hd
   unfold sureY
   split
   · rename_i b
     split
     · rename_i t hb
       show (b == t) = true → _
       intro e
       rw [beq_iff_eq] at e
       subst e
       exact hd
     · exact hd
   · exact hd
 · cases h
theorem Heap.get_put : ∀ (H : Heap) (k : Nat) (y : SV) (k' : Nat), (H.put k y).get k' = if k' = k then some y else H.get k'
 | [], k, y, k' => by
   simp only [Heap.put, Heap.get]
   by_cases h : k' = k
   · subst h; simp
   · have : Nat.beq k k' = false := by
       cases hb : Nat.beq k k' with
       | false => rfl
       | true => exact absurd (Nat.eq_of_beq_eq_true hb).symm h
     simp [h, this]
 | (j, x) :: r, k, y, k' => by
   simp only [Heap.put]
   cases hb : Nat.beq j k with
   | true =>
     have := Nat.eq_of_beq_eq_true hb
     subst this
     simp only [cond_true, Heap.get]
     by_cases h : k' = j
     · subst h; simp
     · have : Nat.beq j k' = false := by
         cases hb : Nat.beq j k' with
         | false => rfl
         | true => exact absurd (Nat.eq_of_beq_eq_true hb).symm h
       simp [h, this]
   | false =>
     simp only [cond_false, Heap.get]
     cases hj : Nat.beq j k' with
     | true =>
       have := Nat.eq_of_beq_eq_true hj
       subst this
       have hne : j ≠ k := by intro he; subst he; simp at hb
       simp [hne]
     | false => simp only [cond_false]; exact Heap.get_put r k y k'
theorem Heap.get_cons (k : Nat) (y : SV) (H : Heap) (k' : Nat) : Heap.get ((k, y) :: H) k' = if k' = k then some y else H.get k' := by
 simp only [Heap.get]
 by_cases h : k' = k
 · subst h; simp
 · have : Nat.beq k k' = false := by
     cases hb : Nat.beq k k' with
     | false => rfl
     | true => exact absurd (Nat.eq_of_beq_eq_true hb).symm h
   simp [h, this]
theorem heap_all {H : Heap} {f : Nat × SV → Bool} (h : H.all f = true) {k : Nat} {x : SV} (hk : H.get k = some x) : f (k, x) = true := by
 induction H with
 | nil => simp [Heap.get] at hk
 | cons p r ih =>
   obtain ⟨j, y⟩ := p
   rw [Heap.get_cons] at hk
   simp only [List.all_cons, Bool.and_eq_true] at h
   split at hk
   · rename_i he; subst he; injection hk with hk; subst hk; exact h.1
   · exact ih h.2 hk
theorem slots_all {s : Slots} {f : Nat × Path × SV → Bool} (h : s.all f = true) {d : Nat} {q : Path × SV} (hk : s.get d = some q) : f (d, q) = true := by
 induction s with
 | nil => simp [Slots.get] at hk
 | cons p r ih =>
   obtain ⟨j, y⟩ := p
   simp only [Slots.get] at hk
   simp only [List.all_cons, Bool.and_eq_true] at h
   cases hb : Nat.beq j d with
   | true =>
     rw [hb] at hk
     have := Nat.eq_of_beq_eq_true hb
     subst this
     simp only [cond_true, Option.some.injEq] at hk
     subst hk; exact h.1
   | false => rw [hb] at hk; exact ih h.2 hk
theorem At.spliced {w w' : World} {a : Addr} {vs ys : List Value} {o : Nat} (h : At w a vs) (ho : o + ys.length ≤ vs.length) (hy : At w' ⟨a.block, a.off + o, none⟩ ys)
   {M : Nat → Nat → Prop} (f : Fr w w' M) (hM : ∀ j, M a.block j → a.off + o ≤ j ∧ j < a.off + o + ys.length) (hw : Wr w a.block) (hyp : 0 < ys.length) : At w' a (splice vs o ys) := by
 obtain ⟨hs, cs, t, fr, hb, hn, hc⟩ := h.cells hw (by omega)
 obtain ⟨_, cs2, t2, fr2, hb2, hn2, hc2⟩ := hy.cells (hw.fr f) hyp
 have hlen := splice_len ho
 refine ⟨hs, .inl ⟨cs2, t2, fr2, hb2, ?_, ?_⟩⟩
 · rw [hlen]
   rcases f.blk _ _ hb with h1 | ⟨ds, ds', t', fr', he, h1, hsz, hc'⟩ | ⟨_, es, c0, es', c', he, _⟩
   · rw [hb2] at h1; injection h1 with h1; injection h1 with h1; subst h1; exact hn
   · injection he with h2 h3 h4; subst h2
     rw [hb2] at h1; injection h1 with h1; injection h1 with h1; subst h1; omega
   · cases he
 · intro k v hv
   have hsame : ∀ j, ¬ M a.block j → cs2[j]? = cs[j]? := by
     intro j hj
     rcases f.blk _ _ hb with h1 | ⟨ds, ds', t', fr', he, h1, hsz, hc'⟩ | ⟨_, es, c0, es', c', he, _⟩
     · rw [hb2] at h1; injection h1 with h1; injection h1 with h1; subst h1; rfl
     · injection he with h2 h3 h4; subst h2
       rw [hb2] at h1; injection h1 with h1; injection h1 with h1; subst h1; exact hc' j hj
     · cases he
   unfold splice at hv
   by_cases h1 : k < o
   · rw [List.getElem?_append_left (by simp; omega), List.getElem?_take_of_lt h1] at hv
     exact ⟨by rw [hsame _ (fun hm => by have := hM _ hm; omega)]; exact (hc k v hv).1, (hc k v hv).2⟩
   · by_cases h2 : k < o + ys.length
     · rw [List.getElem?_append_right (by simp; omega), List.getElem?_append_left (by simp; omega)] at hv
       have hm : min o vs.length = o := by omega
       simp only [List.length_take, hm] at hv
       have := hc2 _ _ hv
       rwa [show a.off + o + (k - o) = a.off + k from by omega] at this
     · rw [List.getElem?_append_right (by simp; omega), List.getElem?_append_right (by simp; omega), List.getElem?_drop] at hv
       have hm : min o vs.length = o := by omega
       simp only [List.length_take, hm] at hv
       rw [show o + ys.length + (k - o - ys.length) = k from by omega] at hv
       exact ⟨by rw [hsame _ (fun hm => by have := hM _ hm; omega)]; exact (hc k v hv).1, (hc k v hv).2⟩
theorem SlotsOk.upto {S : Stat} {E E' : Env} {s : Slots} {a : Act} {n : Nat} (h : SlotsOk S E s a) (hu : Env.upto n E E') (hb : (s.all fun x => x.2.2.bnd n) = true) : SlotsOk S E' s a := by
 intro d p x hx
 have := slots_all hb hx
 rw [SV.den_upto S hu x this]
 exact h d p x hx
theorem HS.upto {S : Stat} {E E' : Env} {H : Heap} {w : World} {n : Nat} (h : HS S E H w) (hu : Env.upto n E E') (hb : ∀ k x, H.get k = some x → k < n ∧ x.bnd n = true) : HS S E' H w := by
 refine ⟨fun k x hk hp => ?_, fun k x hk hp hnt hr => ?_, fun k k' x x' hne hk hk' hp hp' hr => ?_, h.fo⟩
 · obtain ⟨h1, h2⟩ := hb k x hk
   rw [(hu k h1).1, SV.cells_upto S hu x h2]
   exact h.at_ k x hk hp
 · rw [(hu k (hb k x hk).1).1]; rw [SV.cells_upto S hu x (hb k x hk).2] at hnt; exact h.wr k x hk hp hnt hr
 · rw [(hu k (hb k x hk).1).1, (hu k' (hb k' x' hk').1).1]
   exact h.dis k k' x x' hne hk hk' hp hp' hr
theorem WinOk.upto {S : Stat} {win : List (Nat × Nat × Nat × Nat)} {E E' : Env} {n : Nat} (h : WinOk S win E) (hu : Env.upto n E E') (hb : ∀ m j k z, (m, j, k, z) ∈ win → k < n) : WinOk S win E' := by
 intro m j k z hm
 obtain ⟨ad, len, cap, h1, h2, h3, h4⟩ := h m j k z hm
 exact ⟨ad, len, cap, h1, h2, h3, by rw [hu.place (hb m j k z hm)]; exact h4⟩
def vOf (S : Stat) (E : Env) : Option SV → Value
 | some y => y.den S E
 | none => undef
theorem cellss_append (S : Stat) (E : Env) : ∀ x y : List SV, SV.cellss S E (x ++ y) = SV.cellss S E x ++ SV.cellss S E y
 | [], y => by simp [SV.cellss]
 | a :: r, y => by simp [SV.cellss, cellss_append S E r y]
theorem bnds_append (n : Nat) : ∀ x y : List SV, SV.bnds n (x ++ y) = (SV.bnds n x && SV.bnds n y)
 | [], y => by simp [SV.bnds, SV.kalls]
 | a :: r, y => by
   have := bnds_append n r y
   simp only [SV.bnds] at this ⊢
   simp [SV.kalls, this, Bool.and_assoc]
theorem partsOf_ok {x : SV} {l : List SV} (h : partsOf x = some l) : x.size = SV.sizes l ∧ (∀ S E, x.cells S E = SV.cellss S E l) ∧ ∀ n, x.bnd n = true → SV.bnds n l = true := by
 unfold partsOf at h
 split at h
 · injection h with h; subst h; exact ⟨rfl, fun S E => rfl, fun n hb => hb⟩
 · injection h with h; subst h
   exact ⟨by simp [SV.sizes, SV.size], fun S E => by simp [SV.cellss, SV.cells], fun n _ => rfl⟩
 · cases h
theorem cond_none {α : Type} {b : Bool} {x : Option α} {y : α} (h : (bif b then x else none) = some y) : x = some y := by cases b with | true => exact h | false => cases h
theorem joinPart_ok {H : Heap} {b : Option (Nat × Nat)} {m z : Nat} {cd : Option Bool} {lx : List SV} (hx : joinPart H b m z = some (cd, lx)) (hcd : okC cd = true) (hf : joinFits cd (joinLen b + m) = true) : joinLen b + m ≤ 134217728 ∧ ((lx = [] ∧ joinLen b = 0) ∨ ∃ q n y, b = some (q, n) ∧ H.get q = some y ∧ SV.sizes lx = n * z ∧ y.size = n * z ∧ ∀ S E, y.cells S E = SV.cellss S E lx) := by
 unfold joinPart at hx
 cases b with
 | none =>
   simp only [Option.some.injEq, Prod.mk.injEq] at hx
   obtain ⟨rfl, rfl⟩ := hx
   exact ⟨Nat.le_of_ble_eq_true hf, .inl ⟨rfl, rfl⟩⟩
 | some qn =>
   obtain ⟨q, n⟩ := qn
   dsimp only at hx
   split at hx
   · rename_i l hl
     cases hq : Nat.beq (SV.sizes l) (Nat.mul n z) with
     | false => rw [hq] at hx; cases hx
     | true =>
       rw [hq] at hx
       simp only [cond_true, Option.some.injEq, Prod.mk.injEq] at hx
       obtain ⟨rfl, rfl⟩ := hx
       have hs := Nat.eq_of_beq_eq_true hq
       exact ⟨Nat.le_of_ble_eq_true hf, .inr ⟨q, n, _, rfl, hl, hs, hs, fun S E => rfl⟩⟩
   · rename_i R hl
     cases hq : Nat.beq R.z z with
     | false => rw [hq] at hx; cases hx
     | true =>
       rw [hq] at hx
       simp only [cond_true, Option.some.injEq, Prod.mk.injEq] at hx
       obtain ⟨rfl, rfl⟩ := hx
       obtain ⟨h1, h2⟩ : n = R.len ∧ n + m ≤ 134217728 := by simpa [okC] using hcd
       have hz := Nat.eq_of_beq_eq_true hq
       refine ⟨h2, .inr ⟨q, n, _, rfl, hl, ?_, ?_, fun S E => ?_⟩⟩
       · simp only [SV.sizes, SV.size, h1, hz, Nat.add_eq, Nat.mul_eq, Nat.add_zero]
       · simp only [SV.size, h1, hz, Nat.mul_eq]
       · simp [SV.cellss, SV.cells]
   · cases hq : Nat.beq n 0 with
     | false => rw [hq] at hx; cases hx
     | true =>
       rw [hq] at hx
       simp only [cond_true, Option.some.injEq, Prod.mk.injEq] at hx
       obtain ⟨rfl, rfl⟩ := hx
       exact ⟨Nat.le_of_ble_eq_true hf, .inl ⟨rfl, Nat.eq_of_beq_eq_true hq⟩⟩
   · cases hx
theorem perform_quiet {st : St} {d : Deed} {r : Option SV × Heap × Nat} (h : (perform c st true d).sel = some r) : r.2.1 = st.heap ∧ r.2.2 = st.next := by
 unfold perform at h
 split at h
 · simp only [Out.sel, Option.some.injEq] at h; subst h; exact ⟨rfl, rfl⟩
 · obtain ⟨_, rfl⟩ := Out.when_sel h; exact ⟨rfl, rfl⟩
 · split at h
   · split at h
     · obtain ⟨_, rfl⟩ := Out.when_sel h; exact ⟨rfl, rfl⟩
     · cases h
   · cases h
 · simp [Out.sel] at h
 · simp [Out.sel] at h
 · simp [Out.sel] at h
 · simp [Out.sel] at h
 · simp [Out.sel] at h
 · simp [Out.sel] at h
 · simp [Out.sel] at h
 · simp [Out.sel] at h
 · simp [Out.sel] at h
 · split at h
   · split at h
     · obtain ⟨_, rfl⟩ := Out.when_sel h; exact ⟨rfl, rfl⟩
     · simp [Out.sel] at h
   · simp [Out.sel] at h
 · split at h
   · rename_i T hT
     cases hb : (T.kk == _) with
     | false => rw [hb] at h; simp [Out.sel] at h
     | true =>
       rw [hb] at h
       simp only [cond_true] at h
       split at h
       · simp only [Out.sel, Option.some.injEq] at h; subst h; exact ⟨rfl, rfl⟩
       · simp [Out.sel] at h
   · simp [Out.sel] at h
 · simp [Out.sel] at h
 · simp [Out.sel] at h
 · simp [Out.sel] at h
 · split at h
   · obtain ⟨_, rfl⟩ := Out.when_sel h; exact ⟨rfl, rfl⟩
   · simp [Out.sel] at h
theorem St.bnd_ok {st : St} (h : st.bnd = true) : (st.slots.all fun x => x.2.2.bnd st.next) = true ∧ ∀ k x, st.heap.get k = some x → k < st.next ∧ x.bnd st.next = true := by
 unfold St.bnd at h
 simp only [Bool.and_eq_true] at h
 refine ⟨h.1, fun k x hk => ?_⟩
 have := heap_all h.2 hk
 simp only [Bool.and_eq_true] at this
 exact ⟨by simpa using this.1, this.2⟩
def After (c : Ctx) (n : Nat) (w0 : World) (M : Nat → Nat → Prop) (E : Env) (st : St) (a : Act) (r : Option SV × Heap × Nat) (E' : Env) (w' : World) : Prop :=
 Env.upto st.next E E' ∧ st.next ≤ r.2.2 ∧ Sat c n w0 M E' { slots := st.slots, heap := r.2.1, next := r.2.2 } a w'
theorem foOk_cons {S : Stat} {H : Heap} {n : Nat} {y : SV} (hy : y.foOk S) (h : ∀ k x, H.get k = some x → x.foOk S) : ∀ k x, Heap.get ((n, y) :: H) k = some x → x.foOk S := by
 intro k x hk
 rw [Heap.get_cons] at hk
 split at hk
 · injection hk with hk; subst hk; exact hy
 · exact h k x hk
theorem new_ok {n : Nat} {w0 : World} {M : Nat → Nat → Prop} {E : Env} {st : St} {a : Act} {w : World} (sat : Sat c n w0 M E st a w) {y : SV} (hb : st.bnd = true) (hy : y.bnd st.next = true) (hy1 : y.one = true) (t : TypeId) (osv : Option SV) :
   ∃ E' : Env, E'.ad st.next = ⟨w.heap.size, 0, none⟩ ∧ After c n w0 M E st a (osv, (st.next, y) :: st.heap, st.next + 1) E' (w.alloc (.cells (y.cells c.S E).toArray t)) := by
 obtain ⟨hb1, hb2⟩ := St.bnd_ok hb
 refine ⟨{ ad := fun k => if k = st.next then ⟨w.heap.size, 0, none⟩ else E.ad k, cp := E.cp }, by simp, ?_, by simp, ?_⟩
 · intro k hk
   have : k ≠ st.next := by omega
   simp [this]
 · have hu : Env.upto st.next E { ad := fun k => if k = st.next then ⟨w.heap.size, 0, none⟩ else E.ad k, cp := E.cp } := by
     intro k hk
     have : k ≠ st.next := by omega
     simp [this]
   have hs' := sat.hs.upto hu hb2
   have hfr := Fr.alloc w (.cells (y.cells c.S E).toArray t) (fun _ _ => False)
   refine ⟨sat.slots.upto hu hb1, ⟨?_, ?_, ?_, foOk_cons (SV.foOk_one hy1) hs'.fo⟩, ?_, sat.fr.trans (Fr.alloc w _ (fun _ _ => False)) (fun _ _ _ h => h.elim), sat.win.upto hu sat.winb, fun m j k z hm => Nat.lt_succ_of_lt (sat.winb m j k z hm), sat.size, sat.defers⟩
   · intro k x hk hp
     rw [Heap.get_cons] at hk
     split at hk
     · rename_i he; subst he
       injection hk with hk; subst hk
       rw [SV.cells_upto c.S hu y hy]
       simpa using At.alloc w (y.cells c.S E) t (SV.one_cells c.S E y hy1)
     · exact (hs'.at_ k x hk hp).fr hfr (fun _ _ h => h)
   · intro k x hk hp hnt hr
     rw [Heap.get_cons] at hk
     split at hk
     · rename_i he; subst he
       simpa using Wr.alloc w _ t
     · exact (hs'.wr k x hk hp hnt hr).fr hfr
   · intro k k' x x' hne hk hk' hp hp' hr
     have hold : ∀ j z, st.heap.get j = some z → 0 < z.size → j ≠ st.next → (if j = st.next then (⟨w.heap.size, 0, none⟩ : Addr) else E.ad j).block ≠ w.heap.size := by
       intro j z hj hz hj'
       rw [if_neg hj']
       exact Nat.ne_of_lt (sat.hs.at_ j z hj hz).lt
     rw [Heap.get_cons] at hk hk'
     split at hk
     · rename_i he
       rw [if_neg (fun h => hne (he.trans h.symm))] at hk'
       refine .inl ?_
       have := hold k' x' hk' hp' (fun h => hne (he.trans h.symm))
       simp only [he, if_true]
       exact fun h => this h.symm
     · rename_i he
       split at hk'
       · rename_i he'
         refine .inl ?_
         have := hold k x hk hp he
         simp only [he', if_true]
         exact this
       · exact hs'.dis k k' x x' hne hk hk' hp hp' hr
   · intro k x hk hr
     rw [Heap.get_cons] at hk
     split at hk
     · rename_i he; subst he
       exact .inl (by simpa using sat.fr.size)
     · have hlt := (hb2 k x hk).1
       have hne : k ≠ st.next := by omega
       have := sat.own k x hk hr
       simpa [hne] using this
theorem Fr.drewAlloc (w : World) (o : Obj) (M : Nat → Nat → Prop) : Fr w (w.drew.alloc o) M :=
 ⟨rfl, rfl, rfl, by simp, fun b x h => .inl (by have h' : w.drew.heap[b]? = some x := h; rw [heap_alloc_old _ _ (lt_of_some h')]; exact h')⟩
theorem At.drewAlloc (w : World) (vs junk : List Value) (t : TypeId) (h1 : ∀ v ∈ vs, v.oneCell' = true) : At (w.drew.alloc (.cells (vs ++ junk).toArray t)) ⟨w.heap.size, 0, none⟩ vs :=
 ⟨rfl, .inl ⟨(vs ++ junk).toArray, t, (0, 0), heap_alloc_new _ _, by simp, fun k v hv => by
   have hk : k < vs.length := (List.getElem?_eq_some_iff.1 hv).1
   exact ⟨by simp [List.getElem?_append_left hk, hv], h1 v (List.mem_of_getElem? hv)⟩⟩⟩
theorem grow_ok {n : Nat} {w0 : World} {M : Nat → Nat → Prop} {E : Env} {st : St} {a : Act} {w w' : World} (sat : Sat c n w0 M E st a w) {y : SV} (hb : st.bnd = true) (hy : y.bnd st.next = true) (hyf : y.foOk c.S) (ad : Addr) (cp : Nat × Bool) (osv : Option SV) (hfr : Fr w w' (fun _ _ => False))
   (hat : 0 < y.size → At w' ad (y.cells c.S E) ∧ (NoTup (y.cells c.S E) → Wr w' ad.block) ∧ w.heap.size ≤ ad.block) :
   ∃ E' : Env, E'.ad st.next = ad ∧ E'.cp st.next = cp ∧ Env.upto st.next E E' ∧ After c n w0 M E st a (osv, (st.next, y) :: st.heap, st.next + 1) E' w' ∧ After c n w0 M E st a (osv, st.heap, st.next + 1) E' w' := by
 obtain ⟨hb1, hb2⟩ := St.bnd_ok hb
 have hu : Env.upto st.next E { ad := fun k => if k = st.next then ad else E.ad k, cp := fun k => if k = st.next then cp else E.cp k } := by
   intro k hk
   have : k ≠ st.next := by omega
   simp [this]
 have hs' := sat.hs.upto hu hb2
 have hold : ∀ k x, st.heap.get k = some x → k ≠ st.next := fun k x hk => by have := (hb2 k x hk).1; omega
 refine ⟨{ ad := fun k => if k = st.next then ad else E.ad k, cp := fun k => if k = st.next then cp else E.cp k }, by simp, by simp, hu, ⟨hu, by simp, ?_⟩, ⟨hu, by simp, ?_⟩⟩
 · refine ⟨sat.slots.upto hu hb1, ⟨?_, ?_, ?_, foOk_cons hyf hs'.fo⟩, ?_, sat.fr.trans hfr (fun _ _ _ h => h.elim), sat.win.upto hu sat.winb, fun m j k z hm => Nat.lt_succ_of_lt (sat.winb m j k z hm), sat.size, sat.defers⟩
   · intro k x hk hp
     rw [Heap.get_cons] at hk
     split at hk
     · rename_i he; subst he
       injection hk with hk; subst hk
       rw [SV.cells_upto c.S hu y hy]
       simpa using (hat hp).1
     · exact (hs'.at_ k x hk hp).fr hfr (fun _ _ h => h)
   · intro k x hk hp hnt hr
     rw [Heap.get_cons] at hk
     split at hk
     · rename_i he; subst he
       injection hk with hk; subst hk
       rw [SV.cells_upto c.S hu y hy] at hnt
       simpa using (hat hp).2.1 hnt
     · exact (hs'.wr k x hk hp hnt hr).fr hfr
   · intro k k' x x' hne hk hk' hp hp' hr
     rw [Heap.get_cons] at hk hk'
     split at hk
     · rename_i he
       rw [if_neg (fun h => hne (he.trans h.symm))] at hk'
       injection hk with hk; subst hk
       refine .inl ?_
       have h1 := (hat hp).2.2
       have h2 := (sat.hs.at_ k' x' hk' hp').lt
       have h3 := hold k' x' hk'
       simp only [he, if_true, h3, if_false]
       omega
     · rename_i he
       split at hk'
       · rename_i he'
         injection hk' with hk'; subst hk'
         refine .inl ?_
         have h1 := (hat hp').2.2
         have h2 := (sat.hs.at_ k x hk hp).lt
         have h3 := hold k x hk
         simp only [he', if_true, h3, if_false]
         omega
       · exact hs'.dis k k' x x' hne hk hk' hp hp' hr
   · intro k x hk hr
     rw [Heap.get_cons] at hk
     split at hk
     · rename_i he; subst he
       injection hk with hk; subst hk
       rcases Nat.eq_zero_or_pos y.size with h0 | hp
       · exact .inr fun j hj => by omega
       · refine .inl ?_
         have := (hat hp).2.2
         have := sat.fr.size
         simp only [if_true]
         omega
     · have := sat.own k x hk hr
       have h3 := hold k x hk
       simpa [h3] using this
 · refine ⟨sat.slots.upto hu hb1, ⟨?_, ?_, ?_, hs'.fo⟩, ?_, sat.fr.trans hfr (fun _ _ _ h => h.elim), sat.win.upto hu sat.winb, fun m j k z hm => Nat.lt_succ_of_lt (sat.winb m j k z hm), sat.size, sat.defers⟩
   · intro k x hk hp
     exact (hs'.at_ k x hk hp).fr hfr (fun _ _ h => h)
   · intro k x hk hp hnt hr
     exact (hs'.wr k x hk hp hnt hr).fr hfr
   · intro k k' x x' hne hk hk' hp hp' hr
     exact hs'.dis k k' x x' hne hk hk' hp hp' hr
   · intro k x hk hr
     have := sat.own k x hk hr
     have h3 := hold k x hk
     simpa [h3] using this
theorem store_ok {n : Nat} {w0 : World} {M : Nat → Nat → Prop} {E : Env} {st : St} {a : Act} {w : World} (sat : Sat c n w0 M E st a w) {k : Nat} {oo : Off} {x y z : SV} {cd : Option Bool} (hk : st.heap.get k = some x) (hr : c.S.ro k = false)
   (hz : x.putO c.S oo y = some (cd, z)) (hcd : okC cd = true) (hy1 : ∀ v ∈ y.cells c.S E, v.oneCell' = true) (hyf : y.foOk c.S) :
   ∃ w', (storeCells (E.place k (oo.val c.S)) (y.cells c.S E)).run P w = .ok () w' ∧ After c n w0 M E st a (none, st.heap.put k z, st.next) E w' := by
 obtain ⟨⟨h1, h2⟩, h3, h4⟩ := SV.putO_ok c.S E (sat.hs.fo k x hk) hz hcd
 have hzf := SV.putO_foOk hz (sat.hs.fo k x hk) hyf
 generalize oo.val c.S = o at h1 h2 ⊢
 have hyl : (y.cells c.S E).length = y.size := SV.len c.S E y
 have hxl : (x.cells c.S E).length = x.size := SV.len c.S E x
 have hxp : 0 < x.size := by omega
 have hat := sat.hs.at_ k x hk hxp
 have hwr := sat.hs.wr k x hk hxp (SV.noTup_ok c.S E (SV.putO_noTup hz)) hr
 have hsub := hat.sub o y.size h2
 have hsl : ((x.cells c.S E).drop o |>.take y.size).length = y.size := by simp; omega
 obtain ⟨w', hrun, hat', hsz, hfr⟩ := hsub.stored (P := P) hwr (y.cells c.S E) (by rw [hyl, hsl]) hy1
 rw [hsl] at hfr
 refine ⟨w', hrun, Env.upto.refl _ _, Nat.le_refl _, sat.slots, ⟨?_, ?_, ?_, fun k' x' hk' => ?_⟩, ?_, ?_, sat.win, sat.winb, sat.size, sat.defers⟩
 · intro k' x' hk' hp'
   rw [Heap.get_put] at hk'
   split at hk'
   · rename_i he; subst he
     injection hk' with hk'; subst hk'
     rw [h1]
     exact hat.spliced (by rw [hyl]; exact h2) hat' hfr (fun j hj => ⟨hj.2.1, by rw [hyl]; exact hj.2.2⟩) hwr (by rw [hyl]; omega)
   · rename_i he
     refine (sat.hs.at_ k' x' hk' hp').fr hfr ?_
     intro j hj ⟨hb, hlo, hhi⟩
     rw [SV.len] at hj
     have hd := sat.hs.dis k k' x x' (Ne.symm he) hk hk' hxp hp' hr
     simp only at hb hlo hhi
     rcases hd with hd | hd | hd
     · exact hd hb.symm
     · omega
     · omega
 · intro k' x' hk' hp' hnt' hr'
   rw [Heap.get_put] at hk'
   split at hk'
   · rename_i he; subst he; exact hwr.fr hfr
   · exact (sat.hs.wr k' x' hk' hp' hnt' hr').fr hfr
 · intro j j' x1 x2 hne h1' h2' hp1 hp2 hr'
   rw [Heap.get_put] at h1' h2'
   have e1 : ∃ u, st.heap.get j = some u ∧ u.size = x1.size := by
     split at h1'
     · rename_i he; subst he; injection h1' with h1'; subst h1'; exact ⟨x, hk, h3.symm⟩
     · exact ⟨x1, h1', rfl⟩
   have e2 : ∃ u, st.heap.get j' = some u ∧ u.size = x2.size := by
     split at h2'
     · rename_i he; subst he; injection h2' with h2'; subst h2'; exact ⟨x, hk, h3.symm⟩
     · exact ⟨x2, h2', rfl⟩
   obtain ⟨u1, hu1, hs1⟩ := e1
   obtain ⟨u2, hu2, hs2⟩ := e2
   rw [← hs1] at hp1 ⊢
   rw [← hs2] at hp2 ⊢
   exact sat.hs.dis j j' u1 u2 hne hu1 hu2 hp1 hp2 hr'
 · rw [Heap.get_put] at hk'
   split at hk'
   · injection hk' with hk'; subst hk'; exact hzf
   · exact sat.hs.fo k' x' hk'
 · intro j x1 hj hr'
   rw [Heap.get_put] at hj
   split at hj
   · rename_i he; subst he; injection hj with hj; subst hj
     rw [h3]; exact sat.own j x hk hr'
   · exact sat.own j x1 hj hr'
 · refine sat.fr.trans hfr ?_
   intro b j hlt ⟨hb, hlo, hhi⟩
   simp only at hb hlo hhi
   rcases sat.own k x hk hr with h | h
   · omega
   · have := h (j - (E.ad k).off) (by omega)
     rw [show (E.ad k).off + (j - (E.ad k).off) = j from by omega] at this
     rw [hb]; exact this
theorem perform_fo {st : St} {q : Bool} {d : Deed} {r : Option SV × Heap × Nat} (h : (perform c st q d).sel = some r) (hcalm : calm c st d = true) (hfo : ∀ k x, st.heap.get k = some x → x.foOk c.S) : ∀ k x, r.2.1.get k = some x → x.foOk c.S := by
 unfold perform at h
 split at h
 · simp only [Out.sel, Option.some.injEq] at h; subst h; exact hfo
 · obtain ⟨_, rfl⟩ := Out.when_sel h; exact hfo
 · split at h
   · split at h
     · obtain ⟨_, rfl⟩ := Out.when_sel h; exact hfo
     · cases h
   · cases h
 · rename_i k o y
   cases hb : (q || (c.S.ro k || !y.one)) with
   | true => rw [hb] at h; cases h
   | false =>
     rw [hb] at h
     simp only [cond_false] at h
     simp only [Bool.or_eq_false_iff, Bool.not_eq_false'] at hb
     split at h
     · rename_i x hx
       split at h
       · rename_i z hz
         obtain ⟨cz, z⟩ := z
         obtain ⟨_, rfl⟩ := Out.when_sel h
         intro k' x' hk'
         rw [Heap.get_put] at hk'
         split at hk'
         · injection hk' with hk'; subst hk'
           exact SV.putO_foOk hz (hfo k x hx) (SV.foOk_one hb.2.2)
         · exact hfo k' x' hk'
       · cases h
     · cases h
 · rename_i y
   cases q with
   | true => cases h
   | false =>
     simp only [cond_false] at h
     cases hb : (st.bnd && (y.bnd st.next && y.one) && !(c.S.ro st.next)) with
     | false => rw [hb] at h; cases h
     | true =>
       rw [hb] at h; simp only [cond_true, Out.sel, Option.some.injEq] at h; subst h
       simp only [Bool.and_eq_true] at hb
       exact foOk_cons (SV.foOk_one hb.1.2.2) hfo
 · rename_i y len
   cases q with
   | true => cases h
   | false =>
     simp only [cond_false] at h
     cases hb : (st.bnd && (y.bnd st.next && y.one) && !(c.S.ro st.next)) with
     | false => rw [hb] at h; cases h
     | true =>
       rw [hb] at h; simp only [cond_true, Out.sel, Option.some.injEq] at h; subst h
       simp only [Bool.and_eq_true] at hb
       exact foOk_cons (SV.foOk_one hb.1.2.2) hfo
 · simp [calm] at hcalm
 · simp [calm] at hcalm
 · simp [calm] at hcalm
 · simp [calm] at hcalm
 · simp [calm] at hcalm
 · simp [calm] at hcalm
 · split at h
   · split at h
     · obtain ⟨_, rfl⟩ := Out.when_sel h; exact hfo
     · cases h
   · cases h
 · split at h
   · rename_i T hT
     cases hb : (T.kk == _) with
     | false => rw [hb] at h; cases h
     | true =>
       rw [hb] at h
       simp only [cond_true] at h
       split at h
       · simp only [Out.sel, Option.some.injEq] at h; subst h; exact hfo
       · cases h
   · cases h
 · simp [calm] at hcalm
 · cases h
 · cases h
 · unfold calm at hcalm
   split at h
   · obtain ⟨_, rfl⟩ := Out.when_sel h; exact hfo
   · rename_i hno
     dsimp only at hcalm
     rw [hno] at hcalm; cases hcalm
theorem perform_tup {st : St} {q : Bool} {d : Deed} {r : Option SV × Heap × Nat} (h : (perform c st q d).sel = some r) (hcalm : calm c st d = true) (E : Env) : ∀ k x, st.heap.get k = some x → ¬ NoTup (x.cells c.S E) → r.2.1.get k = some x := by
 intro k x hk hx
 unfold perform at h
 split at h
 · simp only [Out.sel, Option.some.injEq] at h; subst h; exact hk
 · obtain ⟨_, rfl⟩ := Out.when_sel h; exact hk
 · split at h
   · split at h
     · obtain ⟨_, rfl⟩ := Out.when_sel h; exact hk
     · cases h
   · cases h
 · rename_i k0 o y
   cases hb : (q || (c.S.ro k0 || !y.one)) with
   | true => rw [hb] at h; cases h
   | false =>
     rw [hb] at h
     simp only [cond_false] at h
     split at h
     · rename_i x0 hx0
       split at h
       · rename_i z hz
         obtain ⟨cz, z⟩ := z
         obtain ⟨_, rfl⟩ := Out.when_sel h
         rw [Heap.get_put]
         split
         · rename_i he; subst he
           rw [hx0] at hk; injection hk with hk; subst hk
           exact absurd (SV.noTup_ok c.S E (SV.putO_noTup hz)) hx
         · exact hk
       · cases h
     · cases h
 · rename_i y
   cases q with
   | true => cases h
   | false =>
     simp only [cond_false] at h
     cases hb : (st.bnd && (y.bnd st.next && y.one) && !(c.S.ro st.next)) with
     | false => rw [hb] at h; cases h
     | true =>
       rw [hb] at h; simp only [cond_true, Out.sel, Option.some.injEq] at h; subst h
       simp only [Bool.and_eq_true] at hb
       have := ((St.bnd_ok hb.1.1).2 k x hk).1
       rw [Heap.get_cons, if_neg (by omega)]; exact hk
 · rename_i y len
   cases q with
   | true => cases h
   | false =>
     simp only [cond_false] at h
     cases hb : (st.bnd && (y.bnd st.next && y.one) && !(c.S.ro st.next)) with
     | false => rw [hb] at h; cases h
     | true =>
       rw [hb] at h; simp only [cond_true, Out.sel, Option.some.injEq] at h; subst h
       simp only [Bool.and_eq_true] at hb
       have := ((St.bnd_ok hb.1.1).2 k x hk).1
       rw [Heap.get_cons, if_neg (by omega)]; exact hk
 · simp [calm] at hcalm
 · simp [calm] at hcalm
 · simp [calm] at hcalm
 · simp [calm] at hcalm
 · simp [calm] at hcalm
 · simp [calm] at hcalm
 · split at h
   · split at h
     · obtain ⟨_, rfl⟩ := Out.when_sel h; exact hk
     · cases h
   · cases h
 · split at h
   · rename_i T hT
     cases hb : (T.kk == _) with
     | false => rw [hb] at h; cases h
     | true =>
       rw [hb] at h
       simp only [cond_true] at h
       split at h
       · simp only [Out.sel, Option.some.injEq] at h; subst h; exact hk
       · cases h
   · cases h
 · simp [calm] at hcalm
 · cases h
 · cases h
 · unfold calm at hcalm
   split at h
   · obtain ⟨_, rfl⟩ := Out.when_sel h; exact hk
   · rename_i hno
     dsimp only at hcalm
     rw [hno] at hcalm; cases hcalm
theorem lacks_ok (S : Stat) (E : Env) {kk : IntKind} {n : Int} : ∀ {l : List SV} {es : List MapEntry}, lacks kk n l = true → SV.dens S E l = es.map tupM → ∀ e ∈ es, ∃ m, e.key = .int kk m ∧ m ≠ n
 | [], es, _, he, e, hm => by
   cases es with
   | nil => cases hm
   | cons e es => simp [SV.dens] at he
 | x :: r, es, h, he, e, hm => by
   unfold lacks at h
   split at h
   · rename_i hx; cases hx
   · rename_i kk' m v v2 r' hx
     injection hx with h1 h2; subst h1 h2
     cases es with
     | nil => cases hm
     | cons e0 es =>
       simp only [SV.dens, SV.den, List.map_cons, List.cons.injEq, tupM, Value.tuple.injEq, Array.mk.injEq, and_true] at he
       obtain ⟨⟨hk, hv, _⟩, hr⟩ := he
       cases hb : (kk == kk') with
       | false => rw [hb] at h; cases h
       | true =>
         rw [hb] at h
         have := beq_iff_eq.1 hb; subst this
         simp only [cond_true] at h
         cases hn : (m == n) with
         | true => rw [hn] at h; cases h
         | false =>
           rw [hn] at h
           rcases List.mem_cons.1 hm with he | he
           · subst he
             exact ⟨m, hk.symm, by intro hh; rw [hh] at hn; simp at hn⟩
           · exact lacks_ok S E h hr e he
   · cases h
theorem Fr.setMap {w : World} {b : Nat} {es es' : Array MapEntry} {c0 c1 : Nat} (hb : w.heap[b]? = some (.map es c0)) : Fr w { w with heap := w.heap.setIfInBounds b (.map es' c1) } (fun x j => x = b ∧ j = 0) := by
 refine ⟨rfl, rfl, rfl, by simp, fun x o hx => ?_⟩
 obtain ⟨h1, h2⟩ := MapKept.heap_set (o' := .map es' c1) hb
 by_cases h : x = b
 · subst h
   rw [hb] at hx; injection hx with hx; subst hx
   exact .inr (.inr ⟨⟨rfl, rfl⟩, es, c0, es', c1, rfl, h1⟩)
 · exact .inl (by rw [← hx]; exact h2 x h)
theorem amend_ok {n : Nat} {w0 : World} {M : Nat → Nat → Prop} {E : Env} {st : St} {a : Act} {w : World} (sat : Sat c n w0 M E st a w) {k : Nat} {x y : SV} {t : Array Value} (hk : st.heap.get k = some x) (hr : c.S.ro k = false) (hx1 : x.size = 1) (hxc : x.cells c.S E = [.tuple t]) (hy1 : y.size = 1) (hyf : y.foOk c.S) :
   ∃ es clk, w.heap[(E.ad k).block]? = some (.map es clk) ∧ t = mapT es clk ∧ MapKept.Stamped es clk ∧
     ∀ es' clk', y.cells c.S E = [.tuple (mapT es' clk')] → MapKept.Stamped es' clk' → After c n w0 M E st a (none, st.heap.put k y, st.next) E { w with heap := w.heap.setIfInBounds (E.ad k).block (.map es' clk') } := by
 have hat := sat.hs.at_ k _ hk (by omega)
 rw [hxc] at hat
 obtain ⟨hoff, es, clk, hb, ht, hst⟩ := At.entries hat
 have hsp := hat.1
 refine ⟨es, clk, hb, ht, hst, fun es' clk' hyc hst' => ?_⟩
 have hfr := Fr.setMap (es' := es') (c1 := clk') hb
 obtain ⟨hs1, _⟩ := MapKept.heap_set (o' := Obj.map es' clk') hb
 refine ⟨Env.upto.refl _ _, Nat.le_refl _, sat.slots, ⟨?_, ?_, ?_, ?_⟩, ?_, ?_, sat.win, sat.winb, sat.size, sat.defers⟩
 · intro k' x' hk' hp'
   rw [Heap.get_put] at hk'
   split at hk'
   · rename_i he; subst he
     injection hk' with hk'; subst hk'
     exact ⟨hsp, .inr (.inl ⟨hoff, _, _, hs1, hyc, hst'⟩)⟩
   · rename_i he
     refine (sat.hs.at_ k' x' hk' hp').fr hfr ?_
     intro j hj ⟨hb1, hj0⟩
     have hdis := sat.hs.dis k k' _ x' (Ne.symm he) hk hk' (by omega) hp' hr
     simp only [apart] at hdis
     have hl := SV.len c.S E x'
     rcases hdis with h | h | h
     · exact h hb1.symm
     · omega
     · omega
 · intro k' x' hk' hp' hnt hr'
   rw [Heap.get_put] at hk'
   split at hk'
   · injection hk' with hk'; subst hk'
     exact absurd hyc (hnt _)
   · exact (sat.hs.wr k' x' hk' hp' hnt hr').fr hfr
 · intro j j' x1 x2 hne h1' h2' hp1 hp2 hr'
   rw [Heap.get_put] at h1' h2'
   have e1 : ∃ u, st.heap.get j = some u ∧ u.size = x1.size := by
     split at h1'
     · rename_i he; subst he; injection h1' with h1'; subst h1'; exact ⟨_, hk, by omega⟩
     · exact ⟨x1, h1', rfl⟩
   have e2 : ∃ u, st.heap.get j' = some u ∧ u.size = x2.size := by
     split at h2'
     · rename_i he; subst he; injection h2' with h2'; subst h2'; exact ⟨_, hk, by omega⟩
     · exact ⟨x2, h2', rfl⟩
   obtain ⟨u1, hu1, hs1⟩ := e1
   obtain ⟨u2, hu2, hs2⟩ := e2
   rw [← hs1] at hp1 ⊢
   rw [← hs2] at hp2 ⊢
   exact sat.hs.dis j j' u1 u2 hne hu1 hu2 hp1 hp2 hr'
 · intro k' x' hk'
   rw [Heap.get_put] at hk'
   split at hk'
   · injection hk' with hk'; subst hk'; exact hyf
   · exact sat.hs.fo k' x' hk'
 · intro j x1 hj hr'
   rw [Heap.get_put] at hj
   split at hj
   · rename_i he; subst he; injection hj with hj; subst hj
     rcases sat.own j _ hk hr with h | h
     · exact .inl h
     · exact .inr fun i hi => h i (by omega)
   · exact sat.own j x1 hj hr'
 · refine sat.fr.trans hfr ?_
   rintro b j hlt ⟨rfl, rfl⟩
   rcases sat.own k _ hk hr with h | h
   · omega
   · have := h 0 (by omega)
     rwa [hoff] at this
theorem insert_ok {n : Nat} {w0 : World} {M : Nat → Nat → Prop} {E : Env} {st : St} {a : Act} {w : World} (sat : Sat c n w0 M E st a w) {k : Nat} {l : List SV} {c0 : Nat} (hk : st.heap.get k = some (.tup (.ki .i64 (.ofNat c0) :: l))) (hr : c.S.ro k = false) {kk : IntKind} {m : Int} (hl : lacks kk m l = true) (y : SV) :
   ∃ es clk, w.heap[(E.ad k).block]? = some (.map es clk) ∧ (∀ e ∈ es.toList, ∃ j, e.key = .int kk j ∧ j ≠ m) ∧
     After c n w0 M E st a (none, st.heap.put k (.tup (.ki .i64 (.ofNat (Nat.add c0 1)) :: (l ++ [.tup [.ki kk m, y, .ki .i64 (.ofNat c0)]]))), st.next) E { w with heap := w.heap.setIfInBounds (E.ad k).block (.map (es.push { key := .int kk m, val := y.den c.S E, born := clk }) (clk + 1)) } := by
 obtain ⟨es, clk, hb, ht, hst, haft⟩ := amend_ok (y := .tup (.ki .i64 (.ofNat (Nat.add c0 1)) :: (l ++ [.tup [.ki kk m, y, .ki .i64 (.ofNat c0)]]))) sat hk hr rfl (t := (SV.dens c.S E (.ki .i64 (.ofNat c0) :: l)).toArray) rfl rfl trivial
 obtain ⟨hc0, hd⟩ := mapT_split (v := .int .i64 (.ofNat c0)) (l := SV.dens c.S E l) ht
 have hc0 : c0 = clk := by injection hc0 with _ hc0; exact Int.ofNat.inj hc0
 subst hc0
 have hkeys := lacks_ok c.S E hl hd
 refine ⟨es, c0, hb, hkeys, haft _ _ ?_ (MapKept.stamped_push hst fun e he hh => ?_)⟩
 · simp only [SV.cells, mapT]
   congr 2
   simp [SV.dens_map, SV.dens, SV.den, tupM] at hd ⊢
   exact hd
 · obtain ⟨j, h1, h2⟩ := hkeys e he
   rw [h1] at hh
   injection hh with _ hh
   exact h2 hh
theorem perform_ok (hc : CtxFull P c) {n : Nat} {w0 : World} {M : Nat → Nat → Prop} {E : Env} {st : St} {a : Act} {w : World} (sat : Sat c n w0 M E st a w) {o : Oper} {d : Deed} {quiet : Bool}
   (hd : Does P c.S E o a d) {r : Option SV × Heap × Nat} (h : (perform c st quiet d).sel = some r)
   {K : Act → World → Prop} {Q : Exit → Act → World → Prop}
   (hK : ∀ E' w', After c n w0 M E st a r E' w' → K (a.put o.dst (vOf c.S E' r.1)) w') : o.wp P a w K Q := by
 unfold Oper.wp
 cases d with
 | yield x =>
   simp only [perform, Out.sel, Option.some.injEq] at h
   subst h
   rw [hd w]
   exact hK E w ⟨Env.upto.refl _ _, Nat.le_refl _, sat⟩
 | test b x =>
   simp only [perform] at h
   obtain ⟨hb, rfl⟩ := Out.when_sel h
   rw [hd hb w]
   exact hK E w ⟨Env.upto.refl _ _, Nat.le_refl _, sat⟩
 | load k of m g =>
   simp only [perform] at h
   split at h
   · rename_i x hx
     split at h
     · rename_i y hy
       obtain ⟨cd, y⟩ := y
       obtain ⟨hcd, rfl⟩ := Out.when_sel h
       obtain ⟨⟨h1, h2, h3, h4⟩, h5⟩ := SV.partO_ok c.S E (sat.hs.fo k x hx) hy hcd
       rw [SV.len] at h4
       have hat := (sat.hs.at_ k x hx (by omega)).sub (of.val c.S) m (by rw [SV.len]; exact h4)
       rw [← h2] at hat
       rw [hd w y h1 h3 (SV.partO_one hy).2 hat]
       exact hK E w ⟨Env.upto.refl _ _, Nat.le_refl _, sat⟩
     · cases h
   · cases h
 | store k of y =>
   simp only [perform] at h
   cases hq : (quiet || (c.S.ro k || !y.one)) with
   | true => rw [hq] at h; cases h
   | false =>
     rw [hq] at h
     simp only [cond_false] at h
     simp only [Bool.or_eq_false_iff, Bool.not_eq_false'] at hq
     split at h
     · rename_i x hx
       split at h
       · rename_i z hz
         obtain ⟨cd, z⟩ := z
         obtain ⟨hcd, rfl⟩ := Out.when_sel h
         obtain ⟨w', hrun, haft⟩ := store_ok (P := P) sat hx hq.2.1 hz hcd (SV.one_cells c.S E y hq.2.2) (SV.foOk_one hq.2.2)
         rw [hd w w' hrun]
         exact hK E w' haft
       · cases h
     · cases h
 | new y =>
   simp only [perform] at h
   cases quiet with
   | true => cases h
   | false =>
     simp only [cond_false] at h
     cases hb : (st.bnd && (y.bnd st.next && y.one) && !(c.S.ro st.next)) with
     | false => rw [hb] at h; cases h
     | true =>
       rw [hb] at h
       simp only [cond_true, Out.sel, Option.some.injEq] at h
       subst h
       simp only [Bool.and_eq_true] at hb
       obtain ⟨t, ht⟩ := hd w
       rw [ht]
       obtain ⟨E', he, haft⟩ := new_ok sat hb.1.1 hb.1.2.1 hb.1.2.2 t (some (.ptr st.next 0))
       have := hK E' _ haft
       rw [Oper.upon_value]
       simpa [vOf, SV.den, Env.place, he] using this
 | newSlice y len =>
   simp only [perform] at h
   cases quiet with
   | true => cases h
   | false =>
     simp only [cond_false] at h
     cases hb : (st.bnd && (y.bnd st.next && y.one) && !(c.S.ro st.next)) with
     | false => rw [hb] at h; cases h
     | true =>
       rw [hb] at h
       simp only [cond_true, Out.sel, Option.some.injEq] at h
       subst h
       simp only [Bool.and_eq_true] at hb
       obtain ⟨t, ht⟩ := hd w
       rw [ht]
       obtain ⟨E', he, haft⟩ := new_ok sat hb.1.1 hb.1.2.1 hb.1.2.2 t (some (.slc st.next 0 len len))
       have := hK E' _ haft
       rw [Oper.upon_value]
       simpa [vOf, SV.den, Env.place, he] using this
 | emp =>
   simp only [perform] at h
   cases quiet with
   | true => cases h
   | false =>
     simp only [cond_false] at h
     cases hb : st.bnd with
     | false => rw [hb] at h; cases h
     | true =>
       rw [hb] at h
       simp only [cond_true, Out.sel, Option.some.injEq] at h
       subst h
       obtain ⟨t, ht⟩ := hd w
       rw [ht]
       obtain ⟨E', he, hcp, _, _, haft⟩ := grow_ok (y := .agg []) sat hb rfl trivial ⟨w.heap.size, 0, none⟩ (0, false) (some (.slr st.next 0 st.next true)) (Fr.alloc w (.cells #[] t) _) (fun h => by simp [SV.size, SV.sizes] at h)
       have := hK E' _ haft
       rw [Oper.upon_value]
       simpa [vOf, SV.den, Env.place, he, hcp] using this
 | copy b k m z =>
   simp only [perform] at h
   cases quiet with
   | true => cases h
   | false =>
     simp only [cond_false] at h
     split at h <;> (try cases h)
     rename_i R hR
     cases hb : (Nat.beq R.z z && (st.bnd && (!(c.S.ro st.next) && baseBnd st.next b))) with
     | false => rw [hb] at h; cases h
     | true =>
       rw [hb] at h
       simp only [cond_true] at h
       obtain ⟨hcd, rfl⟩ := Out.when_sel h
       simp only [Bool.and_eq_true] at hb
       obtain ⟨hz, hbn, _, hbb⟩ := hb
       have hz := Nat.eq_of_beq_eq_true hz
       obtain ⟨hm, hmb⟩ : m = R.len ∧ m ≤ 134217728 := by simpa [okC] using hcd
       subst hz
       have hzp := R.zpos
       have hlen : ((SV.rows R).cells c.S E).length = m * R.z := by simp only [SV.cells]; rw [R.length, hm]
       have hatk : 0 < m → At w (E.place k 0) ((SV.rows R).cells c.S E) := fun h0 => by
         have hat := sat.hs.at_ k _ hR (by simp only [SV.size]; rw [← hm]; exact Nat.mul_pos h0 hzp)
         have he : E.place k 0 = E.ad k := by
           obtain ⟨hs, _⟩ := hat
           unfold Env.place
           cases hq : E.ad k
           rw [hq] at hs
           simp at hs
           simp [hs]
         rw [he]; exact hat
       have hone : ∀ v ∈ (SV.rows R).cells c.S E, v.oneCell' = true := SV.one_cells c.S E (.rows R) rfl
       rcases hd w _ hlen hatk hone hmb hzp with ⟨h0, hrun⟩ | ⟨h0, cap, junk, t, hge, hrun⟩
       · rw [hrun]
         have hz0 : (SV.rows R).size = 0 := by simp only [SV.size]; rw [← hm, h0]; simp
         obtain ⟨hb1, hb2⟩ := St.bnd_ok hbn
         obtain ⟨E', he, hcp, hu, haft, _⟩ := grow_ok (y := .rows R) sat hbn rfl trivial (match b with | some (q, u) => ⟨(E.ad q).block, (E.ad q).off, none⟩ | none => default) (0, match b with | some (q, u) => (E.cp u).2 | none => true) (some (.slr st.next m st.next false)) (Fr.refl w _) (fun h => by omega)
         have := hK E' w haft
         rw [Oper.upon_value]
         cases b with
         | none => simpa [vOf, SV.den, hcp, h0] using this
         | some q => simpa [vOf, SV.den, hcp, h0, Env.place, he] using this
       · rw [hrun]
         obtain ⟨E', he, hcp, hu, haft, _⟩ := grow_ok (y := .rows R) sat hbn rfl trivial ⟨w.heap.size, 0, none⟩ (cap, false) (some (.slr st.next m st.next false)) (Fr.drewAlloc w _ _) (fun h => ⟨At.drewAlloc w _ junk t hone, fun _ => ⟨_, t, heap_alloc_new _ _⟩, Nat.le_refl _⟩)
         have := hK E' _ haft
         rw [Oper.upon_value]
         have hmx : Nat.max m cap = cap := Nat.max_eq_right hge
         simp only [vOf, SV.den, hcp, Env.place, he, cond_false, hmx] at this
         simpa using this
 | join b k m z =>
   simp only [perform] at h
   cases quiet with
   | true => cases h
   | false =>
     simp only [cond_false] at h
     split at h <;> (try cases h)
     rename_i cd lx ly hx hy0
     obtain ⟨yk, hy, hyp⟩ := Option.bind_eq_some_iff.1 hy0
     obtain ⟨hys, hyc, hyb⟩ := partsOf_ok hyp
     cases hb : (Nat.beq (SV.sizes ly) (Nat.mul m z) && ((SV.ones lx && SV.ones ly) && (st.bnd && (!(c.S.ro st.next) && (Nat.blt 0 z && (Nat.blt 0 m && joinFits cd (Nat.add (joinLen b) m))))))) with
     | false => rw [hb] at h; cases h
     | true =>
       rw [hb] at h
       simp only [cond_true] at h
       obtain ⟨hcd, rfl⟩ := Out.when_sel h
       simp only [Bool.and_eq_true] at hb
       obtain ⟨hsz, ⟨hox, hoy⟩, hbn, _, hz, hm, hle⟩ := hb
       obtain ⟨hle2, hjp⟩ := joinPart_ok hx hcd hle
       have hz' : 0 < z := by simpa using hz
       have hm' : 0 < m := by simpa using hm
       have hle' : joinLen b + m ≤ 134217728 := hle2
       have hszy : SV.sizes ly = m * z := Nat.eq_of_beq_eq_true hsz
       have hly : (SV.cellss c.S E ly).length = m * z := by rw [SV.lens, hszy]
       have hplace : ∀ q x, st.heap.get q = some x → 0 < x.size → At w (E.place q 0) (x.cells c.S E) := fun q x hq hp => by
         have hat := sat.hs.at_ q _ hq hp
         have he : E.place q 0 = E.ad q := by
           obtain ⟨hs, _⟩ := hat
           unfold Env.place
           cases hqq : E.ad q
           rw [hqq] at hs
           simp at hs
           simp [hs]
         rw [he]; exact hat
       have hay : At w (E.place k 0) (SV.cellss c.S E ly) := by rw [← hyc]; exact hplace k _ hy (by rw [hys, hszy]; exact Nat.mul_pos hm' hz')
       have honex : ∀ v ∈ SV.cellss c.S E lx, v.oneCell' = true := SV.one_cells c.S E (.agg lx) hox
       have honey : ∀ v ∈ SV.cellss c.S E ly, v.oneCell' = true := SV.one_cells c.S E (.agg ly) hoy
       have hb2 := (St.bnd_ok hbn).2
       have hbx : (SV.agg (lx ++ ly)).bnd st.next = true := by
         have h2 := hyb _ (hb2 k _ hy).2
         have h1 : SV.bnds st.next lx = true := by
           unfold joinPart at hx
           split at hx
           · obtain ⟨_, rfl⟩ := Prod.mk.inj (Option.some.inj hx); rfl
           · split at hx
             · rename_i hl
               obtain ⟨_, rfl⟩ := Prod.mk.inj (Option.some.inj (cond_none hx))
               exact (hb2 _ _ hl).2
             · obtain ⟨_, rfl⟩ := Prod.mk.inj (Option.some.inj (cond_none hx)); rfl
             · obtain ⟨_, rfl⟩ := Prod.mk.inj (Option.some.inj (cond_none hx)); rfl
             · cases hx
         show SV.bnds st.next (lx ++ ly) = true
         rw [bnds_append, h1, Bool.true_and]
         exact h2
       obtain ⟨cap, junk, t, hge, hrun⟩ : ∃ cap junk t, joinLen b + m ≤ cap ∧ (execOp a.eval o).run P w = .ok (.value (.slice (some ⟨w.heap.size, 0, none⟩) (joinLen b + m) cap)) (w.drew.alloc (.cells ((SV.cellss c.S E lx ++ SV.cellss c.S E ly) ++ junk).toArray t)) := by
         rcases hjp with ⟨rfl, h0⟩ | ⟨q, n, y, rfl, hl, hsx, hsy, hcl⟩
         · cases b with
           | none => exact hd w (SV.cellss c.S E []) (SV.cellss c.S E ly) (by simp [SV.cellss]) trivial hly hay honex honey hle' hm' hz'
           | some qn =>
             obtain ⟨q, n⟩ := qn
             have h0 : n = 0 := h0
             exact hd w (SV.cellss c.S E []) (SV.cellss c.S E ly) (by simp [SV.cellss, h0]) (fun hn => by omega) hly hay honex honey hle' hm' hz'
         · exact hd w (SV.cellss c.S E lx) (SV.cellss c.S E ly) (by rw [SV.lens, hsx]) (fun hn => by rw [← hcl]; exact hplace q _ hl (by rw [hsy]; exact Nat.mul_pos hn hz')) hly hay honex honey hle' hm' hz'
       rw [hrun]
       have hcells : (SV.agg (lx ++ ly)).cells c.S E = SV.cellss c.S E lx ++ SV.cellss c.S E ly := by
         show SV.cellss c.S E (lx ++ ly) = _
         exact cellss_append c.S E lx ly
       have hone2 : ∀ v ∈ (SV.agg (lx ++ ly)).cells c.S E, v.oneCell' = true := by
         rw [hcells]
         intro v hv
         rcases List.mem_append.1 hv with h | h
         · exact honex v h
         · exact honey v h
       obtain ⟨E', he, hcp, hu, haft, _⟩ := grow_ok (y := .agg (lx ++ ly)) sat hbn hbx trivial ⟨w.heap.size, 0, none⟩ (cap, false) (some (.slu st.next 0 (Nat.add (joinLen b) m) st.next)) (Fr.drewAlloc w _ _) (fun h => ⟨by rw [hcells]; exact At.drewAlloc w _ junk t (by rw [← hcells]; exact hone2), fun _ => ⟨_, t, heap_alloc_new _ _⟩, Nat.le_refl _⟩)
       have := hK E' _ haft
       rw [Oper.upon_value]
       have hmx : Nat.max (Nat.add (joinLen b) m) cap = cap := Nat.max_eq_right hge
       simp only [vOf, SV.den, hcp, Env.place, he, hmx] at this
       simpa using this
 | newRow R len t =>
   simp only [perform] at h
   cases quiet with
   | true => cases h
   | false =>
     simp only [cond_false] at h
     cases hb : (st.bnd && !(c.S.ro st.next)) with
     | false => rw [hb] at h; cases h
     | true =>
       rw [hb] at h
       simp only [cond_true] at h
       obtain ⟨ht, rfl⟩ := Out.when_sel h
       simp only [Bool.and_eq_true] at hb
       have ht : t = true := ht
       obtain ⟨ty, hr⟩ := hd ht w
       rw [hr]
       obtain ⟨E', he, hcp, hu, haft, _⟩ := grow_ok (y := .rows R) sat hb.1 rfl trivial ⟨w.heap.size, 0, none⟩ (0, false) (some (.slr st.next len st.next true)) (Fr.alloc w (.cells R.cells.toArray ty) _) (fun h => ⟨At.alloc w R.cells ty (fun v hv => plainV.one (R.plain v hv)), fun _ => Wr.alloc w _ ty, Nat.le_refl _⟩)
       have := hK E' _ haft
       rw [Oper.upon_value]
       simpa [vOf, SV.den, he, hcp, Env.place] using this
 | newMap z =>
   simp only [perform] at h
   cases quiet with
   | true => cases h
   | false =>
     simp only [cond_false] at h
     cases hb : (st.bnd && !(c.S.ro st.next)) with
     | false => rw [hb] at h; cases h
     | true =>
       rw [hb] at h
       simp only [cond_true, Out.sel, Option.some.injEq] at h
       subst h
       simp only [Bool.and_eq_true] at hb
       rw [hd w]
       have hmc := mapOf_cells c.S E z
       have hms : (mapOf z).size = 1 := by cases z <;> rfl
       obtain ⟨E', he, hcp, hu, haft, _⟩ := grow_ok (y := mapOf z) sat hb.1 (by cases z <;> rfl) (by cases z <;> trivial) ⟨w.heap.size, 0, none⟩ (0, false) (some (.mp st.next)) (Fr.alloc w (.map #[] 0) _) (fun _ => ⟨⟨rfl, .inr (.inl ⟨rfl, #[], 0, heap_alloc_new _ _, hmc, MapKept.stamped_empty 0⟩)⟩, fun hh => absurd hmc (hh _), Nat.le_refl _⟩)
       have := hK E' _ haft
       rw [Oper.upon_value]
       simpa [vOf, SV.den, he] using this
 | insert k kk m y =>
   simp only [perform] at h
   cases hq : (quiet || c.S.ro k) with
   | true => rw [hq] at h; cases h
   | false =>
     rw [hq] at h
     simp only [cond_false] at h
     simp only [Bool.or_eq_false_iff] at hq
     split at h <;> (try cases h)
     rename_i clk0 l hl
     cases hlk : lacks kk m l with
     | false => rw [hlk] at h; cases h
     | true =>
       rw [hlk] at h
       simp only [cond_true, Out.sel, Option.some.injEq] at h
       subst h
       obtain ⟨es, clk, hb, hkeys, haft⟩ := insert_ok sat hl hq.2 hlk y
       rw [hd w es clk hb hkeys]
       exact hK E _ haft
 | look k kk q =>
   simp only [perform] at h
   split at h <;> (try cases h)
   rename_i v0 l hl
   split at h <;> (try cases h)
   rename_i y hy
   obtain ⟨cd, y⟩ := y
   obtain ⟨hcd, rfl⟩ := Out.when_sel h
   obtain ⟨hoff, es, clk, hb, ht, _⟩ := At.entries (t := (SV.dens c.S E (v0 :: l)).toArray) (sat.hs.at_ k _ hl (by simp [SV.size]))
   have hden : SV.dens c.S E l = es.toList.map tupM := (mapT_split (v := v0.den c.S E) (l := SV.dens c.S E l) ht).2
   rw [hd w es clk l cd y hb hden hy hcd]
   exact hK E w ⟨Env.upto.refl _ _, Nat.le_refl _, sat⟩
 | ask k kk q =>
   simp only [perform] at h
   split at h <;> (try cases h)
   rename_i T hT
   cases hkk : (T.kk == kk) with
   | false => rw [hkk] at h; cases h
   | true =>
     rw [hkk] at h
     simp only [cond_true] at h
     split at h <;> (try cases h)
     rename_i y hy
     obtain ⟨hoff, es, clk, hb, ht, _⟩ := At.entries (t := T.all.toArray) (sat.hs.at_ k _ hT (by simp [SV.size]))
     have hden : T.ents = es.toList.map tupM := (mapT_split ht).2
     rw [hd w es clk T y hb (beq_iff_eq.1 hkk) hden hy]
     exact hK E w ⟨Env.upto.refl _ _, Nat.le_refl _, sat⟩
 | amend k kk u =>
   simp only [perform] at h
   cases hq : (quiet || c.S.ro k) with
   | true => rw [hq] at h; cases h
   | false =>
     rw [hq] at h
     simp only [cond_false] at h
     simp only [Bool.or_eq_false_iff] at hq
     split at h <;> (try cases h)
     rename_i T hT
     cases hkk : (T.kk == kk) with
     | false => rw [hkk] at h; cases h
     | true =>
       rw [hkk] at h
       simp only [cond_true] at h
       split at h <;> (try cases h)
       rename_i Q hQ
       obtain ⟨es, clk, hb, ht, hst, haft⟩ := amend_ok (y := .tab Q) sat hT hq.2 rfl (t := T.all.toArray) rfl rfl trivial
       obtain ⟨hcl, hden⟩ := mapT_split ht
       have hcl : T.clk = clk := by injection hcl with _ hcl; exact Int.ofNat.inj hcl
       obtain ⟨es', clk', r, h1, h2, h3, h4⟩ := hd w es clk T Q hb (beq_iff_eq.1 hkk) hden hcl hst hQ
       have haf := haft es' clk' (by simp only [SV.cells, h1]; rfl) h2
       rw [h4]
       have := hK E _ haf
       rcases h3 with rfl | ⟨⟨v, rfl⟩, hdst⟩
       · exact this
       · rw [Oper.upon_value]
         rw [hdst] at this ⊢
         exact this
 | read f args ks => cases h
 | act f args ks outs hi => cases h
 | call f args =>
   simp only [perform] at h
   split at h
   · rename_i y hy
     obtain ⟨y, ks, cdd⟩ := y
     obtain ⟨hcdd, rfl⟩ := Out.when_sel h
     obtain ⟨hfn, hcall⟩ := hc.read f args st.heap st.next y ks cdd hy hcdd
     rw [hd hfn w]
     refine (hcall E w (fun k x _ hk => ⟨fun hp => sat.hs.at_ k x hk hp, sat.hs.fo k x hk⟩) sat.win).mono ?_
     rintro e w' ⟨rfl, hfr⟩
     · refine hK E w' ⟨Env.upto.refl _ _, Nat.le_refl _, sat.slots, ⟨fun k x hk hp => (sat.hs.at_ k x hk hp).fr hfr (fun _ _ h => h), fun k x hk hp hnt hr => (sat.hs.wr k x hk hp hnt hr).fr hfr, sat.hs.dis, sat.hs.fo⟩, sat.own, sat.fr.trans hfr (fun _ _ _ h => h.elim), sat.win, sat.winb, sat.size, sat.defers⟩
   · cases quiet with
     | true => cases h
     | false =>
       simp only [cond_false] at h
       cases hb : (st.bnd && SV.bnds st.next args) with
       | false => rw [hb] at h; cases h
       | true =>
         rw [hb] at h
         simp only [cond_true, Out.sel_bind] at h
         cases hsp : (c.spec f args st.heap st.next).sel with
         | none => rw [hsp] at h; cases h
         | some q =>
           rw [hsp] at h
           simp only [Option.bind_some, Out.sel, Option.some.injEq] at h
           subst h
           obtain ⟨v, H', nx'⟩ := q
           simp only [Bool.and_eq_true] at hb
           obtain ⟨hb1, hb2⟩ := St.bnd_ok hb.1
           obtain ⟨hfn, hcall⟩ := hc.spec f args st.heap st.next v H' nx' hsp
           rw [hd hfn w]
           refine (hcall E w sat.hs sat.win sat.winb hb2).mono ?_
           rintro e w' ⟨E', hu, hle, rfl, hs', hfr, hown⟩
           · refine hK E' w' ⟨hu, hle, sat.slots.upto hu hb1, hs', ?_, ?_, sat.win.upto hu sat.winb, fun m j k z hm => Nat.lt_of_lt_of_le (sat.winb m j k z hm) hle, sat.size, sat.defers⟩
             · intro k x hk hr
               rcases hown k x hk hr with hge | hm
               · exact .inl (Nat.le_trans sat.fr.size hge)
               · by_cases hlt : (E'.ad k).block < w0.heap.size
                 · refine .inr fun j hj => ?_
                   obtain ⟨k2, x2, hk2, hr2, he, hlo, hhi⟩ := hm j hj
                   rcases sat.own k2 x2 hk2 hr2 with h | h
                   · omega
                   · have := h ((E'.ad k).off + j - (E.ad k2).off) (by omega)
                     rw [← he] at this
                     rwa [show (E.ad k2).off + ((E'.ad k).off + j - (E.ad k2).off) = (E'.ad k).off + j from by omega] at this
                 · exact .inl (Nat.le_of_not_lt hlt)
             · refine sat.fr.trans hfr ?_
               rintro b j hlt ⟨k, x, hk, hr, rfl, hlo, hhi⟩
               rcases sat.own k x hk hr with h | h
               · omega
               · have := h (j - (E.ad k).off) (by omega)
                 rwa [show (E.ad k).off + (j - (E.ad k).off) = j from by omega] at this
end
end Go.Proofs.YtjemfkoamfnofaaGreat
