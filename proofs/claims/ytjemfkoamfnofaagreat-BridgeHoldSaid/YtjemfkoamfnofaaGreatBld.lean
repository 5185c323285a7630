import Derived.Test.YtjemfkoamfnofaaGreatIter
import Derived.Test.YtjemfkoamfnofaaGreatPush
import Derived.RangeFuncOwn
set_option linter.unusedVariables false
set_option maxRecDepth 100000
namespace Go.Proofs.YtjemfkoamfnofaaGreat
open Go Go.RowKit
theorem bl_blk {w w' : World} {base : Nat} {e : TypeId} {size : Nat} {v : Value} {n : Nat} {xs : List Value} (h : w.ownsRow base e size v n xs) (hb : ∀ g, v.ownBlock = some g → w'.heap[g]? = w.heap[g]?) : w'.ownsRow base e size v n xs := by
 refine ⟨h.1, ?_⟩
 rcases h.2 with hn | ⟨g, cap, cur, rfl, h1, hgg, rest⟩
 · exact .inl hn
 · refine .inr ⟨g, cap, cur, rfl, h1, ?_, rest⟩
   rw [hb g rfl]; exact hgg
theorem bl_new {c : Ctx} {n : Nat} {w0 w : World} {M : Nat → Nat → Prop} {E : Env} {st : St} {a : Act} (sat : Sat c n w0 M E st a w) : Hid st E w.heap.size := fun k x hk hp he => by
 have := (sat.hs.at_ k x hk hp).lt
 omega
structure BSt where
 st : St
 b : Nat
 R : Rows
def tok (b n : Nat) : SV := .slr b n b false
structure BldOk (S : Stat) (E : Env) (B : Nat) (s : BSt) (e : TypeId) (w : World) : Prop where
 own : w.ownsRow B e s.R.z ((tok s.b s.R.len).den S E) s.R.len s.R.cells
 lt : s.b < s.st.next
 hid : ∀ g, ((tok s.b s.R.len).den S E).ownBlock = some g → Hid s.st E g
 ad : ∀ g, ((tok s.b s.R.len).den S E).ownBlock = some g → E.ad s.b = ⟨g, 0, none⟩
def noRo (ro : Nat → Bool) (H : Heap) : Bool := H.all fun e => !(ro e.1)
theorem roOk_no {ro : Nat → Bool} {st st' : St} (h : noRo ro st'.heap = true) : roOk ro st st' = true := by
 unfold roOk
 unfold noRo at h
 rw [List.all_eq_true] at h ⊢
 intro e he
 rw [h e he]; rfl
def chkB {α : Type} (ro : Nat → Bool) (st st' : St) (k : Out α) : Out α := bif noRo ro st'.heap then k else .ite (roOk ro st st') k .bad
theorem chkB_sel {α : Type} {ro : Nat → Bool} {st st' : St} {k : Out α} {x : α} (h : (chkB ro st st' k).sel = some x) : roOk ro st st' = true ∧ k.sel = some x := by
 unfold chkB at h
 cases hb : noRo ro st'.heap with
 | true => rw [hb] at h; exact ⟨roOk_no hb, h⟩
 | false =>
   rw [hb] at h
   simp only [cond_false] at h
   obtain ⟨h1, h2⟩ := Out.ite_bad h
   exact ⟨h1, h2⟩
def engB (c : Ctx) (n : Nat) (ops l : List Oper) (s : BSt) : Out BSt := (region c n ops l s.st).bind fun st' => chkB c.S.ro s.st st' (.ret ⟨st', s.b, s.R⟩)
def rv1 (S : Stat) : SV → Option RV
 | .agg [.ix j] => some (.val (.int .i64 (S.ix j)))
 | .agg [x] => x.rv
 | x => x.rv
theorem rv1_cells (S : Stat) (E : Env) {x : SV} {y : RV} (h : rv1 S x = some y) : x.cells S E = y.cells := by
 unfold rv1 at h
 split at h
 · injection h with h
   subst h
   rfl
 · rename_i z _
   have := SV.rv_cells S E h
   simp [SV.cells, SV.cellss, this]
 · exact SV.rv_cells S E h
def isApp (o : Oper) : Bool := match o.op with
 | .call q => (match q.callee with | .builtin .append => true | _ => false)
 | _ => false
def pushB (c : Ctx) (n : Nat) (e : TypeId) (o : Oper) (s : BSt) : Option (Bool × BSt) :=
 match o.op, o.guard, o.dst with
 | .call q, none, some d => (match q.callee, evs s.st.slots [] q.args.toList, q.argTypes.toList with
   | .builtin .append, some [.slr b1 l1 u1 false, .slc k 0 1 1], [t, t'] => bif ((Nat.beq b1 s.b && Nat.beq u1 s.b) && Nat.beq t t') && s.st.bnd then (match c.tys t, s.st.heap.get k with
     | some ⟨_, .slice e', _⟩, some y => (match rv1 c.S y, c.tys e' with
       | some v, some de => bif (Nat.beq e' e && Nat.beq de.size s.R.z) && y.one then (match s.R.push v with
         | some Q => (match putSlot s.st.slots n (some d) [] (some (tok s.st.next Q.len)) with
           | some sl => some (decide (l1 = s.R.len ∧ s.R.len ≤ 134217727), ⟨⟨sl, s.st.heap, s.st.next + 1⟩, s.st.next, Q⟩)
           | none => none)
         | none => none) else none
       | _, _ => none)
     | _, _ => none) else none
   | _, _, _ => none)
 | _, _, _ => none
def regionB (c : Ctx) (n : Nat) (e : TypeId) (ops : List Oper) : List Oper → List Oper → BSt → Out BSt
 | [], acc, s => engB c n ops acc.reverse s
 | o :: rest, acc, s => bif isApp o then
     (engB c n ops acc.reverse s).bind fun s1 => match pushB c n e o s1 with
       | some (t, s2) => .ite t (regionB c n e ops rest [] s2) .bad
       | none => (engB c n ops [o] s1).bind fun s2 => regionB c n e ops rest [] s2
   else regionB c n e ops rest (o :: acc) s
section
variable {P : Program} {c : Ctx} {n : Nat} {w0 w : World} {M : Nat → Nat → Prop} {E : Env} {a : Act} {e : TypeId}
structure SatB (c : Ctx) (n : Nat) (w0 : World) (M : Nat → Nat → Prop) (e : TypeId) (E : Env) (s : BSt) (a : Act) (w : World) : Prop where
 sat : Sat c n w0 M E s.st a w
 bld : BldOk c.S E w0.heap.size s e w
theorem tok_upto {S : Stat} {E E' : Env} {b k m : Nat} (h : Env.upto m E E') (hb : b < m) : (tok b k).den S E' = (tok b k).den S E := by
 have := (h b hb)
 simp [tok, SV.den, Env.place, this.1, this.2]
theorem SatB.step {s : BSt} {st' : St} {E' : Env} {a' : Act} {w' : World} (h : SatB c n w0 M e E s a w) (hu : Env.upto s.st.next E E') (hle : s.st.next ≤ st'.next) (sat' : Sat c n w0 M E' st' a' w')
   (hk : ∀ g, Hid s.st E g → g < w.heap.size → w'.heap[g]? = w.heap[g]? ∧ Hid st' E' g) : SatB c n w0 M e E' ⟨st', s.b, s.R⟩ a' w' := by
 have ht := tok_upto (S := c.S) (k := s.R.len) hu h.bld.lt
 refine ⟨sat', ⟨?_, Nat.lt_of_lt_of_le h.bld.lt hle, fun g hg => ?_, fun g hg => ?_⟩⟩
 · show w'.ownsRow _ e s.R.z ((tok s.b s.R.len).den c.S E') _ _
   rw [ht]
   exact bl_blk h.bld.own fun g hg => (hk g (h.bld.hid g hg) (h.bld.own.lt g hg).2).1
 · have hg' : ((tok s.b s.R.len).den c.S E).ownBlock = some g := by rw [← ht]; exact hg
   exact (hk g (h.bld.hid g hg') (h.bld.own.lt g hg').2).2
 · show E'.ad s.b = _
   rw [(hu s.b h.bld.lt).1]
   exact h.bld.ad g (by rw [← ht]; exact hg)
def Quiet (s : BSt) (E : Env) (w : World) (s' : BSt) (E' : Env) (w' : World) : Prop := w.heap.size ≤ w'.heap.size ∧ ∀ g o, w.heap[g]? = some o → Obj.isCells o = false → Hid s.st E g → w'.heap[g]? = some o ∧ Hid s'.st E' g
theorem Quiet.trans {s s' s'' : BSt} {E E' E'' : Env} {w w' w'' : World} (h : Quiet s E w s' E' w') (k : Quiet s' E' w' s'' E'' w'') : Quiet s E w s'' E'' w'' :=
 ⟨Nat.le_trans h.1 k.1, fun g o ho hc hh => k.2 g o (h.2 g o ho hc hh).1 hc (h.2 g o ho hc hh).2⟩
theorem engB_ok (hc : CtxFull P c) {Q : Exit → Act → World → Prop} (ops tl l : List Oper) {s s' : BSt} (sat : SatB c n w0 M e E s a w) (h : (engB c n ops l s).sel = some s')
   (K : ∀ E' a' w', Env.upto s.st.next E E' → s.st.next ≤ s'.st.next → SatB c n w0 M e E' s' a' w' → Quiet s E w s' E' w' → wpList P ops.toArray Q tl a' w') : wpList P ops.toArray Q (l ++ tl) a w := by
 unfold engB at h
 rw [Out.sel_bind] at h
 cases h1 : (region c n ops l s.st).sel with
 | none => rw [h1] at h; cases h
 | some st' =>
   rw [h1] at h
   simp only [Option.bind_some] at h
   obtain ⟨hro, h2⟩ := chkB_sel h
   simp only [Out.sel, Option.some.injEq] at h2
   subst h2
   refine region_pre hc ops tl l s.st st' a w E sat.sat.local h1 ?_
   intro E' a' w' hu hle sat'
   exact K E' a' w' hu hle (sat.step hu hle (sat.sat.global sat') fun g hg hlt => Sat.keep hro hu sat' hg hlt) ⟨sat'.fr.size, fun g o ho _ hh => ⟨(Sat.keep hro hu sat' hh (lt_of_some ho)).1.trans ho, (Sat.keep hro hu sat' hh (lt_of_some ho)).2⟩⟩
theorem Sat.env {st : St} {E' : Env} (sat : Sat c n w0 M E st a w) (hb : st.bnd = true) (hu : Env.upto st.next E E') : Sat c n w0 M E' { st with next := st.next + 1 } a w := by
 obtain ⟨hb1, hb2⟩ := St.bnd_ok hb
 refine ⟨sat.slots.upto hu hb1, sat.hs.upto hu hb2, fun k x hk hr => ?_, sat.fr, sat.win.upto hu sat.winb, fun m j k z hm => Nat.lt_succ_of_lt (sat.winb m j k z hm), sat.size, sat.defers⟩
 rw [(hu k (hb2 k x hk).1).1]
 exact sat.own k x hk hr
theorem Hid.env {st : St} {E' : Env} (hb : st.bnd = true) (hu : Env.upto st.next E E') {g : Nat} (h : Hid st E g) {sl : Slots} {m : Nat} : Hid ⟨sl, st.heap, m⟩ E' g := by
 intro k x hk hp
 rw [(hu k ((St.bnd_ok hb).2 k x hk).1).1]
 exact h k x hk hp
theorem evs_cons {s : Slots} {p : Path} {x : Operand} {r : List Operand} {ys : List SV} (h : evs s p (x :: r) = some ys) : ∃ y zs, ev s p x = some y ∧ evs s p r = some zs ∧ ys = y :: zs := by
 unfold evs at h
 split at h
 · rename_i y hy
   split at h
   · rename_i zs hzs
     injection h with h
     exact ⟨y, zs, hy, hzs, h.symm⟩
   · cases h
 · cases h
theorem evs_nil {s : Slots} {p : Path} {ys : List SV} (h : evs s p [] = some ys) : ys = [] := by
 unfold evs at h
 injection h with h
 exact h.symm
theorem evs_two {s : Slots} {p : Path} {l : List Operand} {y z : SV} (h : evs s p l = some [y, z]) : ∃ a b, l = [a, b] ∧ ev s p a = some y ∧ ev s p b = some z := by
 cases l with
 | nil => have := evs_nil h; cases this
 | cons a l =>
   obtain ⟨y', zs, h1, h2, h3⟩ := evs_cons h
   injection h3 with e1 e2
   subst e1 e2
   cases l with
   | nil => have := evs_nil h2; cases this
   | cons b l =>
     obtain ⟨z', zs, h4, h5, h6⟩ := evs_cons h2
     injection h6 with e1 e2
     subst e1 e2
     cases l with
     | nil => exact ⟨a, b, rfl, h1, h4⟩
     | cons x l => obtain ⟨_, _, _, _, h7⟩ := evs_cons h5; cases h7
theorem push_ok (hc : CtxFull P c) {Q : Exit → Act → World → Prop} {o : Oper} {t : Bool} {s s' : BSt} (h : pushB c n e o s = some (t, s')) (ht : t = true) (sat : SatB c n w0 M e E s a w) {ops : Array Oper} {rest : List Oper}
   (K : ∀ E' a' w', Env.upto s.st.next E E' → s.st.next ≤ s'.st.next → SatB c n w0 M e E' s' a' w' → Quiet s E w s' E' w' → wpList P ops Q rest a' w') : wpList P ops Q (o :: rest) a w := by
 unfold pushB at h
 split at h <;> (try cases h)
 rename_i q d hop hgd hdst
 split at h <;> (try cases h)
 rename_i b1 l1 u1 k t1 t2 hcal hargs hty
 cases hb : ((Nat.beq b1 s.b && Nat.beq u1 s.b) && Nat.beq t1 t2) && s.st.bnd with
 | false => rw [hb] at h; cases h
 | true =>
   rw [hb] at h
   simp only [cond_true] at h
   simp only [Bool.and_eq_true, Nat.beq_eq] at hb
   obtain ⟨⟨⟨rfl, rfl⟩, rfl⟩, hbnd⟩ := hb
   split at h <;> (try cases h)
   rename_i sz1 e' zz y htys hget
   split at h <;> (try cases h)
   rename_i v de hrv hde
   cases hb2 : (Nat.beq e' e && Nat.beq de.size s.R.z) && y.one with
   | false => rw [hb2] at h; cases h
   | true =>
     rw [hb2] at h
     simp only [cond_true] at h
     simp only [Bool.and_eq_true, Nat.beq_eq] at hb2
     obtain ⟨⟨rfl, hdz⟩, hone⟩ := hb2
     split at h <;> (try cases h)
     rename_i Q' hpush
     split at h <;> (try cases h)
     rename_i sl hsl
     obtain ⟨rfl, hlen⟩ := of_decide_eq_true ht
     obtain ⟨p1, p2, p3⟩ := Rows.push_ok hpush
     have hnil : PathHolds a [] := fun _ _ hm => by cases hm
     -- the arguments
     obtain ⟨x1, x2, hx12, hx1, hx2⟩ := evs_two hargs
     have hv1 : a.eval x1 = (tok s.b s.R.len).den c.S E := ev_ok sat.sat.slots hnil hx1
     have hv2 : a.eval x2 = (SV.slc k 0 1 1).den c.S E := ev_ok sat.sat.slots hnil hx2
     have hat := sat.sat.hs.at_ k y hget (by rw [← SV.len c.S E y]; have := p1; have h3 := Q'.length; have h4 := s.R.length; rw [rv1_cells c.S E hrv]; rw [p1, List.length_append, h4, p2, p3, Nat.add_mul, Nat.one_mul] at h3; have := s.R.zpos; omega)
     have hyc := rv1_cells c.S E hrv
     have hvl : v.cells.length = s.R.z := by
       have h3 := Q'.length
       rw [p1, List.length_append, s.R.length, p2, p3, Nat.add_mul, Nat.one_mul] at h3
       omega
     have hpl : E.place k 0 = E.ad k := by
       obtain ⟨hs, _⟩ := hat
       unfold Env.place
       cases hq : E.ad k
       rw [hq] at hs
       simp at hs
       simp [hs]
     have hone1 : ∀ u ∈ v.cells, u.oneCell' = true := fun u hu => SV.one_cells c.S E y hone u (by rw [hyc]; exact hu)
     have hnews : ∀ j u, v.cells[j]? = some u → w.cell? ((E.place k 0).add j) = some u := fun j u hu => by
       rw [hpl]
       exact hat.cell (by rw [hyc]; exact hu) (hone1 u (List.mem_of_getElem? hu))
     -- the types
     have hsl1 : P.underlying t1 = some (.slice e') := by
       obtain ⟨i, u, h1, h2, h3, h4⟩ := (hc.tys _ _ htys).info
       have := shape_slice h4
       rw [h2, this]
     obtain ⟨i, z0, hi, hz, his, hib, hzs⟩ : ∃ i z0, P.info? e' = some i ∧ i.zero = some z0 ∧ i.size = s.R.z ∧ i.bytes ≤ 1048576 ∧ z0.cells.size = i.size := by
       have hty := hc.tys _ _ hde
       obtain ⟨i, u, h1, h2, h3, h4⟩ := hty.info
       have hz0 := hty.zero c.S E
       rw [h1] at hz0
       refine ⟨i, _, h1, hz0, by rw [h3, hdz], hc.small _ _ _ hde h1, ?_⟩
       rw [run_cells_one c.S E hty.one, List.size_toArray, SV.len, hty.sz, h3]
     obtain ⟨v', w', hr, own', hg, hbk⟩ := append_own (P := P) (w := w) w0.heap.size t1 o.type e' i z0 hsl1 hi hz hzs (by rw [his]; exact s.R.zpos) _ s.R.len s.R.cells (by rw [his]; exact sat.bld.own)
       (E.place k 0) 1 v.cells (by rw [his, hvl, Nat.one_mul]) hnews hone1 (by simp only [maxLen]; omega) (Nat.le_trans (Nat.mul_le_mul (show s.R.len + 1 ≤ 134217728 by omega) hib) (by decide)) sat.sat.fr.size
     refine wpList_hand hgd ?_
     have hrun : (execOp a.eval o).run P w = .ok (.value v') w' := by
       have hq : q.args = #[x1, x2] := by rw [← Array.toArray_toList (xs := q.args), hx12]
       have hqt : q.argTypes = #[t1, t1] := by rw [← Array.toArray_toList (xs := q.argTypes), hty]
       have e2 : (SV.slc k 0 1 1).den c.S E = .slice (some (E.place k 0)) 1 1 := by simp [SV.den]
       rw [e2] at hv2
       cases q with
       | mk cal args ats =>
         simp only at hcal hq hqt
         subst hq hqt hcal
         simp only [execOp, hop, resolve, invoke, builtin, Sem.run_bind, Sem.run_pure, Result.andThen_ok, List.map_toArray, List.map_cons, List.map_nil, hv1, hv2, hr]
     unfold Oper.wp
     rw [hrun, Oper.upon_value, hdst]
     rw [his] at own'
     -- where it lies
     obtain ⟨g, cap, cur, hv', hgb, hgg, hgc⟩ : ∃ g cap cur, v' = .slice (some ⟨g, 0, none⟩) (s.R.len + 1) cap ∧ w0.heap.size ≤ g ∧ w'.heap[g]? = some (.cells cur e' (0, 0)) ∧ s.R.len + 1 ≤ cap := by
       rcases own'.2 with ⟨_, h0⟩ | ⟨g, cap, cur, h1, h2, h3, h4, _⟩
       · omega
       · exact ⟨g, cap, cur, h1, h2, h3, h4⟩
     have hu : Env.upto s.st.next E { ad := fun k => if k = s.st.next then ⟨g, 0, none⟩ else E.ad k, cp := fun k => if k = s.st.next then (cap, false) else E.cp k } := by
       intro k hk
       have : k ≠ s.st.next := by omega
       simp [this]
     have hden : (tok s.st.next Q'.len).den c.S { ad := fun k => if k = s.st.next then ⟨g, 0, none⟩ else E.ad k, cp := fun k => if k = s.st.next then (cap, false) else E.cp k } = v' := by
       rw [hv', p2]
       have hmx : Nat.max (s.R.len + 1) cap = cap := Nat.max_eq_right hgc
       simp [tok, SV.den, Env.place, hmx]
     have sat1 := sat.sat.grown hg (fun g hg => ⟨(sat.bld.own.lt g hg).1, sat.bld.hid g hg⟩)
     have sat2 := sat1.env hbnd hu
     have hso := putSlot_ok hsl sat2.slots sat2.size (v := v') (fun _ => hden.symm) (fun hh => absurd hnil hh)
     refine K _ _ _ hu (Nat.le_succ _) ⟨sat2.put hso, ⟨?_, Nat.lt_succ_self _, fun g' hg' => ?_, fun g' hg' => ?_⟩⟩ ?_
     · show w'.ownsRow _ e' Q'.z ((tok s.st.next Q'.len).den c.S _) Q'.len Q'.cells
       rw [hden, p3, p2, p1]
       exact own'
     · have hg2 : v'.ownBlock = some g' := by rw [← hden]; exact hg'
       refine Hid.env hbnd hu ?_
       rcases hbk with hb | hb
       · exact sat.bld.hid g' (by rw [← hb]; exact hg2)
       · rw [hb] at hg2; injection hg2 with hg2; subst hg2
         exact bl_new sat.sat
     · have hg2 : v'.ownBlock = some g' := by rw [← hden]; exact hg'
       rw [hv'] at hg2
       simp only [Value.ownBlock, Option.some.injEq] at hg2
       subst hg2
       simp
     · refine ⟨hg.size, ?_⟩
       intro g0 o0 ho hcell hh
       refine ⟨(hg.block g0 (lt_of_some ho) fun he => ?_).trans ho, Hid.env hbnd hu hh⟩
       rcases sat.bld.own.2 with ⟨h0, _⟩ | ⟨g1, cap1, cur1, h0, _, h3, _⟩
       · rw [h0] at he; cases he
       · rw [h0] at he
         simp only [Value.ownBlock, Option.some.injEq] at he
         subst he
         rw [ho] at h3
         injection h3 with h3
         subst h3
         cases hcell
theorem regionB_ok (hc : CtxFull P c) {Q : Exit → Act → World → Prop} (ops : List Oper) : ∀ (l acc : List Oper) (s s' : BSt) (a : Act) (w : World) (E : Env), SatB c n w0 M e E s a w → (regionB c n e ops l acc s).sel = some s' →
   (∀ E' a' w', Env.upto s.st.next E E' → s.st.next ≤ s'.st.next → SatB c n w0 M e E' s' a' w' → Quiet s E w s' E' w' → wpList P ops.toArray Q [] a' w') → wpList P ops.toArray Q (acc.reverse ++ l) a w
 | [], acc, s, s', a, w, E, sat, h, K => engB_ok hc ops [] acc.reverse sat h K
 | o :: rest, acc, s, s', a, w, E, sat, h, K => by
   unfold regionB at h
   cases hi : isApp o with
   | false =>
     rw [hi] at h
     have := regionB_ok hc (Q := Q) ops rest (o :: acc) s s' a w E sat h K
     rw [List.reverse_cons, List.append_assoc] at this
     exact this
   | true =>
     rw [hi] at h
     simp only [cond_true] at h
     rw [Out.sel_bind] at h
     cases h1 : (engB c n ops acc.reverse s).sel with
     | none => rw [h1] at h; cases h
     | some s1 =>
       rw [h1] at h
       simp only [Option.bind_some] at h
       refine engB_ok hc ops (o :: rest) acc.reverse sat h1 ?_
       intro E1 a1 w1 hu1 hle1 sat1 q1
       split at h
       · rename_i t s2 hp
         obtain ⟨ht, h2⟩ := Out.ite_bad h
         refine push_ok hc hp ht sat1 ?_
         intro E2 a2 w2 hu2 hle2 sat2 q2
         exact regionB_ok hc (Q := Q) ops rest [] s2 s' a2 w2 E2 sat2 h2 fun E3 a3 w3 hu3 hle3 sat3 q3 => K E3 a3 w3 ((hu1.trans hu2 hle1).trans hu3 (Nat.le_trans hle1 hle2)) (Nat.le_trans (Nat.le_trans hle1 hle2) hle3) sat3 ((q1.trans q2).trans q3)
       · rw [Out.sel_bind] at h
         cases h2 : (engB c n ops [o] s1).sel with
         | none => rw [h2] at h; cases h
         | some s2 =>
           rw [h2] at h
           simp only [Option.bind_some] at h
           refine engB_ok hc ops rest [o] sat1 h2 ?_
           intro E2 a2 w2 hu2 hle2 sat2 q2
           exact regionB_ok hc (Q := Q) ops rest [] s2 s' a2 w2 E2 sat2 h fun E3 a3 w3 hu3 hle3 sat3 q3 => K E3 a3 w3 ((hu1.trans hu2 hle1).trans hu3 (Nat.le_trans hle1 hle2)) (Nat.le_trans (Nat.le_trans hle1 hle2) hle3) sat3 ((q1.trans q2).trans q3)
end
def chainB (ms : List Nat) (k : Nat) : Bool := (List.range ms.length).all fun i => Nat.blt i k || lowBits (ms.getD i 0) i
section
variable {P : Program} {c : Ctx} {n : Nat} {w0 w : World} {M : Nat → Nat → Prop} {E0 E : Env} {a : Act} {ops pre : List Oper} {st0 stN : St} {items : List Item}
theorem chain_ahead (he : edgesBack ops 0 = true) {k i : Nat} (hc : chainB (masks ops []) k = true) (hk : k ≤ i) {D : Nat → Bool} (hi : i < ops.length) (hn : Next ops D i) : ∀ j, j < i → D j = true := by
 intro j hj
 obtain ⟨hg1, hg2⟩ := masks_good ops ops [] ⟨[], by simp, rfl⟩ (fun j m h => by simp at h)
 have hml : (masks ops []).length = ops.length := by simpa using hg2
 have hmi : (masks ops [])[i]? = some ((masks ops [])[i]'(by omega)) := List.getElem?_eq_getElem _
 have hb : lowBits ((masks ops [])[i]'(by omega)) i = true := by
   unfold chainB at hc
   rw [List.all_eq_true] at hc
   have h1 := hc i (List.mem_range.2 (by omega))
   have h2 : Nat.blt i k = false := by
     cases hb : Nat.blt i k with
     | false => rfl
     | true => have : i < k := by simpa using hb
               omega
   rw [h2, Bool.false_or] at h1
   simpa [List.getD, hmi] using h1
 have := hg1 _ _ hmi (put1 D i) hn.put1 (by simp [put1]) j (lowBits_ok hb j hj)
 unfold put1 at this
 rw [if_neg (by omega)] at this
 exact this
theorem next_of_ready {listed : Array Bool} (hl : listed.size = ops.length) (hcl : Closed ops (isIn listed)) {i : Nat} (hi : i ∈ Region.ready .any ops.toArray listed) : i < ops.length ∧ isIn listed i = false ∧ Next ops (isIn listed) i := by
 rw [mem_ready] at hi
 obtain ⟨h1, o, ho, hpre⟩ := hi
 have hlt : i < ops.length := by
   have := (Array.getElem?_eq_some_iff.1 ho).1
   simpa using this
 have hlt' : i < listed.size := by omega
 have hno : isIn listed i = false := by
   unfold isIn
   simpa [Array.getD_eq_getD_getElem?, hlt'] using h1
 refine ⟨hlt, hno, hcl, hno, fun o' e ho' he hb => ?_⟩
 have : o = o' := by
   have h2 : ops.toArray[i]? = some o' := by simpa using ho'
   rw [ho] at h2; injection h2
 subst this
 exact hpre e (by simpa using he) hb
theorem chain_list (he : edgesBack ops 0 = true) {k0 : Nat} (hc : chainB (masks ops []) k0 = true) {Q : Exit → Act → World → Prop} :
   ∀ (fuel k : Nat) (listed : Array Bool) (a : Act) (w : World), k0 ≤ k → k ≤ ops.length → unseen listed ops.length ≤ fuel → listed.size = ops.length → Closed ops (isIn listed) → (∀ j, j < ops.length → (isIn listed j = true ↔ j < k)) →
     wpList P ops.toArray Q (ops.drop k) a w → wpAny P .any ops.toArray Q fuel listed a w := by
 intro fuel
 induction fuel with
 | zero =>
   intro k listed a w h0 hk hf hl hcl hall h
   have hke : k = ops.length := by
     refine Nat.le_antisymm hk (Nat.le_of_not_lt fun hlt => ?_)
     have := (hall k hlt).1 (unseen_zero (Nat.le_zero.1 hf) k hlt)
     omega
   subst hke
   rw [List.drop_length] at h
   exact all_listed hl (fun i hi => (hall i hi).2 hi) h 0
 | succ fuel ih =>
   intro k listed a w h0 hk hf hl hcl hall h
   rcases Nat.lt_or_ge k ops.length with hlt | hge
   · have hdrop : ops.drop k = ops[k] :: ops.drop (k + 1) := List.drop_eq_getElem_cons hlt
     refine ⟨fun hr => ?_, fun i hi => ?_⟩
     · have := ready_nil he hl hr k hlt
       have := (hall k hlt).1 this
       omega
     · obtain ⟨hilt, hno, hn⟩ := next_of_ready hl hcl hi
       have hki : k ≤ i := Nat.le_of_not_lt fun hh => by
         have := (hall i hilt).2 hh
         rw [hno] at this; cases this
       have hie : i = k := by
         refine Nat.le_antisymm (Nat.le_of_not_lt fun hh => ?_) hki
         have := chain_ahead he hc (by omega) hilt hn k hh
         have := (hall k hlt).1 this
         omega
       subst hie
       rw [hdrop] at h
       have h1 : wpOp P ops.toArray Q i (wpList P ops.toArray Q (ops.drop (i + 1))) a w := by
         unfold wpOp
         have : ops.toArray[i]? = some ops[i] := by simp [List.getElem?_eq_getElem hilt]
         rw [this]
         exact h
       refine wpOp_mono ?_ h1
       intro a' w' hq
       have hlt' : i < listed.size := by omega
       refine ih (i + 1) (listed.setIfInBounds i true) a' w' (by omega) hilt (by have := unseen_set hlt' hilt hno; omega) (by simp [hl]) (by rw [isIn_set hlt']; exact hn.put1) (fun j hj => ?_) hq
       rw [isIn_set hlt']
       unfold put1
       by_cases hji : j = i
       · simp [hji]
       · rw [if_neg hji, hall j hj]; omega
   · have hke : k = ops.length := by omega
     subst hke
     rw [List.drop_length] at h
     exact all_listed hl (fun i hi => (hall i hi).2 hi) h (fuel + 1)
theorem any_tail (s : Setup P c n ops pre st0 items stN) (hwin : WinOk c.S c.win E0) (hwb : ∀ n j k z, (n, j, k, z) ∈ c.win → k < st0.next) {Q : Exit → Act → World → Prop} (hch : chainB (masks ops []) pre.length = true)
   (htail : ∀ E a w (D : Nat → Bool), (∀ i, i < pre.length → D i = true) → DInv c n w0 M E0 st0 items D E a w → wpList P ops.toArray Q (ops.drop pre.length) a w) :
   ∀ (fuel : Nat) (listed : Array Bool) (a : Act) (w : World) (E : Env), listed.size = ops.length → Closed ops (isIn listed) → (∀ i, pre.length ≤ i → isIn listed i = false) → unseen listed ops.length ≤ fuel → DInv c n w0 M E0 st0 items (isIn listed) E a w →
     wpAny P .any ops.toArray Q fuel listed a w := by
 have hple : pre.length ≤ ops.length := by
   obtain ⟨post, hpost⟩ := s.hpre
   rw [hpost]; simp
 have hdone : ∀ (fuel : Nat) {listed : Array Bool} {a : Act} {w : World} {E : Env}, listed.size = ops.length → Closed ops (isIn listed) → (∀ i, pre.length ≤ i → isIn listed i = false) → unseen listed ops.length ≤ fuel → (∀ i, i < pre.length → isIn listed i = true) → DInv c n w0 M E0 st0 items (isIn listed) E a w →
     wpAny P .any ops.toArray Q fuel listed a w := by
   intro fuel listed a w E hl hcl hno hf hall inv
   refine chain_list s.edges hch fuel pre.length listed a w (Nat.le_refl _) hple hf hl hcl (fun j hj => ⟨fun h => Nat.lt_of_not_le fun hh => ?_, fun h => hall j h⟩) (htail E a w _ hall inv)
   rw [hno j hh] at h; cases h
 intro fuel
 induction fuel with
 | zero =>
   intro listed a w E hl hcl hno hf inv
   exact hdone 0 hl hcl hno hf (fun i hi => unseen_zero (Nat.le_zero.1 hf) i (by omega)) inv
 | succ fuel ih =>
   intro listed a w E hl hcl hnol hf inv
   by_cases hall : ∀ i, i < pre.length → isIn listed i = true
   · exact hdone (fuel + 1) hl hcl hnol hf hall inv
   · obtain ⟨m, hm, hmn⟩ : ∃ m, m < pre.length ∧ isIn listed m = false := by
       refine Classical.byContradiction fun hh => hall fun i hi => ?_
       cases hb : isIn listed i with
       | true => rfl
       | false => exact absurd ⟨i, hi, hb⟩ hh
     refine ⟨fun h => ?_, fun i hi => ?_⟩
     · have := ready_nil s.edges hl h m (by omega)
       rw [hmn] at this; cases this
     · obtain ⟨hlt, hno, hn⟩ := next_of_ready hl hcl hi
       have hip : i < pre.length := Nat.lt_of_not_le fun hh => by
         have := chain_ahead s.edges hch hh hlt hn m (by omega)
         rw [hmn] at this; cases this
       have hlt' : i < listed.size := by omega
       obtain ⟨it, hit⟩ : ∃ it, items[i]? = some it := ⟨items[i]'(by rw [s.len]; exact hip), List.getElem?_eq_getElem _⟩
       have hstep := step_wp (Q := Q) s hwin hwb hn hit inv
       refine wpOp_mono ?_ hstep
       rintro a' w' ⟨E', inv'⟩
       rw [← isIn_set hlt'] at inv'
       have hcl' : Closed ops (isIn (listed.setIfInBounds i true)) := by rw [isIn_set hlt']; exact hn.put1
       have hnol' : ∀ j, pre.length ≤ j → isIn (listed.setIfInBounds i true) j = false := fun j hj => by
         rw [isIn_set hlt']
         unfold put1
         rw [if_neg (by omega)]
         exact hnol j hj
       exact ih (listed.setIfInBounds i true) a' w' E' (by simp [hl]) hcl' hnol' (by have := unseen_set hlt' hlt hno; omega) inv'
end
section
variable {P : Program} {c : Ctx} {n : Nat} {w0 w : World} {M : Nat → Nat → Prop} {E : Env} {a : Act} {e : TypeId}
def firstApp : List Oper → Option Nat
 | [] => none
 | o :: r => bif isApp o then some 0 else (match firstApp r with | some k => some (k + 1) | none => none)
noncomputable def drawB (c : Ctx) (n : Nat) (e : TypeId) (ops : List Oper) (k : Nat) (s : BSt) : Out BSt := match trace c n ops (ops.take k) s.st with
 | none => .bad
 | some (items, st') => bif (edgesBack ops 0 && (guardedSlots s.st.slots).isEmpty && allPairs ops s.st.next items (masks ops []) 0 && s.st.bnd) && (Nat.ble k ops.length && chainB (masks ops []) k) then
     (Out.when (cnds items) ()).bind fun _ => chkB c.S.ro s.st st' (regionB c n e ops (ops.drop k) [] ⟨st', s.b, s.R⟩)
   else .bad
theorem drawB_ok (hc : CtxFull P c) {id : Nat} {Q : Exit → Act → World → Prop} (ops : List Oper) (k : Nat) {s s' : BSt} (sat : SatB c n w0 M e E s a w) (h : (drawB c n e ops k s).sel = some s')
   (K : ∀ E' a' w', Env.upto s.st.next E E' → s.st.next ≤ s'.st.next → SatB c n w0 M e E' s' a' w' → Q .normal a' w') : (Code.region id ops.toArray true).wp P Q a w := by
 unfold drawB at h
 split at h
 · cases h
 · rename_i items st' ht
   cases hb : ((edgesBack ops 0 && (guardedSlots s.st.slots).isEmpty && allPairs ops s.st.next items (masks ops []) 0 && s.st.bnd) && (Nat.ble k ops.length && chainB (masks ops []) k)) with
   | false => rw [hb] at h; cases h
   | true =>
     rw [hb] at h
     simp only [cond_true] at h
     rw [Out.sel_bind] at h
     cases hw : (Out.when (cnds items) ()).sel with
     | none => rw [hw] at h; cases h
     | some u =>
       rw [hw] at h
       simp only [Option.bind_some] at h
       obtain ⟨hcn, _⟩ := Out.when_sel hw
       obtain ⟨hro, h2⟩ := chkB_sel h
       simp only [Bool.and_eq_true, List.isEmpty_iff] at hb
       obtain ⟨⟨⟨⟨b1, b2⟩, b3⟩, b4⟩, b5, b6⟩ := hb
       have b5 : k ≤ ops.length := by simpa using b5
       have hcs := cnds_ok hcn
       have hlen : (ops.take k).length = k := by rw [List.length_take, Nat.min_eq_left b5]
       have sat0 := sat.sat.local
       have st : Setup P c n ops (ops.take k) s.st items st' := ⟨hc, ⟨ops.drop k, (List.take_append_drop k ops).symm⟩, ht, b1, b2, b3, b4, hcs, sat.sat.hs.fo⟩
       have hle1 := trace_next (ops.take k) s.st st' items ht hcs
       refine wp_region_any hc.mixed ?_
       refine any_tail st sat0.win sat0.winb (by rw [hlen]; exact b6) ?_ ops.toArray.size (Array.replicate ops.toArray.size false) a _ E (by simp) ?_ ?_ ?_ ?_ (w0 := w) (M := MH c.S E s.st.heap)
       · intro E' a' w' D hD inv
         have sat' := inv.done st sat0.win sat0.winb hD
         have satB := sat.step (st' := st') inv.up hle1 (sat.sat.global sat') fun g hg hlt => Sat.keep hro inv.up sat' hg hlt
         rw [hlen]
         have := regionB_ok hc (Q := Q) ops (ops.drop k) [] _ s' a' w' E' satB h2 fun E2 a2 w2 hu2 hle2 sat2 _ => K E2 a2 w2 (inv.up.trans hu2 hle1) (Nat.le_trans hle1 hle2) sat2
         simpa using this
       · rw [isIn_start]
         intro i o e _ hd
         cases hd
       · rw [isIn_start]
         intro i _
         rfl
       · unfold unseen
         exact Nat.le_trans List.countP_le_length (by simp)
       · rw [isIn_start]
         exact DInv.start sat0.drew
end
noncomputable def codeB (c : Ctx) (n fuel : Nat) (code : Code) (s : BSt) : Out (Ex × BSt) := (exec c n fuel code s.st).bind fun r => chkB c.S.ro s.st r.2 (.ret (r.1, ⟨r.2, s.b, s.R⟩))
noncomputable def execB (c : Ctx) (n fuel : Nat) (e : TypeId) (code : Code) : BSt → Out (Ex × BSt) :=
 Code.rec (motive := fun _ => BSt → Out (Ex × BSt))
   (fun s => .ret (.nrm, s))
   (fun id ops dr s => match dr with
     | false => (regionB c n e ops.toList ops.toList [] s).bind fun s => .ret (.nrm, ⟨{ s.st with slots := dropGuarded s.st.slots }, s.b, s.R⟩)
     | true => (match firstApp ops.toList with
       | none => codeB c n fuel (.region id ops true) s
       | some k => (drawB c n e ops.toList k s).bind fun s => .ret (.nrm, ⟨{ s.st with slots := dropGuarded s.st.slots }, s.b, s.R⟩)))
   (fun _ _ ea eb s => (ea s).bind fun r => match r.1 with | .nrm => eb r.2 | x => .ret (x, r.2))
   (fun x _ _ et ee s => match ev s.st.slots [] x with
     | some (.kb true) => et s
     | some (.kb false) => ee s
     | some (.v (.bool b)) => .ite b (et ⟨s.st.learn x true, s.b, s.R⟩) (ee ⟨s.st.learn x false, s.b, s.R⟩)
     | _ => .bad)
   (fun id _ eb s => (eb s).bind fun r => match r.1 with | .exit i => (bif Nat.beq i id then .ret (.nrm, r.2) else .ret r) | _ => .ret r)
   (fun b _ s => codeB c n fuel (.loop b) s)
   (fun _ _ _ _ _ _ _ => .bad)
   (fun id s => .ret (.exit id, s))
   (fun _ _ _ => .bad)
   (fun _ _ => .bad)
   (fun _ _ => .bad)
   (fun s => .ret (.ret, s))
   (fun _ _ => .bad)
   code
section
variable {P : Program} {c : Ctx} {n : Nat} {w0 w : World} {M : Nat → Nat → Prop} {E : Env} {a : Act} {e : TypeId}
theorem codeB_ok (hc : CtxFull P c) {Q : Exit → Act → World → Prop} {fuel : Nat} (code : Code) (hl : LoopsOk P c n code) {s s' : BSt} {ex : Ex} (sat : SatB c n w0 M e E s a w) (h : (codeB c n fuel code s).sel = some (ex, s'))
   (K : ∀ E' a' w', Env.upto s.st.next E E' → s.st.next ≤ s'.st.next → SatB c n w0 M e E' s' a' w' → Q ex.out a' w') : code.wp P Q a w := by
 unfold codeB at h
 rw [Out.sel_bind] at h
 cases h1 : (exec c n fuel code s.st).sel with
 | none => rw [h1] at h; cases h
 | some r =>
   obtain ⟨ex1, st'⟩ := r
   rw [h1] at h
   simp only [Option.bind_some] at h
   obtain ⟨hro, h2⟩ := chkB_sel h
   simp only [Out.sel, Option.some.injEq, Prod.mk.injEq] at h2
   obtain ⟨rfl, rfl⟩ := h2
   refine exec_ok hc (draw_ok hc) code hl w (MH c.S E s.st.heap) Q s.st st' ex1 a w E sat.sat.local h1 ?_
   intro E' a' w' hu hle sat'
   exact K E' a' w' hu hle (sat.step hu hle (sat.sat.global sat') fun g hg hlt => Sat.keep hro hu sat' hg hlt)
theorem execB_ok (hc : CtxFull P c) {fuel : Nat} (code : Code) : LoopsOk P c n code → ∀ {Q : Exit → Act → World → Prop} {s s' : BSt} {ex : Ex} {a : Act} {w : World} {E : Env}, SatB c n w0 M e E s a w → (execB c n fuel e code s).sel = some (ex, s') →
   (∀ E' a' w', Env.upto s.st.next E E' → s.st.next ≤ s'.st.next → SatB c n w0 M e E' s' a' w' → Q ex.out a' w') → code.wp P Q a w := by
 induction code with
 | skip =>
   intro hl Q s s' ex a w E sat h hK
   simp only [execB, Out.sel, Option.some.injEq, Prod.mk.injEq] at h
   obtain ⟨rfl, rfl⟩ := h
   exact wp_skip (hK E a w (Env.upto.refl _ _) (Nat.le_refl _) sat)
 | region id ops dr =>
   intro hl Q s s' ex a w E sat h hK
   cases dr with
   | true =>
     have h' : (match firstApp ops.toList with
       | none => codeB c n fuel (.region id ops true) s
       | some k => (drawB c n e ops.toList k s).bind fun s => .ret (Ex.nrm, (⟨{ s.st with slots := dropGuarded s.st.slots }, s.b, s.R⟩ : BSt))).sel = some (ex, s') := h
     split at h'
     · exact codeB_ok hc _ hl sat h' hK
     · rename_i k _
       rw [Out.sel_bind] at h'
       cases h1 : (drawB c n e ops.toList k s).sel with
       | none => rw [h1] at h'; cases h'
       | some s1 =>
         rw [h1] at h'
         simp only [Option.bind_some, Out.sel, Option.some.injEq, Prod.mk.injEq] at h'
         obtain ⟨rfl, rfl⟩ := h'
         have := drawB_ok (id := id) hc (Q := Q) ops.toList k sat h1 fun E' a' w' hu hle sat' => hK E' a' w' hu hle ⟨sat'.sat.drop, ⟨sat'.bld.own, sat'.bld.lt, sat'.bld.hid, sat'.bld.ad⟩⟩
         simpa using this
   | false =>
     have h' : ((regionB c n e ops.toList ops.toList [] s).bind fun s => .ret (Ex.nrm, (⟨{ s.st with slots := dropGuarded s.st.slots }, s.b, s.R⟩ : BSt))).sel = some (ex, s') := h
     rw [Out.sel_bind] at h'
     cases h1 : (regionB c n e ops.toList ops.toList [] s).sel with
     | none => rw [h1] at h'; cases h'
     | some s1 =>
       rw [h1] at h'
       simp only [Option.bind_some, Out.sel, Option.some.injEq, Prod.mk.injEq] at h'
       obtain ⟨rfl, rfl⟩ := h'
       have := regionB_ok hc (Q := Q) ops.toList ops.toList [] s s1 a w E sat h1 fun E' a' w' hu hle sat' _ => hK E' a' w' hu hle ⟨sat'.sat.drop, ⟨sat'.bld.own, sat'.bld.lt, sat'.bld.hid, sat'.bld.ad⟩⟩
       have := wp_region_lit (id := id) this
       simpa using this
 | seq x y ihx ihy =>
   intro hl Q s s' ex a w E sat h hK
   have h' : ((execB c n fuel e x s).bind fun r => match r.1 with | .nrm => execB c n fuel e y r.2 | z => .ret (z, r.2)).sel = some (ex, s') := h
   rw [Out.sel_bind] at h'
   cases h1 : (execB c n fuel e x s).sel with
   | none => rw [h1] at h'; cases h'
   | some r =>
     obtain ⟨e1, s1⟩ := r
     rw [h1] at h'
     simp only [Option.bind_some] at h'
     refine wp_seq (ihx (fun b hb => hl b (List.mem_append_left _ hb)) sat h1 ?_)
     intro E' a' w' hu hle sat'
     cases e1 with
     | nrm => exact ihy (fun b hb => hl b (List.mem_append_right _ hb)) sat' h' fun E'' a'' w'' hu2 hle2 sat2 => hK E'' a'' w'' (hu.trans hu2 hle) (Nat.le_trans hle hle2) sat2
     | exit i => simp only [Out.sel, Option.some.injEq, Prod.mk.injEq] at h'; obtain ⟨rfl, rfl⟩ := h'; exact hK E' a' w' hu hle sat'
     | ret => simp only [Out.sel, Option.some.injEq, Prod.mk.injEq] at h'; obtain ⟨rfl, rfl⟩ := h'; exact hK E' a' w' hu hle sat'
     | goto l => simp only [Out.sel, Option.some.injEq, Prod.mk.injEq] at h'; obtain ⟨rfl, rfl⟩ := h'; exact hK E' a' w' hu hle sat'
 | cond x t f iht ihe =>
   intro hl Q s s' ex a w E sat h hK
   have h' : (match ev s.st.slots [] x with
     | some (.kb true) => execB c n fuel e t s
     | some (.kb false) => execB c n fuel e f s
     | some (.v (.bool b)) => .ite b (execB c n fuel e t ⟨s.st.learn x true, s.b, s.R⟩) (execB c n fuel e f ⟨s.st.learn x false, s.b, s.R⟩)
     | _ => .bad).sel = some (ex, s') := h
   have hnil : PathHolds a [] := fun _ _ hm => by cases hm
   split at h'
   · rename_i hx
     exact wp_cond_true (ev_ok sat.sat.slots hnil hx) (iht (fun b hb => hl b (List.mem_append_left _ hb)) sat h' hK)
   · rename_i hx
     exact wp_cond_false (ev_ok sat.sat.slots hnil hx) (ihe (fun b hb => hl b (List.mem_append_right _ hb)) sat h' hK)
   · rename_i b hx
     have hv := ev_ok sat.sat.slots hnil hx
     have hln : (s.st.learn x b).next = s.st.next := by cases x <;> rfl
     have hlh : (s.st.learn x b).heap = s.st.heap := by cases x <;> rfl
     have satl : SatB c n w0 M e E ⟨s.st.learn x b, s.b, s.R⟩ a w := ⟨sat.sat.learn hx, ⟨sat.bld.own, by show s.b < (s.st.learn x b).next; rw [hln]; exact sat.bld.lt, fun g hg k z hk hp => by
       have hk : Heap.get (s.st.learn x b).heap k = some z := hk
       rw [hlh] at hk
       exact sat.bld.hid g hg k z hk hp, sat.bld.ad⟩⟩
     cases b with
     | true =>
       simp only [Out.sel, if_true] at h'
       exact wp_cond_true hv (iht (fun b hb => hl b (List.mem_append_left _ hb)) satl h' (by show ∀ E' a' w', Env.upto (s.st.learn x true).next E E' → (s.st.learn x true).next ≤ _ → _; rw [hln]; exact hK))
     | false =>
       simp only [Out.sel, Bool.false_eq_true, if_false] at h'
       exact wp_cond_false hv (ihe (fun b hb => hl b (List.mem_append_right _ hb)) satl h' (by show ∀ E' a' w', Env.upto (s.st.learn x false).next E E' → (s.st.learn x false).next ≤ _ → _; rw [hln]; exact hK))
   · cases h'
 | block id x ih =>
   intro hl Q s s' ex a w E sat h hK
   have h' : ((execB c n fuel e x s).bind fun r => match r.1 with | .exit i => (bif Nat.beq i id then .ret (.nrm, r.2) else .ret r) | _ => .ret r).sel = some (ex, s') := h
   rw [Out.sel_bind] at h'
   cases h1 : (execB c n fuel e x s).sel with
   | none => rw [h1] at h'; cases h'
   | some r =>
     obtain ⟨e1, s1⟩ := r
     rw [h1] at h'
     simp only [Option.bind_some] at h'
     refine wp_block (ih hl sat h1 ?_)
     intro E' a' w' hu hle sat'
     cases e1 with
     | nrm => simp only [Out.sel, Option.some.injEq, Prod.mk.injEq] at h'; obtain ⟨rfl, rfl⟩ := h'; exact hK E' a' w' hu hle sat'
     | exit i =>
       cases hb : Nat.beq i id with
       | true =>
         dsimp only at h'
         rw [hb] at h'
         simp only [cond_true, Out.sel, Option.some.injEq, Prod.mk.injEq] at h'
         obtain ⟨rfl, rfl⟩ := h'
         have := Nat.eq_of_beq_eq_true hb
         simp only [Ex.out, Exit.inBlock, this, if_true]
         exact hK E' a' w' hu hle sat'
       | false =>
         dsimp only at h'
         rw [hb] at h'
         simp only [cond_false, Out.sel, Option.some.injEq, Prod.mk.injEq] at h'
         obtain ⟨rfl, rfl⟩ := h'
         have hne : i ≠ id := by intro he; subst he; simp at hb
         simp only [Ex.out, Exit.inBlock, if_neg hne]
         exact hK E' a' w' hu hle sat'
     | ret => simp only [Out.sel, Option.some.injEq, Prod.mk.injEq] at h'; obtain ⟨rfl, rfl⟩ := h'; exact hK E' a' w' hu hle sat'
     | goto l => simp only [Out.sel, Option.some.injEq, Prod.mk.injEq] at h'; obtain ⟨rfl, rfl⟩ := h'; exact hK E' a' w' hu hle sat'
 | loop x ih =>
   intro hl Q s s' ex a w E sat h hK
   exact codeB_ok hc _ hl sat h hK
 | exit id =>
   intro hl Q s s' ex a w E sat h hK
   simp only [execB, Out.sel, Option.some.injEq, Prod.mk.injEq] at h
   obtain ⟨rfl, rfl⟩ := h
   exact wp_exit (hK E a w (Env.upto.refl _ _) (Nat.le_refl _) sat)
 | ret =>
   intro hl Q s s' ex a w E sat h hK
   simp only [execB, Out.sel, Option.some.injEq, Prod.mk.injEq] at h
   obtain ⟨rfl, rfl⟩ := h
   exact wp_ret (hK E a w (Env.upto.refl _ _) (Nat.le_refl _) sat)
 | rangeFunc f ps x y _ _ => intro hl Q s s' ex a w E sat h hK; exact absurd h (by simp [execB, Out.sel])
 | scope x ih => intro hl Q s s' ex a w E sat h hK; exact absurd h (by simp [execB, Out.sel])
 | label l => intro hl Q s s' ex a w E sat h hK; exact absurd h (by simp [execB, Out.sel])
 | goto l => intro hl Q s s' ex a w E sat h hK; exact absurd h (by simp [execB, Out.sel])
 | refuse why => intro hl Q s s' ex a w E sat h hK; exact absurd h (by simp [execB, Out.sel])
def ReSlots2 (s : Slots) (S : Stat) (E : Env) (S' : Stat) (E' : Env) : Slots → Prop
 | [] => True
 | (t, p, x') :: r => (∃ x, s.get t = some (p, x) ∧ x.den S E = x'.den S' E') ∧ ReSlots2 s S E S' E' r
def ReHeap2 (h : Heap) (S : Stat) (E : Env) (S' : Stat) (E' : Env) : Heap → Prop
 | [] => True
 | (k, x') :: r => (∃ x, h.get k = some x ∧ x.cells S E = x'.cells S' E' ∧ x'.foOk S' ∧ E'.ad k = E.ad k) ∧ ReHeap2 h S E S' E' r
theorem ReSlots2.get {s : Slots} {S S' : Stat} {E E' : Env} : ∀ {l : Slots}, ReSlots2 s S E S' E' l → ∀ t p x', l.get t = some (p, x') → ∃ x, s.get t = some (p, x) ∧ x.den S E = x'.den S' E'
 | [], _, t, p, x', h => by simp [Slots.get] at h
 | (k, q, y) :: r, hr, t, p, x', h => by
   simp only [Slots.get] at h
   cases hb : Nat.beq k t with
   | true =>
     rw [hb] at h
     have := Nat.eq_of_beq_eq_true hb; subst this
     simp only [cond_true, Option.some.injEq, Prod.mk.injEq] at h
     obtain ⟨rfl, rfl⟩ := h
     exact hr.1
   | false => rw [hb] at h; exact ReSlots2.get hr.2 t p x' h
theorem ReHeap2.get {s : Heap} {S S' : Stat} {E E' : Env} : ∀ {l : Heap}, ReHeap2 s S E S' E' l → ∀ k x', l.get k = some x' → ∃ x, s.get k = some x ∧ x.cells S E = x'.cells S' E' ∧ x'.foOk S' ∧ E'.ad k = E.ad k
 | [], _, k, x', h => by simp [Heap.get] at h
 | (j, y) :: r, hr, k, x', h => by
   simp only [Heap.get] at h
   cases hb : Nat.beq j k with
   | true =>
     rw [hb] at h
     have := Nat.eq_of_beq_eq_true hb; subst this
     simp only [cond_true, Option.some.injEq] at h
     subst h
     exact hr.1
   | false => rw [hb] at h; exact ReHeap2.get hr.2 k x' h
structure ReD2 (S : Stat) (E : Env) (st : St) (S' : Stat) (E' : Env) (st' : St) : Prop where
 slots : ReSlots2 st.slots S E S' E' st'.slots
 heap : ReHeap2 st.heap S E S' E' st'.heap
theorem size_of_cells2 {S S' : Stat} {E E' : Env} {x y : SV} (h : x.cells S E = y.cells S' E') : x.size = y.size := by
 rw [← SV.len S E x, ← SV.len S' E' y, h]
theorem Sat.re2 {c' : Ctx} {E' : Env} {st st' : St} (h : Sat c n w0 M E st a w) (r : ReD2 c.S E st c'.S E' st') (hro : c'.S.ro = c.S.ro) (hwin : c'.win = []) : Sat c' n w0 M E' st' a w := by
 refine ⟨?_, ⟨?_, ?_, ?_, fun k x' hk => (r.heap.get k x' hk).choose_spec.2.2.1⟩, ?_, h.fr, by rw [hwin]; intro n j k z hm; (cases hm), by rw [hwin]; intro n j k z hm; (cases hm), h.size, h.defers⟩
 · intro t p x' hx
   obtain ⟨x, hx1, hd⟩ := r.slots.get t p x' hx
   rw [← hd]; exact h.slots t p x hx1
 · intro k x' hk hp
   obtain ⟨x, hx, hc, _, he⟩ := r.heap.get k x' hk
   rw [← hc, he]; exact h.hs.at_ k x hx (by rw [size_of_cells2 hc]; exact hp)
 · intro k x' hk hp hnt hr
   obtain ⟨x, hx, hc, _, he⟩ := r.heap.get k x' hk
   rw [he]
   exact h.hs.wr k x hx (by rw [size_of_cells2 hc]; exact hp) (by rw [hc]; exact hnt) (by rw [← hro]; exact hr)
 · intro k k' x1 x2 hne h1 h2 p1 p2 hr
   obtain ⟨y1, hy1, hc1, _, he1⟩ := r.heap.get k x1 h1
   obtain ⟨y2, hy2, hc2, _, he2⟩ := r.heap.get k' x2 h2
   have e1 := size_of_cells2 hc1
   have e2 := size_of_cells2 hc2
   rw [← e1, ← e2, he1, he2]
   exact h.hs.dis k k' y1 y2 hne hy1 hy2 (by omega) (by omega) (by rw [← hro]; exact hr)
 · intro k x' hk hr
   obtain ⟨x, hx, hc, _, he⟩ := r.heap.get k x' hk
   rw [← size_of_cells2 hc, he]
   exact h.own k x hx (by rw [← hro]; exact hr)
theorem SatB.re2 {c' : Ctx} {E' : Env} {s s' : BSt} (h : SatB c n w0 M e E s a w) (r : ReD2 c.S E s.st c'.S E' s'.st) (hro : c'.S.ro = c.S.ro) (hwin : c'.win = []) (hR : s'.R = s.R) (hb : E'.ad s'.b = E.ad s.b ∧ E'.cp s'.b = E.cp s.b) (hlt : s'.b < s'.st.next) : SatB c' n w0 M e E' s' a w := by
 have ht : (tok s'.b s'.R.len).den c'.S E' = (tok s.b s.R.len).den c.S E := by simp [tok, SV.den, Env.place, hb.1, hb.2, hR]
 refine ⟨h.sat.re2 r hro hwin, ⟨by rw [ht, hR]; exact h.bld.own, hlt, fun g hg k x' hk hp => ?_, fun g hg => by rw [hb.1]; exact h.bld.ad g (by rw [← ht]; exact hg)⟩⟩
 rw [ht] at hg
 obtain ⟨x, hx, hc, _, he⟩ := r.heap.get k x' hk
 rw [he]
 exact h.bld.hid g hg k x hx (by rw [size_of_cells2 hc]; exact hp)
theorem SatB.adopt {s : BSt} (h : SatB c n w0 M e E s a w) (hget : ∀ k x, s.st.heap.get k = some x → k ≠ s.b) : Sat c n w0 M E { s.st with heap := (s.b, .rows s.R) :: s.st.heap } a w := by
 have hkey : 0 < (SV.rows s.R).size → ∃ g cap, (tok s.b s.R.len).den c.S E = .slice (some ⟨g, 0, none⟩) s.R.len cap ∧ E.ad s.b = ⟨g, 0, none⟩ ∧ w0.heap.size ≤ g ∧ At w ⟨g, 0, none⟩ s.R.cells ∧ Wr w g := by
   intro hp
   have hn : 0 < s.R.len := by
     cases hz : s.R.len with
     | zero => simp [SV.size, hz] at hp
     | succ m => omega
   rcases h.bld.own.2 with ⟨_, h0⟩ | ⟨g, cap, cur, hv, hgb, hgg, hnc, hcm, hcs, htake⟩
   · omega
   · have ha : E.ad s.b = ⟨g, 0, none⟩ := h.bld.ad g (by rw [hv]; rfl)
     refine ⟨g, cap, hv, ha, hgb, ⟨rfl, .inl ⟨cur, e, (0, 0), hgg, ?_, fun j u hu => ?_⟩⟩, ⟨cur, e, hgg⟩⟩
     · have := s.R.length
       have := Nat.mul_le_mul_right s.R.z hnc
       show 0 + _ ≤ _
       omega
     · have h1 : u.oneCell' = true := plainV.one (s.R.plain u (List.mem_of_getElem? hu))
       rw [← htake, List.getElem?_take] at hu
       split at hu
       · exact ⟨by simpa using hu, h1⟩
       · cases hu
 have hnew : ∀ k x, Heap.get ((s.b, .rows s.R) :: s.st.heap) k = some x → (k = s.b ∧ x = .rows s.R) ∨ (k ≠ s.b ∧ s.st.heap.get k = some x) := by
   intro k x hk
   rw [Heap.get_cons] at hk
   split at hk
   · rename_i he; injection hk with hk; exact .inl ⟨he, hk.symm⟩
   · rename_i he; exact .inr ⟨he, hk⟩
 refine ⟨h.sat.slots, ⟨fun k x hk hp => ?_, fun k x hk hp hnt hr => ?_, fun k k' x x' hne hk hk' hp hp' hr => ?_, fun k x hk => ?_⟩, fun k x hk hr => ?_, h.sat.fr, h.sat.win, h.sat.winb, h.sat.size, h.sat.defers⟩
 · rcases hnew k x hk with ⟨rfl, rfl⟩ | ⟨hne, hk⟩
   · obtain ⟨g, cap, _, ha, _, hat, _⟩ := hkey hp
     rw [ha]; exact hat
   · exact h.sat.hs.at_ k x hk hp
 · rcases hnew k x hk with ⟨rfl, rfl⟩ | ⟨hne, hk⟩
   · obtain ⟨g, cap, _, ha, _, _, hw⟩ := hkey hp
     rw [ha]; exact hw
   · exact h.sat.hs.wr k x hk hp hnt hr
 · rcases hnew k x hk with ⟨rfl, rfl⟩ | ⟨hn1, hk1⟩
   · rcases hnew k' x' hk' with ⟨rfl, rfl⟩ | ⟨hn2, hk2⟩
     · exact absurd rfl hne
     · obtain ⟨g, cap, hv, ha, _⟩ := hkey hp
       refine .inl ?_
       rw [ha]
       exact fun hh => h.bld.hid g (by rw [hv]; rfl) k' x' hk2 hp' hh.symm
   · rcases hnew k' x' hk' with ⟨rfl, rfl⟩ | ⟨hn2, hk2⟩
     · obtain ⟨g, cap, hv, ha, _⟩ := hkey hp'
       refine .inl ?_
       rw [ha]
       exact fun hh => h.bld.hid g (by rw [hv]; rfl) k x hk1 hp hh
     · exact h.sat.hs.dis k k' x x' hne hk1 hk2 hp hp' hr
 · rcases hnew k x hk with ⟨rfl, rfl⟩ | ⟨hne, hk⟩
   · trivial
   · exact h.sat.hs.fo k x hk
 · rcases hnew k x hk with ⟨rfl, rfl⟩ | ⟨hne, hk⟩
   · rcases Nat.eq_zero_or_pos (SV.rows s.R).size with h0 | hp
     · exact .inr fun j hj => by omega
     · obtain ⟨g, cap, _, ha, hgb, _⟩ := hkey hp
       rw [ha]; exact .inl hgb
   · exact h.sat.own k x hk hr
theorem SatB.start {st : St} {R : Rows} (sat : Sat c n w0 M E st a w) (hb : st.bnd = true) (h0 : R.len = 0) :
   ∃ E', Env.upto st.next E E' ∧ E'.cp st.next = (0, true) ∧ SatB c n w0 M e E' ⟨{ st with next := st.next + 1 }, st.next, R⟩ a w := by
 have hu : Env.upto st.next E { ad := E.ad, cp := fun k => if k = st.next then (0, true) else E.cp k } := by
   intro k hk
   have : k ≠ st.next := by omega
   simp [this]
 refine ⟨_, hu, by simp, sat.env hb hu, ?_, Nat.lt_succ_self _, fun g hg => ?_, fun g hg => ?_⟩
 · have hc : R.cells = [] := List.eq_nil_of_length_eq_zero (by rw [R.length, h0, Nat.zero_mul])
   have : (tok st.next R.len).den c.S { ad := E.ad, cp := fun k => if k = st.next then (0, true) else E.cp k } = .slice none 0 0 := by simp [tok, SV.den, h0]
   show w.ownsRow _ e R.z ((tok st.next R.len).den c.S _) R.len R.cells
   rw [this, hc, h0]
   exact World.ownsRow_nil w _ e _
 · exfalso
   simp [tok, SV.den, h0, Value.ownBlock] at hg
 · exfalso
   simp [tok, SV.den, h0, Value.ownBlock] at hg
end
open Go Go.RowKit
def goL {α τ : Type} (stp : Nat → α → τ → τ) : List α → Nat → τ → τ
 | [], _, x => x
 | a :: r, i, x => goL stp r (i + 1) (stp i a x)
def trimB (ts : List Nat) (nx : Nat) (o : Out (Ex × BSt)) : Out (Ex × BSt) := o.bind fun r => .ret (r.1, ⟨trimSt ts nx r.2.st, r.2.b, r.2.R⟩)
theorem trimB_sel {ts : List Nat} {nx : Nat} {o : Out (Ex × BSt)} {ex : Ex} {s1 : BSt} (h : (trimB ts nx o).sel = some (ex, s1)) : ∃ s0, o.sel = some (ex, s0) ∧ s1 = ⟨trimSt ts nx s0.st, s0.b, s0.R⟩ := by
 unfold trimB at h
 rw [Out.sel_bind] at h
 cases h0 : o.sel with
 | none => rw [h0] at h; cases h
 | some r =>
   rw [h0] at h
   simp only [Option.bind_some, Out.sel, Option.some.injEq, Prod.mk.injEq] at h
   obtain ⟨rfl, rfl⟩ := h
   exact ⟨r.2, rfl, rfl⟩
theorem ReSlots2.of_trim {s : Slots} {ts : List Nat} {S S' : Stat} {E E' : Env} : ∀ {l : Slots}, ReSlots2 (keepT s ts) S E S' E' l → ReSlots2 s S E S' E' l
 | [], _ => trivial
 | (t, p, x') :: r, h => ⟨by obtain ⟨x, h1, h2⟩ := h.1; exact ⟨x, keepT_get h1, h2⟩, ReSlots2.of_trim h.2⟩
theorem ReHeap2.of_trim {s : Heap} {nx : Nat} {S S' : Stat} {E E' : Env} : ∀ {l : Heap}, ReHeap2 (keepH nx s) S E S' E' l → ReHeap2 s S E S' E' l
 | [], _ => trivial
 | (t, x') :: r, h => ⟨by obtain ⟨x, h1, h2⟩ := h.1; exact ⟨x, keepH_get h1, h2⟩, ReHeap2.of_trim h.2⟩
theorem ReD2.of_trim {S S' : Stat} {st st' : St} {ts : List Nat} {nx : Nat} {E E' : Env} (h : ReD2 S E (trimSt ts nx st) S' E' st') : ReD2 S E st S' E' st' := ⟨h.slots.of_trim, h.heap.of_trim⟩
theorem Env.alias (E : Env) (nx b : Nat) : ∃ E2 : Env, Env.upto nx E E2 ∧ E2.ad nx = E.ad b ∧ E2.cp nx = E.cp b := by
 refine ⟨{ ad := fun k => if k = nx then E.ad b else E.ad k, cp := fun k => if k = nx then E.cp b else E.cp k }, fun k hk => ?_, by simp, by simp⟩
 have : k ≠ nx := by omega
 simp [this]
section
variable {P : Program}
theorem rounds_bld {α τ : Type} {nx n fuel : Nat} {b : Code} {e : TypeId} {c : Ctx} {ts : List Nat} (cx : Nat → Ctx) (L : List α) (vw : Nat → τ → BSt) (inv : Nat → τ → Prop) (stp : Nat → α → τ → τ) (ex : Ex) (fin : τ → BSt)
   (hfull : ∀ i, CtxFull P (cx i)) (hwin : ∀ i, (cx i).win = []) (hl : ∀ i, LoopsOk P (cx i) n b) (hro : ∀ i, (cx i).S.ro = c.S.ro) (hcw : c.win = [])
   (hvb : ∀ i x, (vw i x).b = nx ∧ (vw i x).st.next = nx + 1) (hfb : ∀ x, (fin x).b = nx ∧ (fin x).st.next = nx + 1)
   (hstep : ∀ i a x, L[i]? = some a → inv i x → ∃ s1, (trimB ts nx (execB (cx i) n fuel e b (vw i x))).sel = some (.nrm, s1) ∧ inv (i + 1) (stp i a x) ∧ (vw (i + 1) (stp i a x)).R = s1.R ∧
     ∀ E1 E2, Env.upto nx E1 E2 → E2.ad nx = E1.ad s1.b → E2.cp nx = E1.cp s1.b → ReD2 (cx i).S E1 s1.st (cx (i + 1)).S E2 (vw (i + 1) (stp i a x)).st)
   (hend : ∀ x, inv L.length x → ∃ s1, (trimB ts nx (execB (cx L.length) n fuel e b (vw L.length x))).sel = some (ex, s1) ∧ ex ≠ .nrm ∧ (fin x).R = s1.R ∧
     ∀ E1 E2, Env.upto nx E1 E2 → E2.ad nx = E1.ad s1.b → E2.cp nx = E1.cp s1.b → ReD2 (cx L.length).S E1 s1.st c.S E2 (fin x).st) :
   ∀ (k i : Nat) (x : τ), i ≤ L.length → L.length - i < k → inv i x → ∀ {w0 : World} {M : Nat → Nat → Prop} {Q : Exit → Act → World → Prop} {a : Act} {w : World} {E : Env}, SatB (cx i) n w0 M e E (vw i x) a w →
     (∀ E' a' w', Env.upto nx E E' → SatB c n w0 M e E' (fin (goL stp (L.drop i) i x)) a' w' → Q ex.out a' w') → Code.rounds P b Q k a w
 | 0, _, _, _, hlt, _, _, _, _, _, _, _, _, _ => absurd hlt (Nat.not_lt_zero _)
 | k + 1, i, x, hle, hlt, hI, w0, M, Q, a, w, E, sat, hK => by
   rw [rounds_succ]
   obtain ⟨vb1, vb2⟩ := hvb i x
   by_cases hi : i < L.length
   · obtain ⟨s1, h1, hI', hR, hre⟩ := hstep i L[i] x (List.getElem?_eq_getElem hi) hI
     obtain ⟨s0, h0, rfl⟩ := trimB_sel h1
     refine execB_ok (hfull i) b (hl i) sat h0 ?_
     intro E' a' w' hu hle' sat'
     rw [vb2] at hu
     obtain ⟨E2, hu2, ha2, hc2⟩ := Env.alias E' nx s0.b
     obtain ⟨nb1, nb2⟩ := hvb (i + 1) (stp i L[i] x)
     have satn : SatB (cx (i + 1)) n w0 M e E2 (vw (i + 1) (stp i L[i] x)) a' w' := sat'.re2 (hre E' E2 hu2 ha2 hc2).of_trim ((hro (i + 1)).trans (hro i).symm) (hwin _) hR (by rw [nb1]; exact ⟨ha2, hc2⟩) (by rw [nb1, nb2]; exact Nat.lt_succ_self _)
     refine rounds_bld (ts := ts) cx L vw inv stp ex fin hfull hwin hl hro hcw hvb hfb hstep hend k (i + 1) _ hi (by omega) hI' satn ?_
     intro E3 a3 w3 hu3 sat3
     rw [List.drop_eq_getElem_cons hi] at hK
     exact hK E3 a3 w3 (((show Env.upto nx E E' from fun k hk => hu k (by omega)).trans hu2 (Nat.le_refl _)).trans hu3 (Nat.le_refl _)) sat3
   · have hi' : i = L.length := by omega
     subst hi'
     obtain ⟨s1, h1, hne, hR, hre⟩ := hend x hI
     obtain ⟨s0, h0, rfl⟩ := trimB_sel h1
     refine execB_ok (hfull _) b (hl _) sat h0 ?_
     intro E' a' w' hu hle' sat'
     rw [vb2] at hu
     obtain ⟨E2, hu2, ha2, hc2⟩ := Env.alias E' nx s0.b
     obtain ⟨nb1, nb2⟩ := hfb x
     have satn : SatB c n w0 M e E2 (fin x) a' w' := sat'.re2 (hre E' E2 hu2 ha2 hc2).of_trim (hro _).symm hcw hR (by rw [nb1]; exact ⟨ha2, hc2⟩) (by rw [nb1, nb2]; exact Nat.lt_succ_self _)
     rw [List.drop_length] at hK
     have := hK E2 a' w' ((show Env.upto nx E E' from fun k hk => hu k (by omega)).trans hu2 (Nat.le_refl _)) satn
     cases ex with
     | nrm => exact absurd rfl hne
     | exit i => exact this
     | ret => exact this
     | goto l => exact this
end
def BSt.adopt (s : BSt) : St := ⟨s.st.slots, (s.b, .rows s.R) :: s.st.heap, s.st.next⟩
def onTrimB (nx : Nat) (ts : List Nat) (f : St → Option (Out (Ex × St))) : LoopFn := fun st => bif Nat.beq st.next nx && st.bnd then f (trimSt ts nx st) else none
theorem onTrimB_some {nx : Nat} {ts : List Nat} {f : St → Option (Out (Ex × St))} {st : St} {o : Out (Ex × St)} (h : onTrimB nx ts f st = some o) : st.next = nx ∧ st.bnd = true ∧ f (trimSt ts nx st) = some o := by
 unfold onTrimB at h
 cases hn : Nat.beq st.next nx && st.bnd with
 | false => rw [hn] at h; cases h
 | true =>
   rw [hn] at h
   simp only [Bool.and_eq_true] at hn
   exact ⟨Nat.eq_of_beq_eq_true hn.1, hn.2, h⟩
theorem loop_build {mk : Stat → Ctx} (hm : Fam mk) {ls : List (Nat × LoopFn)} {n nx fuel : Nat} {b : Code} {e : TypeId} {ts ts0 : List Nat} {π α τ : Type} (Sc : Stat) (Sx : π → Nat → Stat) (hro : ∀ p i, (Sx p i).ro = Sc.ro) (L : π → List α) (vw : π → Nat → τ → BSt) (inv : π → Nat → τ → Prop)
   (stp : π → Nat → α → τ → τ) (ex : Ex) (fin : π → τ → BSt) {f : St → Option (Out (Ex × St))} (hvb : ∀ p i x, (vw p i x).b = nx ∧ (vw p i x).st.next = nx + 1) (hfb : ∀ p x, (fin p x).b = nx ∧ (fin p x).st.next = nx + 1) (hfh : ∀ p x, ((fin p x).st.heap.all fun k => Nat.blt k.1 nx) = true)
   (hg : ∀ st o r, f st = some o → o.sel = some r → ∃ p x, inv p 0 x ∧ (vw p 0 x).R.len = 0 ∧ r = (ex, (fin p (goL (stp p) (L p) 0 x)).adopt) ∧ ∀ E, E.cp nx = (0, true) → ReD2 Sc E st (Sx p 0) E (vw p 0 x).st)
   (hstep : ∀ p i a x, (L p)[i]? = some a → inv p i x → ∃ s1, (trimB ts nx (execB (mk (Sx p i)) n fuel e b (vw p i x))).sel = some (.nrm, s1) ∧ inv p (i + 1) (stp p i a x) ∧ (vw p (i + 1) (stp p i a x)).R = s1.R ∧
     ∀ E1 E2, Env.upto nx E1 E2 → E2.ad nx = E1.ad s1.b → E2.cp nx = E1.cp s1.b → ReD2 (Sx p i) E1 s1.st (Sx p (i + 1)) E2 (vw p (i + 1) (stp p i a x)).st)
   (hend : ∀ p x, inv p (L p).length x → ∃ s1, (trimB ts nx (execB (mk (Sx p (L p).length)) n fuel e b (vw p (L p).length x))).sel = some (ex, s1) ∧ ex ≠ .nrm ∧ (fin p x).R = s1.R ∧
     ∀ E1 E2, Env.upto nx E1 E2 → E2.ad nx = E1.ad s1.b → E2.cp nx = E1.cp s1.b → ReD2 (Sx p (L p).length) E1 s1.st Sc E2 (fin p x).st) :
   LoopOk Tryz.prog (withLoops (mk Sc) ls) n b (onTrimB nx ts0 f) := by
 intro st o ho w0 M Q st' ex' a w E sat hsel hK
 obtain ⟨h1, hbnd, h2⟩ := onTrimB_some ho
 obtain ⟨p, x, hI, h0, hr, hre⟩ := hg _ o _ h2 hsel
 have hr' := hr
 simp only [Prod.mk.injEq] at hr
 obtain ⟨rfl, rfl⟩ := hr
 obtain ⟨E1, hu1, hc1, sat1⟩ := SatB.start (e := e) (R := (vw p 0 x).R) sat hbnd h0
 rw [h1] at hu1 hc1
 have hS : (withLoops (mk Sc) ls).S = Sc := hm.S Sc
 have hw : (withLoops (mk Sc) ls).win = [] := hm.win Sc
 obtain ⟨vb1, vb2⟩ := hvb p 0 x
 have hh : ReD2 Sc E1 st (Sx p 0) E1 (vw p 0 x).st := (hre E1 hc1).of_trim
 have sat2 : SatB (mk (Sx p 0)) n w0 M e E1 (vw p 0 x) a w := sat1.re2 (by rw [hS, hm.S]; exact ⟨hh.slots, hh.heap⟩) (by rw [hS, hm.S, hro]) (hm.win _) rfl (by rw [vb1, h1]; exact ⟨rfl, rfl⟩) (by rw [vb1, vb2]; exact Nat.lt_succ_self _)
 refine wp_loop_rounds ((L p).length + 1) ?_
 refine rounds_bld (P := Tryz.prog) (c := withLoops (mk Sc) ls) (ts := ts) (nx := nx) (fuel := fuel) (fun i => mk (Sx p i)) (L p) (vw p) (inv p) (stp p) ex' (fin p) (fun i => hm.full _) (fun i => hm.win _) (fun i => LoopsOk.none (hm.loop _) _) (fun i => by rw [hm.S, hS, hro]) hw (hvb p) (hfb p)
   (fun i a x ha hi => by rw [hm.S, hm.S]; exact hstep p i a x ha hi) (fun x hi => by rw [hm.S, hS]; exact hend p x hi) ((L p).length + 1) 0 x (Nat.zero_le _) (by omega) hI sat2 ?_
 intro E' a' w' hu sat'
 rw [List.drop_zero] at sat'
 obtain ⟨fb1, fb2⟩ := hfb p (goL (stp p) (L p) 0 x)
 have hlt := hfh p (goL (stp p) (L p) 0 x)
 have := sat'.adopt fun k y hk => by
   have := heap_all hlt hk
   have hk : k < nx := by simpa using this
   omega
 exact hK E' a' w' (by rw [h1]; exact hu1.trans hu (Nat.le_refl _)) (by rw [h1]; show nx ≤ (fin p _).st.next; rw [fb2]; exact Nat.le_succ _) this
open Go Go.RowKit
def keepC (H : Heap) : List Nat → Heap
 | [] => []
 | k :: r => match H.get k with | some x => (k, x) :: keepC H r | none => keepC H r
theorem keepC_get {H : Heap} : ∀ {ks : List Nat} {k : Nat} {x : SV}, (keepC H ks).get k = some x → H.get k = some x
 | [], k, x, h => by simp [keepC, Heap.get] at h
 | u :: r, k, x, h => by
   unfold keepC at h
   split at h
   · rename_i y hy
     rw [Heap.get_cons] at h
     split at h
     · rename_i he; subst he; injection h with h; subst h; exact hy
     · exact keepC_get h
   · exact keepC_get h
def trimC (ts ks : List Nat) (o : Out (Ex × St)) : Out (Ex × St) := o.bind fun r => .ret (r.1, ⟨keepT r.2.slots ts, keepC r.2.heap ks, 0⟩)
theorem trimC_sel {ts ks : List Nat} {o : Out (Ex × St)} {ex : Ex} {st1 : St} (h : (trimC ts ks o).sel = some (ex, st1)) : ∃ st0, o.sel = some (ex, st0) ∧ st1 = ⟨keepT st0.slots ts, keepC st0.heap ks, 0⟩ := by
 unfold trimC at h
 rw [Out.sel_bind] at h
 cases h0 : o.sel with
 | none => rw [h0] at h; cases h
 | some r =>
   rw [h0] at h
   simp only [Option.bind_some, Out.sel, Option.some.injEq, Prod.mk.injEq] at h
   obtain ⟨rfl, rfl⟩ := h
   exact ⟨r.2, rfl, rfl⟩
def ReHeapN (h : Heap) (S : Stat) (E : Env) (S' : Stat) (E' : Env) (ρ : Nat → Nat) : Heap → Prop
 | [] => True
 | (k, x') :: r => (x'.foOk S' ∧ (x'.size = 0 ∨ ∃ x, h.get (ρ k) = some x ∧ x.cells S E = x'.cells S' E' ∧ E'.ad k = E.ad (ρ k) ∧ S'.ro k = S.ro (ρ k))) ∧ ReHeapN h S E S' E' ρ r
theorem ReHeapN.get {h : Heap} {S S' : Stat} {E E' : Env} {ρ : Nat → Nat} : ∀ {l : Heap}, ReHeapN h S E S' E' ρ l → ∀ k x', l.get k = some x' → x'.foOk S' ∧ (x'.size = 0 ∨ ∃ x, h.get (ρ k) = some x ∧ x.cells S E = x'.cells S' E' ∧ E'.ad k = E.ad (ρ k) ∧ S'.ro k = S.ro (ρ k))
 | [], _, k, x', h => by simp [Heap.get] at h
 | (j, y) :: r, hr, k, x', h => by
   rw [Heap.get_cons] at h
   split at h
   · rename_i he; subst he; injection h with h; subst h; exact hr.1
   · exact ReHeapN.get hr.2 k x' h
theorem ReHeapN.of_trim {h : Heap} {ks : List Nat} {S S' : Stat} {E E' : Env} {ρ : Nat → Nat} : ∀ {l : Heap}, ReHeapN (keepC h ks) S E S' E' ρ l → ReHeapN h S E S' E' ρ l
 | [], _ => trivial
 | (k, x') :: r, hr => ⟨⟨hr.1.1, hr.1.2.imp id fun ⟨x, h1, h2⟩ => ⟨x, keepC_get h1, h2⟩⟩, ReHeapN.of_trim hr.2⟩
def injOn (ρ : Nat → Nat) (H : Heap) : Bool := H.all fun e => H.all fun f => !(Nat.beq (ρ e.1) (ρ f.1)) || Nat.beq e.1 f.1
theorem injOn_ok {ρ : Nat → Nat} {H : Heap} (h : injOn ρ H = true) {k k' : Nat} {x x' : SV} (hk : H.get k = some x) (hk' : H.get k' = some x') (he : ρ k = ρ k') : k = k' := by
 have h1 := heap_all h hk
 dsimp only at h1
 have h2 := heap_all h1 hk'
 dsimp only at h2
 rw [he] at h2
 have : Nat.beq (ρ k') (ρ k') = true := Nat.beq_refl _
 rw [this] at h2
 simpa using h2
structure ReN (S : Stat) (E : Env) (st : St) (S' : Stat) (E' : Env) (ρ : Nat → Nat) (st' : St) : Prop where
 slots : ReSlots2 st.slots S E S' E' st'.slots
 heap : ReHeapN st.heap S E S' E' ρ st'.heap
 inj : injOn ρ st'.heap = true
section
variable {P : Program} {c : Ctx} {n : Nat} {w0 w : World} {M : Nat → Nat → Prop} {E : Env} {a : Act}
theorem Sat.reN {c' : Ctx} {E' : Env} {st st' : St} {ρ : Nat → Nat} (h : Sat c n w0 M E st a w) (r : ReN c.S E st c'.S E' ρ st') (hwin : c'.win = []) : Sat c' n w0 M E' st' a w := by
 have src : ∀ k x', st'.heap.get k = some x' → 0 < x'.size → ∃ x, st.heap.get (ρ k) = some x ∧ x.cells c.S E = x'.cells c'.S E' ∧ E'.ad k = E.ad (ρ k) ∧ c'.S.ro k = c.S.ro (ρ k) := by
   intro k x' hk hp
   rcases (r.heap.get k x' hk).2 with h0 | h1
   · omega
   · exact h1
 refine ⟨?_, ⟨?_, ?_, ?_, fun k x' hk => (r.heap.get k x' hk).1⟩, ?_, h.fr, by rw [hwin]; intro n j k z hm; (cases hm), by rw [hwin]; intro n j k z hm; (cases hm), h.size, h.defers⟩
 · intro t p x' hx
   obtain ⟨x, hx1, hd⟩ := r.slots.get t p x' hx
   rw [← hd]; exact h.slots t p x hx1
 · intro k x' hk hp
   obtain ⟨x, hx, hc, he, _⟩ := src k x' hk hp
   rw [← hc, he]; exact h.hs.at_ (ρ k) x hx (by rw [size_of_cells2 hc]; exact hp)
 · intro k x' hk hp hnt hr
   obtain ⟨x, hx, hc, he, hro⟩ := src k x' hk hp
   rw [he]
   exact h.hs.wr (ρ k) x hx (by rw [size_of_cells2 hc]; exact hp) (by rw [hc]; exact hnt) (by rw [← hro]; exact hr)
 · intro k k' x1 x2 hne h1 h2 p1 p2 hr
   obtain ⟨y1, hy1, hc1, he1, hro1⟩ := src k x1 h1 p1
   obtain ⟨y2, hy2, hc2, he2, _⟩ := src k' x2 h2 p2
   have e1 := size_of_cells2 hc1
   have e2 := size_of_cells2 hc2
   rw [← e1, ← e2, he1, he2]
   exact h.hs.dis (ρ k) (ρ k') y1 y2 (fun he => hne (injOn_ok r.inj h1 h2 he)) hy1 hy2 (by omega) (by omega) (by rw [← hro1]; exact hr)
 · intro k x' hk hr
   rcases Nat.eq_zero_or_pos x'.size with h0 | hp
   · exact .inr fun j hj => by omega
   · obtain ⟨x, hx, hc, he, hro⟩ := src k x' hk hp
     rw [← size_of_cells2 hc, he]
     exact h.own (ρ k) x hx (by rw [← hro]; exact hr)
end
end Go.Proofs.YtjemfkoamfnofaaGreat
