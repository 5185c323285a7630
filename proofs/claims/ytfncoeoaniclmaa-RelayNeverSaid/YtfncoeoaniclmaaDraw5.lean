/- A region that draws its order: all of it. -/
import Derived.Test.YtfncoeoaniclmaaDraw4
set_option linter.unusedVariables false
namespace Go.Proofs.Ytfncoeoaniclmaa
open Go Go.RowKit

section
variable {P : Program} {c : Ctx} {n : Nat} {ops pre : List Oper} {st0 stN : St} {items : List Item} {w0 : World} {M : Nat → Nat → Prop} {E0 E : Env} {a : Act} {w : World}

theorem perform_next {st : St} {q : Bool} {d : Deed} {r : Option SV × Heap × Nat} (h : (perform c st q d).sel = some r) (hcalm : calm c st d = true) : st.next ≤ r.2.2 := by
  unfold perform at h
  split at h
  · simp only [Out.sel, Option.some.injEq] at h; subst h; exact Nat.le_refl _
  · obtain ⟨_, rfl⟩ := Out.when_sel h; exact Nat.le_refl _
  · split at h
    · split at h
      · obtain ⟨_, rfl⟩ := Out.when_sel h; exact Nat.le_refl _
      · cases h
    · cases h
  · rename_i k o y
    cases hb : (q || (c.S.ro k || !y.one)) with
    | true => rw [hb] at h; cases h
    | false =>
      rw [hb] at h
      simp only [cond_false] at h
      split at h
      · split at h
        · obtain ⟨_, rfl⟩ := Out.when_sel h; exact Nat.le_refl _
        · cases h
      · cases h
  · rename_i y
    cases q with
    | true => cases h
    | false =>
      simp only [cond_false] at h
      cases hb : (st.bnd && (y.bnd st.next && y.one) && !(c.S.ro st.next)) with
      | false => rw [hb] at h; cases h
      | true => rw [hb] at h; simp only [cond_true, Out.sel, Option.some.injEq] at h; subst h; exact Nat.le_succ _
  · rename_i y len
    cases q with
    | true => cases h
    | false =>
      simp only [cond_false] at h
      cases hb : (st.bnd && (y.bnd st.next && y.one) && !(c.S.ro st.next)) with
      | false => rw [hb] at h; cases h
      | true => rw [hb] at h; simp only [cond_true, Out.sel, Option.some.injEq] at h; subst h; exact Nat.le_succ _
  · simp [calm] at hcalm
  · simp [calm] at hcalm
  · simp [calm] at hcalm
  · simp [calm] at hcalm
  · split at h
    · split at h
      · obtain ⟨_, rfl⟩ := Out.when_sel h; exact Nat.le_refl _
      · cases h
    · cases h
  · split at h
    · rename_i T hT
      cases hb : (T.kk == _) with
      | false => rw [hb] at h; cases h
      | true =>
        rw [hb] at h
        simp only [cond_true] at h
        split at h
        · simp only [Out.sel, Option.some.injEq] at h; subst h; exact Nat.le_refl _
        · cases h
    · cases h
  · simp [calm] at hcalm
  · cases h
  · cases h
  · unfold calm at hcalm
    split at h
    · obtain ⟨_, rfl⟩ := Out.when_sel h; exact Nat.le_refl _
    · rename_i hno
      dsimp only at hcalm
      rw [hno] at hcalm; cases hcalm

theorem trace_next : ∀ (l : List Oper) (st st' : St) (items : List Item), trace c n ops l st = some (items, st') → (∀ it ∈ items, okC it.cnd = true) → st.next ≤ st'.next
  | [], st, st', items, h, _ => by
    simp only [trace, Option.some.injEq, Prod.mk.injEq] at h
    obtain ⟨_, rfl⟩ := h
    exact Nat.le_refl _
  | o :: r, st, st', items, h, hcs => by
    unfold trace at h
    split at h
    · cases h
    · rename_i q hq
      split at h
      · cases h
      · rename_i q2 hq2
        simp only [Option.some.injEq, Prod.mk.injEq] at h
        obtain ⟨rfl, rfl⟩ := h
        refine Nat.le_trans ?_ (trace_next r q.2 q2.2 q2.1 hq2 fun it hit => hcs it (List.mem_cons_of_mem _ hit))
        have hc0 := hcs q.1 List.mem_cons_self
        unfold stepItem at hq
        split at hq
        · cases hq
        · split at hq
          · simp only [Option.some.injEq] at hq; subst hq; exact Nat.le_refl _
          · cases hq
        · split at hq
          · cases hq
          · rename_i d hd
            split at hq
            · rename_i sd cd r hsd
              split at hq
              · simp only [Option.some.injEq] at hq
                subst hq
                rcases stepD_cases hsd with ⟨hcalm, rfl, hr⟩ | ⟨_, f, args, A, rfl, hrd, hA, rfl, rfl, rfl⟩
                · exact perform_next (Out.one_sel hr hc0) hcalm
                · obtain ⟨_, _, _, _, _, hF⟩ := actRes_ok hA hc0
                  exact hF.le
              · cases hq
            · cases hq

def isIn (listed : Array Bool) : Nat → Bool := fun j => listed.getD j false
theorem isIn_set {listed : Array Bool} {i : Nat} (h : i < listed.size) : isIn (listed.setIfInBounds i true) = put1 (isIn listed) i := by
  funext j
  unfold isIn put1
  by_cases hj : j = i
  · subst hj; simp [h]
  · simp only [if_neg hj]
    exact getD_set_ne false (Ne.symm hj)

def unseen (listed : Array Bool) (m : Nat) : Nat := (List.range m).countP fun i => !(isIn listed i)
theorem unseen_set {listed : Array Bool} {i m : Nat} (h : i < listed.size) (hm : i < m) (hi : isIn listed i = false) : unseen (listed.setIfInBounds i true) m < unseen listed m := by
  unfold unseen
  rw [isIn_set h]
  obtain ⟨s, t, hst⟩ := List.append_of_mem (List.mem_range.2 hm)
  rw [hst]
  simp only [List.countP_append, List.countP_cons]
  have h1 : List.countP (fun j => !(put1 (isIn listed) i j)) s ≤ List.countP (fun j => !(isIn listed j)) s := List.countP_mono_left fun j _ hj => by
    unfold put1 at hj; split at hj <;> simp_all
  have h2 : List.countP (fun j => !(put1 (isIn listed) i j)) t ≤ List.countP (fun j => !(isIn listed j)) t := List.countP_mono_left fun j _ hj => by
    unfold put1 at hj; split at hj <;> simp_all
  have h3 : put1 (isIn listed) i i = true := by simp [put1]
  simp only [h3, hi]
  simp
  omega
theorem unseen_zero {listed : Array Bool} {m : Nat} (h : unseen listed m = 0) : ∀ i, i < m → isIn listed i = true := by
  intro i hi
  unfold unseen at h
  rw [List.countP_eq_zero] at h
  have := h i (List.mem_range.2 hi)
  simpa using this

theorem ready_nil (he : edgesBack ops 0 = true) {listed : Array Bool} (hl : listed.size = ops.length) (h : Region.ready .any ops.toArray listed = []) : ∀ i, i < ops.length → isIn listed i = true := by
  intro i
  induction i using Nat.strongRecOn with
  | _ i ih =>
    intro hi
    cases hb : isIn listed i with
    | true => rfl
    | false =>
      exfalso
      have : i ∈ Region.ready .any ops.toArray listed := by
        rw [mem_ready]
        refine ⟨?_, ops[i], by simp [hi], ?_⟩
        · unfold isIn at hb
          have : i < listed.size := by omega
          simpa [Array.getD_eq_getD_getElem?, this] using hb
        · intro e hee hbe
          have hlt := edgesBack_ok ops ops 0 he i ops[i] e (List.getElem?_eq_getElem hi) (by simpa using hee) hbe
          exact ih e.on (by omega) (by omega)
      rw [h] at this
      cases this

theorem all_listed {listed : Array Bool} {a : Act} {w : World} (hl : listed.size = ops.length) (h : ∀ i, i < ops.length → isIn listed i = true) {Q : Exit → Act → World → Prop} (hq : Q .normal a w) (fuel : Nat) : wpAny P .any ops.toArray Q fuel listed a w := by
  have hno : ∀ i, ¬ i ∈ Region.ready .any ops.toArray listed := by
    intro i hi
    rw [mem_ready] at hi
    obtain ⟨h1, o, ho, _⟩ := hi
    have hlt : i < ops.length := by
      have := (Array.getElem?_eq_some_iff.1 ho).1
      simpa using this
    have := h i hlt
    unfold isIn at this
    have hlt' : i < listed.size := by omega
    simp [Array.getD_eq_getD_getElem?, hlt'] at this h1
    rw [this] at h1; cases h1
  cases fuel with
  | zero => exact ⟨List.eq_nil_iff_forall_not_mem.2 hno, hq⟩
  | succ f => exact ⟨fun _ => hq, fun i hi => absurd hi (hno i)⟩

theorem any_ok (s : Setup P c n ops pre st0 items stN) (hwin : WinOk c.S c.win E0) (hwb : ∀ n j k z, (n, j, k, z) ∈ c.win → k < st0.next) {Q : Exit → Act → World → Prop}
    (hend : ∀ E a w (D : Nat → Bool), pre.length = ops.length → (∀ i, i < pre.length → D i = true) → DInv c n w0 M E0 st0 items D E a w → Q .normal a w)
    (hlast : ∀ i E a w (D : Nat → Bool), pre.length ≤ i → i < ops.length → Next ops D i → DInv c n w0 M E0 st0 items D E a w → (∀ j, j < ops.length → j ≠ i → D j = true) ∧ wpOp P ops.toArray Q i (fun a w => Q .normal a w) a w) :
    ∀ (fuel : Nat) (listed : Array Bool) (a : Act) (w : World) (E : Env), listed.size = ops.length → Closed ops (isIn listed) → (∀ i, pre.length ≤ i → isIn listed i = false) → unseen listed ops.length ≤ fuel → DInv c n w0 M E0 st0 items (isIn listed) E a w →
      wpAny P .any ops.toArray Q fuel listed a w := by
  have hple : pre.length ≤ ops.length := by
    obtain ⟨post, hpost⟩ := s.hpre
    rw [hpost]; simp
  have hfull : ∀ {listed : Array Bool} {a : Act} {w : World} {E : Env}, (∀ i, i < ops.length → isIn listed i = true) → (∀ i, pre.length ≤ i → isIn listed i = false) → DInv c n w0 M E0 st0 items (isIn listed) E a w → Q .normal a w := by
    intro listed a w E hall hno inv
    have he : pre.length = ops.length := by
      refine Nat.le_antisymm hple (Nat.le_of_not_lt fun hlt => ?_)
      have h1 := hall _ hlt
      rw [hno _ (Nat.le_refl _)] at h1; cases h1
    exact hend E a w _ he (fun i hi => hall i (by omega)) inv
  intro fuel
  induction fuel with
  | zero =>
    intro listed a w E hl hcl hno hf inv
    have hall := unseen_zero (Nat.le_zero.1 hf)
    exact all_listed hl hall (hfull hall hno inv) 0
  | succ fuel ih =>
    intro listed a w E hl hcl hnol hf inv
    refine ⟨fun h => hfull (ready_nil s.edges hl h) hnol inv, fun i hi => ?_⟩
    rw [mem_ready] at hi
    obtain ⟨h1, o, ho, hpre⟩ := hi
    have hlt : i < ops.length := by
      have := (Array.getElem?_eq_some_iff.1 ho).1
      simpa using this
    have hlt' : i < listed.size := by omega
    have hno : isIn listed i = false := by
      unfold isIn
      simpa [Array.getD_eq_getD_getElem?, hlt'] using h1
    have hn : Next ops (isIn listed) i := by
      refine ⟨hcl, hno, fun o' e ho' he hb => ?_⟩
      have : o = o' := by
        have h2 : ops.toArray[i]? = some o' := by simpa using ho'
        rw [ho] at h2; injection h2
      subst this
      exact hpre e (by simpa using he) hb
    by_cases hip : i < pre.length
    · obtain ⟨it, hit⟩ : ∃ it, items[i]? = some it := ⟨items[i]'(by rw [s.len]; exact hip), List.getElem?_eq_getElem _⟩
      have hstep := step_wp (Q := Q) s hwin hwb hn hit inv
      refine wpOp_mono ?_ hstep
      rintro a' w' ⟨E', inv'⟩
      rw [← isIn_set hlt'] at inv'
      have hcl' : Closed ops (isIn (listed.setIfInBounds i true)) := by rw [isIn_set hlt']; exact hn.put1
      refine ih (listed.setIfInBounds i true) a' w' E' (by simp [hl]) hcl' (fun j hj => ?_) (by have := unseen_set hlt' hlt hno; omega) inv'
      rw [isIn_set hlt']
      unfold put1
      rw [if_neg (by omega)]
      exact hnol j hj
    · obtain ⟨hD, hstep⟩ := hlast i E a w _ (by omega) hlt hn inv
      refine wpOp_mono ?_ hstep
      intro a' w' hq
      refine all_listed (by simp [hl]) (fun j hj => ?_) hq fuel
      rw [isIn_set hlt']
      unfold put1
      split
      · rfl
      · rename_i hne; exact hD j hj hne

theorem DInv.done (s : Setup P c n ops pre st0 items stN) (hwin : WinOk c.S c.win E0) (hwb : ∀ n j k z, (n, j, k, z) ∈ c.win → k < st0.next) {D : Nat → Bool} (hD : ∀ i, i < pre.length → D i = true) (inv : DInv c n w0 M E0 st0 items D E a w) :
    Sat c n w0 M E stN a w := by
  have htf := (trace_TF (S := c.S) (st0 := st0) rfl pre [] st0 stN items (TF.start _ _ s.fo) s.ht s.cnd).1
  simp only [List.nil_append] at htf
  have hle := trace_next pre st0 stN items s.ht s.cnd
  have hall : ∀ {β : Type} (w : Item → Option β) (b : Option β), lastW w (fun _ => true) items 0 b = lastW w D items 0 b := fun w b => lastW_congr _ _ _ _ items 0 b fun j it hj => by
    have : j < pre.length := by rw [← s.len]; exact (List.getElem?_eq_some_iff.1 hj).1
    exact ⟨by rw [Nat.zero_add, hD j this], fun _ => rfl⟩
  have hsz : ∀ k x, stN.heap.get k = some x → lastW (wSize k) D items 0 ((st0.heap.get k).map SV.size) = some x.size := by
    intro k x hk
    rw [← hall, ← htf.size k, hk]; rfl
  refine ⟨?_, ⟨?_, ?_, ?_, htf.fo⟩, ?_, inv.fr, hwin.upto inv.up hwb, fun m j k z hm => Nat.lt_of_lt_of_le (hwb m j k z hm) hle, inv.size, inv.defers⟩
  · intro t p x hx
    rw [htf.slots t, hall] at hx
    exact inv.slots t p x hx
  · intro k x hk hxp
    obtain ⟨vs, a1, a2, a3, a4⟩ := inv.mem k x.size (hsz k x hk) hxp
    have : vs = x.cells c.S E := by
      apply List.ext_getElem?
      intro j
      by_cases hj : j < x.size
      · rw [a2 j hj, ← hall, ← htf.cells E k x j hk hj]
      · rw [List.getElem?_eq_none (by omega), List.getElem?_eq_none (by rw [SV.len]; omega)]
    rw [← this]; exact a3
  · intro k x hk hxp hnt hr
    obtain ⟨vs, a1, a2, a3, a4⟩ := inv.mem k x.size (hsz k x hk) hxp
    refine a4 (fun x0 hx0 => Classical.byContradiction fun hh => ?_) hr
    obtain ⟨y', hy', hy2⟩ := htf.tup E0 k x0 hx0 hh
    rw [hk] at hy'; injection hy' with hy'; subst hy'
    exact hy2 E hnt
  · intro k k' x x' hne hk hk' hp hp' hr
    exact inv.dis k k' x.size x'.size hne (hsz k x hk) (hsz k' x' hk') hp hp' hr
  · intro k x hk hr
    exact inv.own k x.size (hsz k x hk) hr

theorem DInv.start (sat : Sat c n w0 M E st0 a w) : DInv c n w0 M E st0 items (fun _ => false) E a w := by
  have hno : ∀ {β : Type} (w : Item → Option β) (b : Option β), lastW w (fun _ => false) items 0 b = b := fun w b => lastW_none _ _ items 0 b fun j it hj hd => by cases hd
  refine ⟨Env.upto.refl _ _, ?_, ?_, ?_, ?_, sat.fr, sat.size, sat.defers⟩
  · intro t p x hx
    rw [hno] at hx
    exact sat.slots t p x hx
  · intro k L h hLp
    rw [hno] at h
    cases hk : st0.heap.get k with
    | none => rw [hk] at h; cases h
    | some x =>
      rw [hk] at h
      simp only [Option.map_some, Option.some.injEq] at h
      subst h
      exact ⟨x.cells c.S E, SV.len c.S E x, fun j hj => by rw [hno]; rfl, sat.hs.at_ k x hk hLp, fun hnt hr => sat.hs.wr k x hk hLp (hnt x rfl) hr⟩
  · intro k k' L L' hne h h' hp hp' hr
    rw [hno] at h h'
    cases hk : st0.heap.get k with
    | none => rw [hk] at h; cases h
    | some x =>
      cases hk' : st0.heap.get k' with
      | none => rw [hk'] at h'; cases h'
      | some x' =>
        rw [hk] at h; rw [hk'] at h'
        simp only [Option.map_some, Option.some.injEq] at h h'
        subst h h'
        exact sat.hs.dis k k' x x' hne hk hk' hp hp' hr
  · intro k L h hr
    rw [hno] at h
    cases hk : st0.heap.get k with
    | none => rw [hk] at h; cases h
    | some x =>
      rw [hk] at h
      simp only [Option.map_some, Option.some.injEq] at h
      subst h
      exact sat.own k x hk hr

theorem Sat.drew (sat : Sat c n w0 M E st0 a w) : Sat c n w0 M E st0 a { w with drawn := w.drawn + 1 } := by
  have hfr : Fr w { w with drawn := w.drawn + 1 } (fun _ _ => False) := Fr.drew w _
  exact ⟨sat.slots, ⟨fun k x hk hp => (sat.hs.at_ k x hk hp).fr hfr (fun _ _ h => h), fun k x hk hp hnt hr => (sat.hs.wr k x hk hp hnt hr).fr hfr, sat.hs.dis, sat.hs.fo⟩, sat.own, sat.fr.trans hfr (fun _ _ _ h => h.elim), sat.win, sat.winb, sat.size, sat.defers⟩

theorem lowBits_ok {m : Nat} : ∀ {k : Nat}, lowBits m k = true → ∀ j, j < k → m.testBit j = true
  | 0, _, j, h => by omega
  | k + 1, h, j, hj => by
    simp only [lowBits, Bool.and_eq_true] at h
    by_cases he : j = k
    · subst he; exact h.1
    · exact lowBits_ok h.2 j (by omega)

theorem isIn_start (m : Nat) : isIn (Array.replicate m false) = fun _ => false := by
  funext j
  unfold isIn
  simp [Array.getD_eq_getD_getElem?, Array.getElem?_replicate]
  split <;> rfl

theorem last_ok (hc : CtxFull P c) {id : Nat} {st st' : St} (sat : Sat c n w0 M E st a w) {Q : Exit → Act → World → Prop} (h : (drawLast c n ops st).sel = some st')
    (hK : ∀ E' a' w', Env.upto st.next E E' → st.next ≤ st'.next → Sat c n w0 M E' { st' with slots := dropGuarded st'.slots } a' w' → Q .normal a' w') : (Code.region id ops.toArray true).wp P Q a w := by
  unfold drawLast at h
  split at h
  · cases h
  · rename_i o ho
    split at h
    · cases h
    · rename_i items stN ht
      cases hb : (edgesBack ops 0 && (guardedSlots st.slots).isEmpty && allPairs ops st.next items (masks ops []) 0 && st.bnd && (o.guard.isNone && lastBits (masks ops []) ops.dropLast.length)) with
      | false => rw [hb] at h; cases h
      | true =>
        rw [hb] at h
        simp only [cond_true] at h
        split at h
        · cases h
        · rename_i d hd
          rw [Out.sel_bind] at h
          cases hw : (Out.when (cnds items) ()).sel with
          | none => rw [hw] at h; cases h
          | some u =>
            rw [hw] at h
            simp only [Option.bind_some, Out.sel_bind] at h
            obtain ⟨hcn, _⟩ := Out.when_sel hw
            cases hpf : (perform c stN false d).sel with
            | none => rw [hpf] at h; cases h
            | some r =>
              rw [hpf] at h
              simp only [Option.bind_some] at h
              split at h
              · rename_i s' hput
                simp only [Out.sel, Option.some.injEq] at h
                subst h
                simp only [Bool.and_eq_true, List.isEmpty_iff, Option.isNone_iff_eq_none] at hb
                obtain ⟨⟨⟨⟨b1, b2⟩, b3⟩, b4⟩, b5, b6⟩ := hb
                have hcs := cnds_ok hcn
                have hops : ops = ops.dropLast ++ [o] := by
                  have hne : ops ≠ [] := by intro he; rw [he] at ho; cases ho
                  have h1 := List.dropLast_concat_getLast hne
                  rw [List.getLast?_eq_some_getLast hne] at ho
                  injection ho with ho
                  rw [← ho]; exact h1.symm
                have hlen : ops.length = ops.dropLast.length + 1 := by
                  conv => lhs; rw [hops]
                  simp
                have s : Setup P c n ops ops.dropLast st items stN := ⟨hc, ⟨[o], hops⟩, ht, b1, b2, b3, b4, hcs, sat.hs.fo⟩
                have hoi : ops[ops.dropLast.length]? = some o := by
                  conv => lhs; rw [hops]
                  rw [List.getElem?_append_right (by simp)]
                  simp
                refine wp_region_any hc.mixed ?_
                have hle1 := trace_next ops.dropLast st stN items ht hcs
                refine any_ok s sat.win sat.winb ?_ ?_ ops.toArray.size (Array.replicate ops.toArray.size false) a _ E (by simp) ?_ ?_ ?_ ?_ (w0 := w0) (M := M)
                · intro E' a' w' D he
                  omega
                · intro i E' a' w' D hi1 hi2 hn inv
                  have hie : i = ops.dropLast.length := by omega
                  subst hie
                  have hD : ∀ j, j < ops.length → j ≠ ops.dropLast.length → D j = true := by
                    intro j hj hne
                    unfold lastBits at b6
                    cases hm : (masks ops []).getLast? with
                    | none => rw [hm] at b6; cases b6
                    | some m =>
                      rw [hm] at b6
                      obtain ⟨hg1, hg2⟩ := masks_good ops ops [] ⟨[], by simp, rfl⟩ (fun j m h => by simp at h)
                      have hml : (masks ops []).length = ops.length := by simpa using hg2
                      have hmi : (masks ops [])[ops.dropLast.length]? = some m := by
                        rw [List.getLast?_eq_getElem?] at hm
                        rw [hml] at hm
                        rw [show ops.length - 1 = ops.dropLast.length from by omega] at hm
                        exact hm
                      have := hg1 _ m hmi (put1 D ops.dropLast.length) hn.put1 (by simp [put1]) j (lowBits_ok b6 j (by omega))
                      unfold put1 at this
                      rw [if_neg hne] at this
                      exact this
                  refine ⟨hD, ?_⟩
                  have sat' := inv.done s sat.win sat.winb (fun j hj => hD j (by omega) (by omega))
                  have hnil : PathHolds a' [] := fun _ _ hm => by cases hm
                  unfold wpOp
                  have hoi' : ops.toArray[ops.dropLast.length]? = some o := by simpa using hoi
                  rw [hoi']
                  simp only
                  rw [if_pos (by simp [Region.wanted, b5])]
                  refine .inl ?_
                  refine perform_ok hc sat' (plan_ok hc sat'.win sat'.slots hnil hd) hpf (Q := Q) ?_
                  intro E2 w2 ⟨hu, hle, sat2⟩
                  have hso := putSlot_ok hput sat2.slots sat2.size (v := vOf c.S E2 r.1) (fun _ => rfl) (fun hh => absurd hnil hh)
                  exact hK E2 _ w2 (inv.up.trans hu hle1) (Nat.le_trans hle1 hle) (sat2.put hso).drop
                · rw [isIn_start]
                  intro i o e _ hd
                  cases hd
                · rw [isIn_start]
                  intro i _
                  rfl
                · unfold unseen
                  exact Nat.le_trans List.countP_le_length (by simp)
                · rw [isIn_start]
                  exact DInv.start sat.drew
              · cases h

theorem draw_ok (hc : CtxFull P c) : DrawOk P c n := by
  intro id ops w0 M Q st st' a w E sat h hK
  unfold drawRegion at h
  split at h
  · exact last_ok hc sat h hK
  · rename_i items stN ht
    cases hb : (edgesBack ops 0 && (guardedSlots st.slots).isEmpty && allPairs ops st.next items (masks ops []) 0 && st.bnd) with
    | false => rw [hb] at h; cases h
    | true =>
      rw [hb] at h
      simp only [cond_true] at h
      obtain ⟨hcn, rfl⟩ := Out.when_sel h
      simp only [Bool.and_eq_true, List.isEmpty_iff] at hb
      have hcs := cnds_ok hcn
      have s : Setup P c n ops ops st items stN := ⟨hc, ⟨[], by simp⟩, ht, hb.1.1.1, hb.1.1.2, hb.1.2, hb.2, hcs, sat.hs.fo⟩
      refine wp_region_any hc.mixed ?_
      refine any_ok s sat.win sat.winb ?_ ?_ ops.toArray.size (Array.replicate ops.toArray.size false) a _ E (by simp) ?_ ?_ ?_ ?_ (w0 := w0) (M := M)
      · intro E' a' w' D _ hD inv
        exact hK E' a' w' inv.up (trace_next ops st stN items ht hcs) (inv.done s sat.win sat.winb hD).drop
      · intro i E' a' w' D h1 h2
        omega
      · rw [isIn_start]
        intro i o e _ hd
        cases hd
      · rw [isIn_start]
        intro i _
        rfl
      · unfold unseen
        exact Nat.le_trans List.countP_le_length (by simp)
      · rw [isIn_start]
        exact DInv.start sat.drew
end
end Go.Proofs.Ytfncoeoaniclmaa
