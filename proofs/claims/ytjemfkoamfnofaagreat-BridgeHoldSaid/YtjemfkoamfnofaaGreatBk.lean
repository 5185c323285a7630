import Derived.Test.YtjemfkoamfnofaaGreatBu
import Derived.Test.YtjemfkoamfnofaaGreatBld
import Derived.Shelf.Slices.Clone
set_option linter.unusedVariables false
set_option maxRecDepth 100000
namespace Go.Proofs.YtjemfkoamfnofaaGreat
open Go Go.Proofs Go.RowKit Go.Shelf Go.Lib
def cloneLay_ren : Go.Shelf.Ren := ⟨fun | 15 => 70 | n => n, fun | 22 => 33 | n => n, fun n => n⟩
theorem cloneLay : Lays2.n15 Tryz.prog cloneLay_ren where
 mixed := by kernel_rfl
 f15 := Tryz.func70.trans (congrArg some (by kernel_rfl))
 t3 := Tryz.underlying3
 a3 := Tryz.isAgg3
 z3 := Tryz.sizeOf3
 v3 := Tryz.zeroValue3
 t4 := Tryz.underlying4
 a4 := Tryz.isAgg4
 z4 := Tryz.sizeOf4
 v4 := Tryz.zeroValue4
 t22 := Tryz.underlying33
 a22 := Tryz.isAgg33
 z22 := Tryz.sizeOf33
 v22 := Tryz.zeroValue33
 i3 := by kernel_rfl
theorem addPlain (b o n : Nat) : (⟨b, o, none⟩ : Addr).add n = ⟨b, o + n, none⟩ := by
 unfold Addr.add
 split
 · subst_vars; rfl
 · rfl
def intsC (xs : List Int) : List Value := xs.map (Value.int .i64)
theorem intsC_rows (xs : List Int) : (Rows.int .i64 xs).cells = intsC xs := by
 show xs.flatMap (fun x => [Value.int .i64 x]) = xs.map _
 induction xs with
 | nil => rfl
 | cons x xs ih => simp [List.flatMap_cons, ih]
theorem clone_calls (S : Stat) (E : Env) (w : World) (k : Nat) (xs : List Int) (hb : xs.length ≤ 134217728) (hat : 0 < xs.length → At w (E.ad k) (intsC xs)) :
   Calls Tryz.prog 70 #[(SV.slr k xs.length k false).den S E] w fun e w' => ∃ v', e = .returned v' ∧ w'.ownsRow w.heap.size 3 1 v' xs.length (intsC xs) ∧ Below w.heap.size w w' := by
 rcases Nat.eq_zero_or_pos xs.length with h0 | hp
 · have hx : xs = [] := List.eq_nil_of_length_eq_zero h0
   subst hx
   simp only [SV.den, List.length_nil]
   cases hn : (E.cp k).2 with
   | true =>
     refine (Any.slices_Clone_int_nil cloneLay 0 (Nat.max 0 (E.cp k).1) w).mono ?_
     rintro e w' ⟨rfl, rfl⟩
     exact ⟨_, rfl, World.ownsRow_nil _ _ _ _, Below.refl _ _⟩
   | false =>
     refine (Any.slices_Clone_int_zero cloneLay (E.place k 0) (Nat.max 0 (E.cp k).1) w).mono ?_
     rintro e w' ⟨v', rfl, hown, _, hbl⟩
     exact ⟨v', rfl, hown, hbl⟩
 · have hat1 := hat hp
   have hs := hat1.1
   have hpl : E.place k 0 = ⟨(E.ad k).block, (E.ad k).off, none⟩ := rfl
   have hea : E.ad k = ⟨(E.ad k).block, (E.ad k).off, none⟩ := by
     cases hq : E.ad k
     rw [hq] at hs
     simp at hs
     simp [hs]
   have hne : Nat.beq xs.length 0 = false := by
     cases hb : Nat.beq xs.length 0 with
     | false => rfl
     | true => have := Nat.eq_of_beq_eq_true hb; omega
   simp only [SV.den, hne, Bool.and_false, cond_false, hpl]
   refine (Any.slices_Clone_int cloneLay (E.ad k).block (E.ad k).off xs.length (Nat.max xs.length (E.cp k).1) xs w (Nat.le_refl _) (by omega) (fun j hj => ?_)).mono ?_
   · have := hat1.cell (j := j) (v := .int .i64 (xs.getD j 0)) (by unfold intsC; rw [List.getElem?_map, List.getElem?_eq_getElem hj]; simp [List.getD, List.getElem?_eq_getElem hj]) rfl
     rw [hea] at this
     rw [show ∀ (b o n : Nat), (⟨b, o, none⟩ : Addr).add n = ⟨b, o + n, none⟩ from addPlain] at this
     exact this
   · rintro e w' ⟨v', rfl, hown, _, hbl⟩
     rw [List.take_length] at hown
     exact ⟨v', rfl, hown, hbl⟩
def fillB (c : Ctx) (n : Nat) (o : Oper) (st : St) : Option (Bool × BSt) := match o.guard, o.dst, plan c st.slots [] o with
 | none, some d, some (.call f [.slr k l u false]) => bif Nat.beq f 70 && (Nat.beq k u && st.bnd) then (match st.heap.get k with
   | some (.rows (.int .i64 xs)) => (match putSlot st.slots n (some d) [] (some (tok st.next xs.length)) with
     | some sl => some (decide (l = xs.length ∧ xs.length ≤ 134217727), ⟨⟨sl, st.heap, st.next + 1⟩, st.next, .int .i64 xs⟩)
     | none => none)
   | _ => none) else none
 | _, _, _ => none
section
variable {c : Ctx} {n : Nat} {w0 w : World} {M : Nat → Nat → Prop} {E : Env} {a : Act}
theorem fill_ok (hc : CtxFull Tryz.prog c) {Q : Exit → Act → World → Prop} {o : Oper} {t : Bool} {st : St} {s' : BSt} (h : fillB c n o st = some (t, s')) (ht : t = true) (sat : Sat c n w0 M E st a w) {ops : Array Oper} {rest : List Oper}
   (K : ∀ E' a' w', Env.upto st.next E E' → st.next ≤ s'.st.next → SatB c n w0 M 3 E' s' a' w' → wpList Tryz.prog ops Q rest a' w') : wpList Tryz.prog ops Q (o :: rest) a w := by
 unfold fillB at h
 split at h <;> (try cases h)
 rename_i d f k l u hgd hdst hpl
 cases hb : (Nat.beq f 70 && (Nat.beq k u && st.bnd)) with
 | false => rw [hb] at h; cases h
 | true =>
   rw [hb] at h
   simp only [cond_true] at h
   simp only [Bool.and_eq_true, Nat.beq_eq] at hb
   obtain ⟨rfl, rfl, hbnd⟩ := hb
   split at h <;> (try cases h)
   rename_i xs hget
   split at h <;> (try cases h)
   rename_i sl hsl
   obtain ⟨rfl, hlen⟩ := of_decide_eq_true ht
   have hnil : PathHolds a [] := fun _ _ hm => by cases hm
   have hdoes := plan_ok hc sat.win sat.slots hnil hpl
   have hfn : FnIn Tryz.prog 70 := ⟨_, Tryz.func70, by kernel_rfl, by kernel_rfl⟩
   refine wpList_hand hgd ?_
   unfold Oper.wp
   rw [hdoes hfn w, Oper.upon_enter]
   have hat : 0 < xs.length → At w (E.ad k) (intsC xs) := fun hp => by
     have := sat.hs.at_ k _ hget (by simp [SV.size, Rows.len, Rows.z]; omega)
     rw [← intsC_rows]
     exact this
   have := clone_calls c.S E w k xs (by omega) hat
   rw [show SV.dens c.S E [.slr k xs.length k false] = [(SV.slr k xs.length k false).den c.S E] from by simp [SV.dens]]
   refine this.mono ?_
   rintro e w' ⟨v', rfl, hown, hbl⟩
   have hg : w.grownBy w' none := ⟨hbl.os, hbl.tape, hbl.output, hbl.size, fun g hg _ => hbl.block g hg⟩
   have sat1 := sat.grown hg (fun g hg => by cases hg)
   obtain ⟨ad, cp, hv'⟩ : ∃ (ad : Addr) (cp : Nat × Bool), v' = .slice (bif cp.2 && Nat.beq xs.length 0 then none else some ⟨ad.block, ad.off, none⟩) xs.length (Nat.max xs.length cp.1) ∧ (∀ g, v'.ownBlock = some g → ad = ⟨g, 0, none⟩) := by
     rcases hown.2 with ⟨h1, h2⟩ | ⟨g, cap, cur, h1, h2, h3, h4, _⟩
     · refine ⟨default, (0, true), ?_, fun g hg => by rw [h1] at hg; cases hg⟩
       rw [h1, h2]; rfl
     · refine ⟨⟨g, 0, none⟩, (cap, false), ?_, fun g' hg' => ?_⟩
       · rw [h1]
         have : Nat.max xs.length cap = cap := Nat.max_eq_right h4
         simp [this]
       · rw [h1] at hg'; simp only [Value.ownBlock, Option.some.injEq] at hg'; rw [hg']
   obtain ⟨hv', hvb⟩ := hv'
   have hu : Env.upto st.next E { ad := fun k => if k = st.next then ad else E.ad k, cp := fun k => if k = st.next then cp else E.cp k } := by
     intro k hk
     have : k ≠ st.next := by omega
     simp [this]
   have hden : (tok st.next xs.length).den c.S { ad := fun k => if k = st.next then ad else E.ad k, cp := fun k => if k = st.next then cp else E.cp k } = v' := by
     rw [hv']
     simp [tok, SV.den, Env.place]
   have sat2 := sat1.env hbnd hu
   have hso := putSlot_ok hsl sat2.slots sat2.size (v := v') (fun _ => hden.symm) (fun hh => absurd hnil hh)
   have hbase : w'.ownsRow w0.heap.size 3 1 v' xs.length (intsC xs) := by
     refine ⟨hown.1, ?_⟩
     rcases hown.2 with h1 | ⟨g, cap, cur, h1, h2, h3⟩
     · exact .inl h1
     · exact .inr ⟨g, cap, cur, h1, Nat.le_trans sat.fr.size h2, h3⟩
   rw [hdst] at *
   refine K _ _ _ hu (Nat.le_succ _) ⟨sat2.put hso, ⟨?_, Nat.lt_succ_self _, fun g' hg' => ?_, fun g' hg' => ?_⟩⟩
   · show w'.ownsRow _ 3 _ ((tok st.next xs.length).den c.S _) _ _
     rw [hden]
     show w'.ownsRow _ 3 1 v' xs.length (Rows.int .i64 xs).cells
     rw [intsC_rows]
     exact hbase
   · have hg2 : v'.ownBlock = some g' := by rw [← hden]; exact hg'
     refine Hid.env hbnd hu ?_
     have := hown.lt g' hg2
     exact fun k x hk hp he => by
       have := (sat.hs.at_ k x hk hp).lt
       omega
   · have hg2 : v'.ownBlock = some g' := by rw [← hden]; exact hg'
     have := hvb g' hg2
     simp [this]
end
section
variable {P : Program} {c : Ctx} {n : Nat} {w0 w : World} {M : Nat → Nat → Prop} {E : Env} {a : Act} {e : TypeId}
theorem regionB_okT (hc : CtxFull P c) {Q : Exit → Act → World → Prop} (ops tl : List Oper) : ∀ (l acc : List Oper) (s s' : BSt) (a : Act) (w : World) (E : Env), SatB c n w0 M e E s a w → (regionB c n e ops l acc s).sel = some s' →
   (∀ E' a' w', Env.upto s.st.next E E' → s.st.next ≤ s'.st.next → SatB c n w0 M e E' s' a' w' → Quiet s E w s' E' w' → wpList P ops.toArray Q tl a' w') → wpList P ops.toArray Q (acc.reverse ++ (l ++ tl)) a w
 | [], acc, s, s', a, w, E, sat, h, K => engB_ok hc ops tl acc.reverse sat h K
 | o :: rest, acc, s, s', a, w, E, sat, h, K => by
   unfold regionB at h
   cases hi : isApp o with
   | false =>
     rw [hi] at h
     have := regionB_okT hc (Q := Q) ops tl rest (o :: acc) s s' a w E sat h K
     rw [List.reverse_cons, List.append_assoc] at this
     exact this
   | true =>
     rw [hi] at h
     simp only [cond_true] at h
     rw [Out.sel_bind] at h
     cases h1 : (engB c n ops acc.reverse s).sel with
     | none => rw [h1] at h; cases h
     | some s1 =>
       rw [h1] at h
       simp only [Option.bind_some] at h
       refine engB_ok hc ops (o :: (rest ++ tl)) acc.reverse sat h1 ?_
       intro E1 a1 w1 hu1 hle1 sat1 q1
       split at h
       · rename_i t s2 hp
         obtain ⟨ht, h2⟩ := Out.ite_bad h
         refine push_ok hc hp ht sat1 ?_
         intro E2 a2 w2 hu2 hle2 sat2 q2
         exact regionB_okT hc (Q := Q) ops tl rest [] s2 s' a2 w2 E2 sat2 h2 fun E3 a3 w3 hu3 hle3 sat3 q3 => K E3 a3 w3 ((hu1.trans hu2 hle1).trans hu3 (Nat.le_trans hle1 hle2)) (Nat.le_trans (Nat.le_trans hle1 hle2) hle3) sat3 ((q1.trans q2).trans q3)
       · rw [Out.sel_bind] at h
         cases h2 : (engB c n ops [o] s1).sel with
         | none => rw [h2] at h; cases h
         | some s2 =>
           rw [h2] at h
           simp only [Option.bind_some] at h
           refine engB_ok hc ops (rest ++ tl) [o] sat1 h2 ?_
           intro E2 a2 w2 hu2 hle2 sat2 q2
           exact regionB_okT hc (Q := Q) ops tl rest [] s2 s' a2 w2 E2 sat2 h fun E3 a3 w3 hu3 hle3 sat3 q3 => K E3 a3 w3 ((hu1.trans hu2 hle1).trans hu3 (Nat.le_trans hle1 hle2)) (Nat.le_trans (Nat.le_trans hle1 hle2) hle3) sat3 ((q1.trans q2).trans q3)
end
noncomputable def tailB (c : Ctx) (n : Nat) (ops l : List Oper) (st : St) : Option (Out St) := match l with
 | o :: rest => (match fillB c n o st with
   | some (t, s) => some (.ite t ((regionB c n 3 ops rest [] s).bind fun s' => bif (s'.st.heap.get s'.b).isNone then .ret s'.adopt else .bad) .bad)
   | none => none)
 | [] => none
noncomputable def withTail (c : Ctx) : Ctx := { c with tail := tailB c }
theorem withTail_full {c : Ctx} (h : CtxFull Tryz.prog c) : CtxFull Tryz.prog (withTail c) :=
 { small := h.small, mixed := h.mixed, tys := h.tys, eqb := h.eqb, flds := h.flds, read := h.read, spec := h.spec, make := h.make, tail := by
     intro n ops l st r st' hr hs w0 M Q tl a w E sat hK
     have hr : tailB c n ops l st = some r := hr
     have sat : Sat c n w0 M E st a w := ⟨sat.slots, sat.hs, sat.own, sat.fr, sat.win, sat.winb, sat.size, sat.defers⟩
     cases l with
     | nil => cases hr
     | cons o rest =>
       unfold tailB at hr
       dsimp only at hr
       cases hf : fillB c n o st with
       | none => rw [hf] at hr; cases hr
       | some ts =>
         obtain ⟨t, s⟩ := ts
         rw [hf] at hr
         dsimp only at hr
         injection hr with hr
         subst hr
         obtain ⟨ht, h2⟩ := Out.ite_bad hs
         rw [Out.sel_bind] at h2
         cases h3 : (regionB c n 3 ops rest [] s).sel with
         | none => rw [h3] at h2; cases h2
         | some s' =>
           rw [h3] at h2
           simp only [Option.bind_some] at h2
           cases h4 : (s'.st.heap.get s'.b).isNone with
           | false => rw [h4] at h2; cases h2
           | true =>
             rw [h4] at h2
             simp only [cond_true, Out.sel, Option.some.injEq] at h2
             subst h2
             rw [List.cons_append]
             refine fill_ok h hf ht sat fun E1 a1 w1 hu1 hle1 sat1 => ?_
             have := regionB_okT h (Q := Q) ops tl rest [] s s' a1 w1 E1 sat1 h3 fun E2 a2 w2 hu2 hle2 sat2 _ => ?_
             · simpa using this
             · have sat3 := sat2.adopt fun k x hk he => by subst he; rw [hk] at h4; cases h4
               exact hK E2 a2 w2 (hu1.trans hu2 hle1) (Nat.le_trans hle1 hle2) ⟨sat3.slots, sat3.hs, sat3.own, sat3.fr, sat3.win, sat3.winb, sat3.size, sat3.defers⟩
}
theorem tail_fam {mk : Stat → Ctx} (h : Fam mk) : Fam fun S => withTail (mk S) :=
 { S := h.S, win := h.win, loop := h.loop, full := fun S => withTail_full (h.full S) }
end Go.Proofs.YtjemfkoamfnofaaGreat
