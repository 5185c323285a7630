/- (*Fdb).All: its loop over the map. -/
import Derived.Test.YtfncoeoaniclmaaFdb0
set_option linter.unusedVariables false
set_option maxRecDepth 100000
namespace Go.Proofs.Ytfncoeoaniclmaa
open Go Go.RowKit

abbrev PL := List (Int × Nat × Place)
def toE (x : Int × Nat × Place) : Entry := ⟨x.1, x.2.2.port, x.2.2.sec⟩
def fdbH (a b : Int) (ck : Nat) (l : PL) : Heap := [(0, .agg [.v (.int .i64 a), .v (.int .i64 b), .mp 1]), (1, .tab (.place .u64 ck l))]

section
variable {es : Array MapEntry} {l : PL} {seen : Array Nat}
theorem ent_of (h : es.toList.map tupM = l.map (entK .u64 Place.cells)) {e : MapEntry} (he : e ∈ es.toList) : ∃ x ∈ l, e.key = .int .u64 x.1 ∧ e.val = .agg x.2.2.cells.toArray ∧ e.born = x.2.1 := by
  have : tupM e ∈ l.map (entK .u64 Place.cells) := by rw [← h]; exact List.mem_map_of_mem he
  obtain ⟨x, hx, hxe⟩ := List.mem_map.1 this
  simp only [entK, tupM, Value.tuple.injEq, Array.mk.injEq, List.cons.injEq, and_true] at hxe
  obtain ⟨h1, h2, h3⟩ := hxe
  refine ⟨x, hx, h1.symm, h2.symm, ?_⟩
  injection h3 with _ h3
  exact (Int.ofNat.inj h3).symm
theorem ent_to (h : es.toList.map tupM = l.map (entK .u64 Place.cells)) {x : Int × Nat × Place} (hx : x ∈ l) : ∃ e ∈ es.toList, e.key = .int .u64 x.1 ∧ e.val = .agg x.2.2.cells.toArray ∧ e.born = x.2.1 := by
  have : entK .u64 Place.cells x ∈ es.toList.map tupM := by rw [h]; exact List.mem_map_of_mem hx
  obtain ⟨e, he, hxe⟩ := List.mem_map.1 this
  simp only [entK, tupM, Value.tuple.injEq, Array.mk.injEq, List.cons.injEq, and_true] at hxe
  obtain ⟨h1, h2, h3⟩ := hxe
  refine ⟨e, he, h1, h2, ?_⟩
  injection h3 with _ h3
  exact Int.ofNat.inj h3
theorem left_all (h : es.toList.map tupM = l.map (entK .u64 Place.cells)) (h0 : (leftOf es seen).size = 0) : ∀ x ∈ l, seen.contains x.2.1 = true := by
  intro x hx
  obtain ⟨e, he, _, _, hb⟩ := ent_to h hx
  rw [← hb]
  exact all_seen es seen h0 e he
theorem left_one (h : es.toList.map tupM = l.map (entK .u64 Place.cells)) {e : MapEntry} (he : e ∈ (leftOf es seen).toList) : ∃ x ∈ l, e.key = .int .u64 x.1 ∧ e.val = .agg x.2.2.cells.toArray ∧ e.born = x.2.1 ∧ seen.contains x.2.1 = false := by
  obtain ⟨h1, h2⟩ := mem_left he
  obtain ⟨x, hx, k1, k2, k3⟩ := ent_of h h1
  exact ⟨x, hx, k1, k2, k3, by rw [← k3]; exact h2⟩
theorem ents_born (h : es.toList.map tupM = l.map (entK .u64 Place.cells)) : es.toList.map (·.born) = l.map (·.2.1) := by
  have key : ∀ (a : List MapEntry) (b : PL), a.map tupM = b.map (entK .u64 Place.cells) → a.map (·.born) = b.map (·.2.1) := by
    intro a
    induction a with
    | nil => intro b h; cases b with | nil => rfl | cons _ _ => simp at h
    | cons e r ih =>
      intro b h
      cases b with
      | nil => simp at h
      | cons x r' =>
        simp only [List.map_cons, List.cons.injEq] at h ⊢
        refine ⟨?_, ih r' h.2⟩
        have hxe := h.1
        simp only [entK, tupM, Value.tuple.injEq, Array.mk.injEq, List.cons.injEq, and_true] at hxe
        obtain ⟨_, _, h3⟩ := hxe
        injection h3 with _ h3
        exact Int.ofNat.inj h3
  exact key _ _ h
theorem ents_key (h : es.toList.map tupM = l.map (entK .u64 Place.cells)) : es.toList.map (·.key) = l.map (fun x => Value.int .u64 x.1) := by
  have key : ∀ (a : List MapEntry) (b : PL), a.map tupM = b.map (entK .u64 Place.cells) → a.map (·.key) = b.map (fun x => Value.int .u64 x.1) := by
    intro a
    induction a with
    | nil => intro b h; cases b with | nil => rfl | cons _ _ => simp at h
    | cons e r ih =>
      intro b h
      cases b with
      | nil => simp at h
      | cons x r' =>
        simp only [List.map_cons, List.cons.injEq] at h ⊢
        refine ⟨?_, ih r' h.2⟩
        have hxe := h.1
        simp only [entK, tupM, Value.tuple.injEq, Array.mk.injEq, List.cons.injEq, and_true] at hxe
        exact hxe.1
  exact key _ _ h
end
/-- what is told of a table's list: all stamps below the clock, no two alike; no two keys alike -/
structure PLok (l : PL) (ck : Nat) : Prop where
  lt : ∀ x ∈ l, x.2.1 < ck
  born : (l.map (·.2.1)).Nodup
  key : (l.map (·.1)).Nodup
theorem PLok.of {es : Array MapEntry} {l : PL} {ck : Nat} (h : es.toList.map tupM = l.map (entK .u64 Place.cells)) (hs : MapKept.Stamped es ck) : PLok l ck := by
  obtain ⟨h1, h2, h3⟩ := hs
  rw [ents_born h] at h2
  rw [ents_key h] at h3
  refine ⟨fun x hx => ?_, h2, ?_⟩
  · obtain ⟨e, he, _, _, hb⟩ := ent_to h hx
    rw [← hb]; exact h1 e he
  · have : l.map (fun x => Value.int .u64 x.1) = (l.map (·.1)).map (Value.int .u64) := by simp
    rw [this] at h3
    unfold List.Nodup at h3 ⊢
    rw [List.pairwise_map] at h3
    exact h3.imp fun h he => h (by rw [he])

section
variable {P : Program} {c : Ctx} {n : Nat} {w0 w : World} {M : Nat → Nat → Prop} {E : Env} {st : St} {a : Act}
theorem Sat.tab (sat : Sat c n w0 M E st a w) {k ck : Nat} {l : PL} (hk : st.heap.get k = some (.tab (.place .u64 ck l))) : ∃ es, w.heap[(E.ad k).block]? = some (.map es ck) ∧ es.toList.map tupM = l.map (entK .u64 Place.cells) ∧ MapKept.Stamped es ck := by
  obtain ⟨_, es, clk, hb, ht, hst⟩ := At.entries (t := (Tab.place .u64 ck l).all.toArray) (sat.hs.at_ k _ hk (by simp [SV.size]))
  obtain ⟨h1, h2⟩ := mapT_split ht
  have h1 : ck = clk := by injection h1 with _ h1; exact Int.ofNat.inj h1
  subst h1
  exact ⟨es, hb, h2.symm, hst⟩
end

def allS (v : Value) (it : Nat) : Slots := [(0, [], .ptr 0 0), (3, [], .v v), (10, [], .v (.pointer (some ⟨it, 0, none⟩)))]
def allV (x y : Int) (ck : Nat) (l : PL) (v : Value) (it : Nat) : St := ⟨allS v it, fdbH x y ck l, 2⟩
theorem all_code : lpOf 17 0 = .seq (.region 3 (regL 17 3).toArray false) (.seq (.cond (.tmp 12) .skip (.exit 0)) (.block 1 (.seq (.region 4 (regL 17 4).toArray false) (.region 5 (regL 17 5).toArray false)))) := by kernel_rfl
theorem all_r3 : regL 17 3 = [opAt 17 3 0] ++ [opAt 17 3 1] := by kernel_rfl
theorem all_r4 : regL 17 4 = opAt 17 4 0 :: (regL 17 4).drop 1 := by kernel_rfl
theorem all_r5 : regL 17 5 = (regL 17 5).take 8 ++ (opAt 17 5 8 :: [opAt 17 5 9]) := by kernel_rfl
theorem all_next : (opAt 17 3 0).op = .next (.tmp 10) false ∧ (opAt 17 3 0).dst = some 11 ∧ (opAt 17 3 0).guard = none := ⟨by kernel_rfl, by kernel_rfl, by kernel_rfl⟩
theorem all_entry : (opAt 17 4 0).op = .entry (.tmp 10) ∧ (opAt 17 4 0).dst = some 13 ∧ (opAt 17 4 0).guard = none := ⟨by kernel_rfl, by kernel_rfl, by kernel_rfl⟩
theorem all_app : (opAt 17 5 8).op = .call { callee := .builtin .append, args := #[.tmp 16, .tmp 23], argTypes := #[25, 25] } ∧ (opAt 17 5 8).dst = some 24 ∧ (opAt 17 5 8).guard = none := ⟨by kernel_rfl, by kernel_rfl, by kernel_rfl⟩
/-- the engine's pieces of a round -/
theorem all_p1 (S : Stat) (x y : Int) (ck it : Nat) (l : PL) (v : Value) (b : Bool) (vs : List SV) :
    region (cA (S.rd 0 2)) 28 (regL 17 3) [opAt 17 3 1] ⟨(11, [], .tup (.kb b :: vs)) :: allS v it, fdbH x y ck l, 2⟩ = .ret ⟨(12, [], .kb b) :: (11, [], .tup (.kb b :: vs)) :: allS v it, fdbH x y ck l, 2⟩ := by kernel_rfl
theorem all_p2 (S : Stat) (x y : Int) (ck it : Nat) (l : PL) (v : Value) (m : Int) (p : Place) :
    region (cA (S.rd 0 2)) 28 (regL 17 4) ((regL 17 4).drop 1) ⟨(13, [], .tup [.v (.int .u64 m), .rcd (.place p)]) :: allS v it, fdbH x y ck l, 2⟩ =
      .ret ⟨[(4, [], .v (.int .u64 m)), (5, [], .ptr 2 0), (15, [], .rcd (.place p)), (14, [], .v (.int .u64 m)), (13, [], .tup [.v (.int .u64 m), .rcd (.place p)])] ++ allS v it, (2, .rcd (.place p)) :: fdbH x y ck l, 3⟩ := by kernel_rfl
theorem all_p3 (S : Stat) (x y : Int) (ck it : Nat) (l : PL) (v : Value) (m : Int) (p : Place) :
    region (cA (S.rd 0 2)) 28 (regL 17 5) ((regL 17 5).take 8) ⟨[(4, [], .v (.int .u64 m)), (5, [], .ptr 2 0)] ++ allS v it, (2, .rcd (.place p)) :: fdbH x y ck l, 3⟩ =
      .ret ⟨[(23, [], .slc 3 0 1 1), (22, [], .rcd (.entry ⟨m, p.port, p.sec⟩)), (21, [], .v (.int .i64 p.sec)), (20, [], .ptr 2 1), (19, [], .v (.int .i64 p.port)), (18, [], .ptr 2 0), (17, [], .v (.int .u64 m)), (16, [], .v v), (4, [], .v (.int .u64 m)), (5, [], .ptr 2 0)] ++ allS v it,
        (3, .rcd (.entry ⟨m, p.port, p.sec⟩)) :: (2, .rcd (.place p)) :: fdbH x y ck l, 4⟩ := by kernel_rfl
theorem all_p4 (S : Stat) (x y : Int) (ck it : Nat) (l : PL) (v v' : Value) : region (cA (S.rd 0 2)) 28 (regL 17 5) [opAt 17 5 9] ⟨(24, [], .v v') :: allS v it, fdbH x y ck l, 2⟩ = .ret ⟨(3, [], .v v') :: (24, [], .v v') :: allS v it, fdbH x y ck l, 2⟩ := by kernel_rfl

open Go Go.RowKit

theorem unseen_lt {l : PL} {seen : Array Nat} {x : Int × Nat × Place} (hx : x ∈ l) (hs : seen.contains x.2.1 = false) :
    (l.filter fun y => !((seen.push x.2.1).contains y.2.1)).length < (l.filter fun y => !(seen.contains y.2.1)).length :=
  filter_lt _ _ (fun y hy => by
    rw [contains_push] at hy
    cases hc : seen.contains y.2.1 with
    | false => rfl
    | true => rw [hc, Bool.true_or] at hy; cases hy) x (by rw [hs]; rfl) (by rw [contains_push, beq_self_eq_true, Bool.or_true]; rfl) l hx

theorem seen_perm {l : PL} {seen : Array Nat} {x : Int × Nat × Place} (hn : (l.map (·.2.1)).Nodup) (hx : x ∈ l) (hs : seen.contains x.2.1 = false) :
    (l.filter fun y => (seen.push x.2.1).contains y.2.1).Perm ((l.filter fun y => seen.contains y.2.1) ++ [x]) := by
  induction l with
  | nil => cases hx
  | cons y r ih =>
    simp only [List.map_cons, List.nodup_cons] at hn
    rcases List.mem_cons.1 hx with rfl | hx
    · have hr : (r.filter fun y => (seen.push x.2.1).contains y.2.1) = r.filter fun y => seen.contains y.2.1 := by
        refine List.filter_congr fun z hz => ?_
        rw [contains_push]
        have : (z.2.1 == x.2.1) = false := by
          cases hb : z.2.1 == x.2.1 with
          | false => rfl
          | true => exact absurd (by rw [← beq_iff_eq.1 hb]; exact List.mem_map_of_mem (f := fun y : Int × Nat × Place => y.2.1) hz) hn.1
        rw [this, Bool.or_false]
      have h1 : (seen.push x.2.1).contains x.2.1 = true := by rw [contains_push, beq_self_eq_true, Bool.or_true]
      simp only [List.filter_cons, h1, hs, if_true, Bool.false_eq_true, if_false, hr]
      exact (List.perm_append_singleton x _).symm
    · have hne : (y.2.1 == x.2.1) = false := by
        cases hb : y.2.1 == x.2.1 with
        | false => rfl
        | true => exact absurd (by rw [beq_iff_eq.1 hb]; exact List.mem_map_of_mem (f := fun y : Int × Nat × Place => y.2.1) hx) hn.1
      have ih := ih hn.2 hx
      have h1 : (seen.push x.2.1).contains y.2.1 = seen.contains y.2.1 := by rw [contains_push, hne, Bool.or_false]
      simp only [List.filter_cons, h1]
      cases hc : seen.contains y.2.1 with
      | true => simp only [if_true]; exact ih.cons y
      | false => simpa using ih

abbrev ents (L : List Entry) : List Value := L.flatMap Entry.cells
theorem ents_len (L : List Entry) : (ents L).length = L.length * 3 := by
  induction L with
  | nil => rfl
  | cons x r ih => simp only [ents, List.flatMap_cons, List.length_append, List.length_cons] at ih ⊢; rw [ih]; show 3 + _ = _; omega

/-- what is known each time round -/
structure AllI (w0 : World) (l : PL) (ck : Nat) (c : Ctx) (M : Nat → Nat → Prop) (x y : Int) (it : Nat) (v : Value) (seen : Array Nat) (Ls : List Entry) (E : Env) (a : Act) (w : World) : Prop where
  sat : Sat c 28 w0 M E (allV x y ck l v it) a w
  hit : w.heap[it]? = some (.mapIter (some (E.ad 1).block) ck seen ck)
  ge : w0.heap.size ≤ it
  own : w.ownsRow w0.heap.size 30 3 v Ls.length (ents Ls)
  hid : ∀ g, v.ownBlock = some g → Hid (allV x y ck l v it) E g
  perm : Ls.Perm ((l.filter fun z => seen.contains z.2.1).map toE)

theorem ownBlock_lt {w : World} {base : Nat} {e : TypeId} {size : Nat} {v : Value} {n : Nat} {xs : List Value} (h : w.ownsRow base e size v n xs) {g : Nat} (hg : v.ownBlock = some g) : base ≤ g ∧ g < w.heap.size ∧ ∃ cs t fr, w.heap[g]? = some (.cells cs t fr) := by
  obtain ⟨h1, h2⟩ := h.lt g hg
  refine ⟨h1, h2, ?_⟩
  rcases h.2 with ⟨rfl, _⟩ | ⟨g', cap, cur, rfl, _, hgg, _⟩
  · cases hg
  · simp only [Value.ownBlock, Option.some.injEq] at hg
    subst hg
    exact ⟨_, _, _, hgg⟩
theorem ownsRow_blk {w w' : World} {base : Nat} {e : TypeId} {size : Nat} {v : Value} {n : Nat} {xs : List Value} (h : w.ownsRow base e size v n xs) (hb : ∀ g, v.ownBlock = some g → w'.heap[g]? = w.heap[g]?) : w'.ownsRow base e size v n xs := by
  refine ⟨h.1, ?_⟩
  rcases h.2 with hn | ⟨g, cap, cur, rfl, h1, hgg, rest⟩
  · exact .inl hn
  · refine .inr ⟨g, cap, cur, rfl, h1, ?_, rest⟩
    rw [hb g rfl]; exact hgg

theorem wpList_eq {P : Program} {ops : Array Oper} {Q : Exit → Act → World → Prop} {l l' : List Oper} {a : Act} {w : World} (h : l = l') (hw : wpList P ops Q l' a w) : wpList P ops Q l a w := by rw [h]; exact hw
theorem wpList_done {P : Program} {ops : Array Oper} {Q : Exit → Act → World → Prop} {l : List Oper} {a : Act} {w : World} (h : wpList P ops Q (l ++ []) a w) : wpList P ops Q l a w := by rwa [List.append_nil] at h
theorem drew_heap {w w1 : World} (h : w1 = w ∨ w1 = w.drew) : w1.heap = w.heap ∧ w1.os = w.os ∧ w1.tape = w.tape ∧ w1.output = w.output := by rcases h with rfl | rfl <;> exact ⟨rfl, rfl, rfl, rfl⟩
theorem grown_iter {w w1 : World} (h : w1 = w ∨ w1 = w.drew) (it : Nat) (o : Obj) : w.grownBy { w1 with heap := w.heap.setIfInBounds it o } (some it) := by
  obtain ⟨h1, h2, h3, h4⟩ := drew_heap h
  exact ⟨h2, h3, h4, by simp, fun k _ hk => by
    have : it ≠ k := fun he => hk (by rw [he])
    show (w.heap.setIfInBounds it o)[k]? = w.heap[k]?
    rw [Array.getElem?_setIfInBounds_ne this]⟩
/-- what a chunk's slice of one element holds -/
theorem cells_of_at {w : World} {a : Addr} {vs : List Value} (h : At w a vs) (h1 : ∀ v ∈ vs, v.oneCell' = true) : ∀ j u, vs[j]? = some u → w.cell? (a.add j) = some u := fun j u hu => h.cell hu (h1 u (List.mem_of_getElem? hu))

theorem hid_new {c : Ctx} {n : Nat} {w0 w : World} {M : Nat → Nat → Prop} {E : Env} {st : St} {a : Act} (sat : Sat c n w0 M E st a w) : Hid st E w.heap.size := fun k x hk hp he => by
  have := (sat.hs.at_ k x hk hp).lt
  omega

theorem all_loop {S : Stat} {w0 : World} {l : PL} {ck : Nat} {M : Nat → Nat → Prop} {x y : Int} {it : Nat} (hlen : l.length ≤ 67108864) {Q : Exit → Act → World → Prop} :
    ∀ (k : Nat) (v : Value) (seen : Array Nat) (Ls : List Entry) (E : Env) (a : Act) (w : World), AllI w0 l ck (cA (S.rd 0 2)) M x y it v seen Ls E a w → (l.filter fun z => !(seen.contains z.2.1)).length < k →
    (∀ v' Ls' E' a' w', Env.upto 2 E E' → Sat (cA (S.rd 0 2)) 28 w0 M E' (allV x y ck l v' it) a' w' → w'.ownsRow w0.heap.size 30 3 v' Ls'.length (ents Ls') → (∀ g, v'.ownBlock = some g → Hid (allV x y ck l v' it) E' g) → Ls'.Perm (l.map toE) → PLok l ck → Q (.exit 0) a' w') →
    Code.rounds Try.prog (lpOf 17 0) Q k a w
  | 0, _, _, _, _, _, _, _, hlt, _ => absurd hlt (Nat.not_lt_zero _)
  | k + 1, v, seen, Ls, E, a, w, I, hlt, hK => by
    have hfull := cA_fam.full (S.rd 0 2)
    have hS : (cA (S.rd 0 2)).S = S.rd 0 2 := cA_fam.S _
    have hwin : (cA (S.rd 0 2)).win = [] := cA_fam.win _
    have hnil : ∀ a, PathHolds a [] := fun a _ _ hm => by cases hm
    obtain ⟨es, hbm, hents, hst⟩ := I.sat.tab (k := 1) (ck := ck) (l := l) rfl
    have hok := PLok.of hents hst
    have hilt : it < w.heap.size := lt_of_some I.hit
    rw [rounds_succ, all_code]
    refine wp_seq (wp_region_lit ?_)
    refine wpList_eq all_r3 (wpList_hand all_next.2.2 ?_)
    have hev : a.eval (.tmp 10) = .pointer (some ⟨it, 0, none⟩) := ev_ok I.sat.slots (hnil a) (show ev _ [] (.tmp 10) = some (.v (.pointer (some ⟨it, 0, none⟩))) from rfl)
    rcases next_any (P := Try.prog) w (opAt 17 3 0).type it (E.ad 1).block ck ck seen es ck I.hit hbm (fun z hz => hst.1 z hz) (Nat.le_refl _) with ⟨h0, hrun⟩ | ⟨e, he, w1, hw1, hrun⟩
    · -- none is left
      have : (execOp a.eval (opAt 17 3 0)).run Try.prog w = .ok (.value (.tuple #[.bool false])) w := by simp [execOp, all_next.1, hev, hrun]
      unfold Oper.wp
      rw [this, Oper.upon_value, all_next.2.1]
      have sat1 := I.sat.set (d := 11) (x := .tup [.kb false]) (s' := (11, [], .tup [.kb false]) :: allS v it) rfl (v := .tuple #[.bool false]) (by simp [SV.den, SV.dens])
      refine Sat.piece' hfull (regL 17 3) _ sat1 (by erw [all_p1]; rfl) (by kernel_rfl) ?_
      intro E' a' w' hu sat2 hkeep hsz
      refine wp_seq ?_
      have hc : a'.eval (.tmp 12) = .bool false := ev_ok sat2.slots (hnil a') (show ev _ [] (.tmp 12) = some (.kb false) from rfl)
      refine wp_cond_false hc (wp_exit ?_)
      have satg := sat2.trim hwin [0, 3, 10] 2
      have hf : (l.filter fun z => seen.contains z.2.1) = l := List.filter_eq_self.2 (left_all hents h0)
      have hperm := I.perm
      rw [hf] at hperm
      exact hK v Ls E' a' w' hu satg (ownsRow_blk I.own fun g hg => (hkeep g (I.hid g hg) (I.own.lt g hg).2).1) (fun g hg => (hkeep g (I.hid g hg) (I.own.lt g hg).2).2) hperm hok
    · -- one of those that are left
      obtain ⟨z, hz, k1, k2, k3, k4⟩ := left_one hents he
      have : (execOp a.eval (opAt 17 3 0)).run Try.prog w = .ok (.value (.tuple #[.bool true, e.key, e.val])) { w1 with heap := w.heap.setIfInBounds it (.mapIter (some (E.ad 1).block) ck (seen.push e.born) ck) } := by simp [execOp, all_next.1, hev, hrun]
      unfold Oper.wp
      rw [this, Oper.upon_value, all_next.2.1]
      have hgi := grown_iter hw1 it (.mapIter (some (E.ad 1).block) ck (seen.push e.born) ck)
      have hi2 : ({ w1 with heap := w.heap.setIfInBounds it (.mapIter (some (E.ad 1).block) ck (seen.push e.born) ck) } : World).heap[it]? = some (.mapIter (some (E.ad 1).block) ck (seen.push e.born) ck) := by simp [hilt]
      generalize hw2 : ({ w1 with heap := w.heap.setIfInBounds it (.mapIter (some (E.ad 1).block) ck (seen.push e.born) ck) } : World) = w2 at hgi hi2 ⊢
      have hhi := I.sat.hid I.hit
      have satA := I.sat.grown hgi (fun g hg => by injection hg with hg; subst hg; exact ⟨I.ge, hhi⟩)
      have hne : ∀ g, v.ownBlock = some g → g ≠ it := fun g hg he => by
        obtain ⟨_, _, cs, t, fr, h⟩ := ownBlock_lt I.own hg
        rw [he, I.hit] at h; cases h
      have own2 := ownsRow_blk (w' := w2) I.own fun g hg => hgi.block g (I.own.lt g hg).2 (fun h => hne g hg (by injection h))
      have sat1 := satA.set (d := 11) (x := .tup [.kb true, .v e.key, .v e.val]) (s' := (11, [], .tup [.kb true, .v e.key, .v e.val]) :: allS v it) rfl (v := .tuple #[.bool true, e.key, e.val]) (by simp [SV.den, SV.dens])
      refine Sat.piece' hfull (regL 17 3) _ sat1 (by erw [all_p1]; rfl) (by kernel_rfl) ?_
      intro E3 a3 w3 hu3 sat3 hkeep3 hsz3
      have hc : a3.eval (.tmp 12) = .bool true := ev_ok sat3.slots (hnil a3) (show ev _ [] (.tmp 12) = some (.kb true) from rfl)
      refine wp_seq (wp_cond_true hc (wp_skip ?_))
      refine wp_block (wp_seq (wp_region_lit (wpList_eq all_r4 (wpList_hand all_entry.2.2 ?_))))
      obtain ⟨hi3, hhi3⟩ := hkeep3 it hhi (lt_of_some hi2)
      rw [hi2] at hi3
      have own3 := ownsRow_blk (w' := w3) own2 fun g hg => (hkeep3 g (I.hid g hg) (own2.lt g hg).2).1
      have hid3 : ∀ g, v.ownBlock = some g → Hid (allV x y ck l v it) E3 g := fun g hg => (hkeep3 g (I.hid g hg) (own2.lt g hg).2).2
      have sat3 := sat3.trim hwin [0, 3, 10] 2
      have e31 : E3.ad 1 = E.ad 1 := (hu3 1 (by show 1 < 2; omega)).1
      obtain ⟨es3, hb3, hents3, hst3⟩ := sat3.tab (k := 1) (ck := ck) (l := l) rfl
      obtain ⟨e3, he3, q1, q2, q3⟩ := ent_to hents3 hz
      have hev3 : a3.eval (.tmp 10) = .pointer (some ⟨it, 0, none⟩) := ev_ok sat3.slots (hnil a3) (show ev _ [] (.tmp 10) = some (.v (.pointer (some ⟨it, 0, none⟩))) from rfl)
      have hrun3 := entry_any (P := Try.prog) w3 it (E3.ad 1).block ck seen es3 ck e3 (by rw [hi3, e31, k3, q3]) hb3 he3 hst3.2.1
      have : (execOp a3.eval (opAt 17 4 0)).run Try.prog w3 = .ok (.value (.tuple #[.int .u64 z.1, .agg z.2.2.cells.toArray])) w3 := by simp [execOp, all_entry.1, hev3, hrun3, q1, q2]
      unfold Oper.wp
      rw [this, Oper.upon_value, all_entry.2.1]
      have sat4 := sat3.set (d := 13) (x := .tup [.v (.int .u64 z.1), .rcd (.place z.2.2)]) (s' := (13, [], .tup [.v (.int .u64 z.1), .rcd (.place z.2.2)]) :: allS v it) rfl (v := .tuple #[.int .u64 z.1, .agg z.2.2.cells.toArray]) (by simp [SV.den, SV.dens, Rec.cells])
      refine Sat.piece' hfull (regL 17 4) _ sat4 (by erw [all_p2]; rfl) (by kernel_rfl) ?_
      intro E5 a5 w5 hu5 sat5 hkeep5 hsz5
      refine wp_region_lit (wpList_eq all_r5 ?_)
      obtain ⟨hi5, hhi5⟩ := hkeep5 it hhi3 (lt_of_some hi3)
      rw [hi3] at hi5
      have own5 := ownsRow_blk (w' := w5) own3 fun g hg => (hkeep5 g (hid3 g hg) (own3.lt g hg).2).1
      have hid5 : ∀ g, v.ownBlock = some g → Hid ⟨[], (2, .rcd (.place z.2.2)) :: fdbH x y ck l, 3⟩ E5 g := fun g hg => (hkeep5 g (hid3 g hg) (own3.lt g hg).2).2
      have sat5 := sat5.trim hwin [4, 5, 0, 3, 10] 3
      refine Sat.piece hfull (regL 17 5) _ _ sat5 (by erw [all_p3]; rfl) (by kernel_rfl) ?_
      intro E6 a6 w6 hu6 sat6 hkeep6 hsz6
      obtain ⟨hi6, hhi6⟩ := hkeep6 it hhi5 (lt_of_some hi5)
      rw [hi5] at hi6
      have own6 := ownsRow_blk (w' := w6) own5 fun g hg => (hkeep6 g (hid5 g hg) (own5.lt g hg).2).1
      have hid6 : ∀ g, v.ownBlock = some g → Hid ⟨[], (3, .rcd (.entry ⟨z.1, z.2.2.port, z.2.2.sec⟩)) :: (2, .rcd (.place z.2.2)) :: fdbH x y ck l, 4⟩ E6 g := fun g hg => (hkeep6 g (hid5 g hg) (own5.lt g hg).2).2
      refine wpList_hand all_app.2.2 ?_
      have hv16 : a6.eval (.tmp 16) = v := ev_ok sat6.slots (hnil a6) (show ev _ [] (.tmp 16) = some (.v v) from rfl)
      have hv23 : a6.eval (.tmp 23) = .slice (some (E6.place 3 0)) 1 1 := ev_ok sat6.slots (hnil a6) (show ev _ [] (.tmp 23) = some (.slc 3 0 1 1) from rfl)
      -- the element that is appended
      have hat := sat6.hs.at_ 3 (.rcd (.entry ⟨z.1, z.2.2.port, z.2.2.sec⟩)) rfl (show 0 < 3 by omega)
      have hpl : E6.place 3 0 = E6.ad 3 := by
        obtain ⟨hs, _⟩ := hat
        unfold Env.place
        cases hq : E6.ad 3
        rw [hq] at hs
        simp at hs
        simp [hs]
      have hnews := cells_of_at (vs := Entry.cells ⟨z.1, z.2.2.port, z.2.2.sec⟩) (a := E6.place 3 0) (by rw [hpl]; exact hat) (by intro v hv; simp [Entry.cells] at hv; rcases hv with rfl | rfl | rfl <;> rfl)
      obtain ⟨i, t, hi, ht, his, hibytes, hiz, hizs⟩ : ∃ i zz, Try.prog.info? 30 = some i ∧ i.zero = some zz ∧ i.size = 3 ∧ i.bytes ≤ 1048576 ∧ zz.cells.size = 3 ∧ True := by
        have hd : ((cA (S.rd 0 2)).tys 30).map (fun d => (d.size, d.zero)) = some (3, .rcd (.entry ⟨0, 0, 0⟩)) := by kernel_rfl
        cases hdd : (cA (S.rd 0 2)).tys 30 with
        | none => rw [hdd] at hd; cases hd
        | some d =>
          rw [hdd] at hd
          simp only [Option.map_some, Option.some.injEq, Prod.mk.injEq] at hd
          have hty := hfull.tys _ _ hdd
          obtain ⟨i, u, h1, h2, h3, h4⟩ := hty.info
          have hz0 := hty.zero (S.rd 0 2) ⟨fun _ => default, fun _ => default⟩
          rw [h1, hd.2] at hz0
          exact ⟨i, _, h1, hz0, by rw [h3, hd.1], hfull.small _ _ _ hdd h1, by simp [SV.den, Rec.cells, Entry.cells, Value.cells], trivial⟩
      have hsl : Try.prog.underlying 25 = some (.slice 30) := by
        have hd : ((cA (S.rd 0 2)).tys 25).map (fun d => d.sh) = some (.slice 30) := by kernel_rfl
        cases hdd : (cA (S.rd 0 2)).tys 25 with
        | none => rw [hdd] at hd; cases hd
        | some d =>
          rw [hdd] at hd
          simp only [Option.map_some, Option.some.injEq] at hd
          obtain ⟨i, u, h1, h2, h3, h4⟩ := (hfull.tys _ _ hdd).info
          rw [hd] at h4
          have := shape_slice h4
          rw [h2, this]
      have hLs : Ls.length ≤ l.length := by
        rw [I.perm.length_eq, List.length_map]
        exact List.length_filter_le _ _
      obtain ⟨v', w7, hr7, own7, hg7, hb7⟩ := append_own (P := Try.prog) (w := w6) w0.heap.size 25 (opAt 17 5 8).type 30 i t hsl hi ht (by rw [his]; exact hiz) (by omega) v Ls.length (ents Ls) (by rw [his]; exact own6)
        (E6.place 3 0) 1 (Entry.cells ⟨z.1, z.2.2.port, z.2.2.sec⟩) (by rw [his]; rfl) hnews (by intro v hv; simp [Entry.cells] at hv; rcases hv with rfl | rfl | rfl <;> rfl) (by simp only [maxLen]; omega) (Nat.le_trans (Nat.mul_le_mul (show Ls.length + 1 ≤ 67108865 by omega) hibytes) (by decide)) sat6.fr.size
      have : (execOp a6.eval (opAt 17 5 8)).run Try.prog w6 = .ok (.value v') w7 := by
        simp only [execOp, all_app.1, resolve, invoke, builtin, Sem.run_bind, Sem.run_pure, Result.andThen_ok, List.map_toArray, List.map_cons, List.map_nil, hv16, hv23, hr7]
      unfold Oper.wp
      rw [this, Oper.upon_value, all_app.2.1]
      rw [his] at own7
      have sat7 := sat6.grown hg7 (fun g hg => ⟨(own6.lt g hg).1, hid6 g hg⟩)
      have hid7 : ∀ g, v'.ownBlock = some g → Hid ⟨[], (3, .rcd (.entry ⟨z.1, z.2.2.port, z.2.2.sec⟩)) :: (2, .rcd (.place z.2.2)) :: fdbH x y ck l, 4⟩ E6 g := by
        intro g hg
        rcases hb7 with hb | hb
        · exact hid6 g (by rw [← hb]; exact hg)
        · rw [hb] at hg; injection hg with hg; subst hg
          have := hid_new sat6
          exact this
      have hi7 : w7.heap[it]? = some (.mapIter (some (E.ad 1).block) ck (seen.push e.born) ck) := by
        rw [hg7.block it (lt_of_some hi6) (fun h => hne it h.symm rfl)]; exact hi6
      have sat7 := (sat7.trim hwin [0, 3, 10] 2).set (d := 24) (x := .v v') (s' := (24, [], .v v') :: allS v it) rfl (v := v') rfl
      refine Sat.piece' hfull (regL 17 5) _ sat7 (by erw [all_p4]; rfl) (by kernel_rfl) ?_
      intro E8 a8 w8 hu8 sat8 hkeep8 hsz8
      show Code.rounds _ _ _ k a8 w8
      have hsub : ∀ {E : Env} {g : Nat}, Hid ⟨[], (3, .rcd (.entry ⟨z.1, z.2.2.port, z.2.2.sec⟩)) :: (2, .rcd (.place z.2.2)) :: fdbH x y ck l, 4⟩ E g → Hid (allV x y ck l v it) E g := by
        intro E g h k xx hk hp
        exact h k xx (keepH_get (nx := 2) (h := (3, .rcd (.entry ⟨z.1, z.2.2.port, z.2.2.sec⟩)) :: (2, .rcd (.place z.2.2)) :: fdbH x y ck l) hk) hp
      obtain ⟨hi8, _⟩ := hkeep8 it (hsub hhi6) (lt_of_some hi7)
      rw [hi7] at hi8
      have own8 := ownsRow_blk (w' := w8) own7 fun g hg => (hkeep8 g (hsub (hid7 g hg)) (own7.lt g hg).2).1
      have hid8 : ∀ g, v'.ownBlock = some g → Hid (allV x y ck l v' it) E8 g := fun g hg => (hkeep8 g (hsub (hid7 g hg)) (own7.lt g hg).2).2
      have hu : Env.upto 2 E E8 := (hu3.trans (hu5.trans (Env.upto.trans (n := 2) (fun k hk => hu6 k (by show k < 3; omega)) hu8 (Nat.le_refl 2)) (Nat.le_refl 2)) (Nat.le_refl 2))
      refine all_loop hlen k v' (seen.push e.born) (Ls ++ [toE z]) E8 a8 w8 ⟨sat8.trim hwin [0, 3, 10] 2, ?_, I.ge, ?_, hid8, ?_⟩ ?_ (fun v9 L9 E9 a9 w9 hu9 => hK v9 L9 E9 a9 w9 (hu.trans hu9 (Nat.le_refl 2)))
      · rw [hi8, (hu 1 (by omega)).1]
      · have hL : (Ls ++ [toE z]).length = Ls.length + 1 := by simp
        have hC : ents (Ls ++ [toE z]) = ents Ls ++ Entry.cells ⟨z.1, z.2.2.port, z.2.2.sec⟩ := by simp [ents, toE]
        rw [hL, hC]; exact own8
      · rw [k3]
        refine (I.perm.append_right [toE z]).trans ?_
        have := (seen_perm hok.born hz k4).map toE
        rw [List.map_append] at this
        exact this.symm
      · rw [k3]
        have := unseen_lt hz k4
        omega
end Go.Proofs.Ytfncoeoaniclmaa
