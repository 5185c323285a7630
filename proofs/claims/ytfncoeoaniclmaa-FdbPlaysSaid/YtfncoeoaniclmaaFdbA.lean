/- (*Fdb).All: its loop over the map. -/
import Derived.Test.YtfncoeoaniclmaaFdb0
set_option linter.unusedVariables false
set_option maxRecDepth 100000
namespace Go.Proofs.Ytfncoeoaniclmaa
open Go Go.RowKit

abbrev PL := List (Int × Nat × Place)
def toE (x : Int × Nat × Place) : Entry := ⟨x.1, x.2.2.port, x.2.2.sec⟩
def fdbH (a b : Int) (ck : Nat) (l : PL) : Heap := [(0, .agg [.v (.int .i64 a), .v (.int .i64 b), .mp 1]), (1, .tab (.place .u64 ck l))]

section
variable {es : Array MapEntry} {l : PL} {seen : Array Nat}
theorem ent_of (h : es.toList.map tupM = l.map (entK .u64 Place.cells)) {e : MapEntry} (he : e ∈ es.toList) : ∃ x ∈ l, e.key = .int .u64 x.1 ∧ e.val = .agg x.2.2.cells.toArray ∧ e.born = x.2.1 := by
  have : tupM e ∈ l.map (entK .u64 Place.cells) := by rw [← h]; exact List.mem_map_of_mem he
  obtain ⟨x, hx, hxe⟩ := List.mem_map.1 this
  simp only [entK, tupM, Value.tuple.injEq, Array.mk.injEq, List.cons.injEq, and_true] at hxe
  obtain ⟨h1, h2, h3⟩ := hxe
  refine ⟨x, hx, h1.symm, h2.symm, ?_⟩
  injection h3 with _ h3
  exact (Int.ofNat.inj h3).symm
theorem ent_to (h : es.toList.map tupM = l.map (entK .u64 Place.cells)) {x : Int × Nat × Place} (hx : x ∈ l) : ∃ e ∈ es.toList, e.key = .int .u64 x.1 ∧ e.val = .agg x.2.2.cells.toArray ∧ e.born = x.2.1 := by
  have : entK .u64 Place.cells x ∈ es.toList.map tupM := by rw [h]; exact List.mem_map_of_mem hx
  obtain ⟨e, he, hxe⟩ := List.mem_map.1 this
  simp only [entK, tupM, Value.tuple.injEq, Array.mk.injEq, List.cons.injEq, and_true] at hxe
  obtain ⟨h1, h2, h3⟩ := hxe
  refine ⟨e, he, h1, h2, ?_⟩
  injection h3 with _ h3
  exact Int.ofNat.inj h3
theorem left_all (h : es.toList.map tupM = l.map (entK .u64 Place.cells)) (h0 : (leftOf es seen).size = 0) : ∀ x ∈ l, seen.contains x.2.1 = true := by
  intro x hx
  obtain ⟨e, he, _, _, hb⟩ := ent_to h hx
  rw [← hb]
  exact all_seen es seen h0 e he
theorem left_one (h : es.toList.map tupM = l.map (entK .u64 Place.cells)) {e : MapEntry} (he : e ∈ (leftOf es seen).toList) : ∃ x ∈ l, e.key = .int .u64 x.1 ∧ e.val = .agg x.2.2.cells.toArray ∧ e.born = x.2.1 ∧ seen.contains x.2.1 = false := by
  obtain ⟨h1, h2⟩ := mem_left he
  obtain ⟨x, hx, k1, k2, k3⟩ := ent_of h h1
  exact ⟨x, hx, k1, k2, k3, by rw [← k3]; exact h2⟩
theorem ents_born (h : es.toList.map tupM = l.map (entK .u64 Place.cells)) : es.toList.map (·.born) = l.map (·.2.1) := by
  have key : ∀ (a : List MapEntry) (b : PL), a.map tupM = b.map (entK .u64 Place.cells) → a.map (·.born) = b.map (·.2.1) := by
    intro a
    induction a with
    | nil => intro b h; cases b with | nil => rfl | cons _ _ => simp at h
    | cons e r ih =>
      intro b h
      cases b with
      | nil => simp at h
      | cons x r' =>
        simp only [List.map_cons, List.cons.injEq] at h ⊢
        refine ⟨?_, ih r' h.2⟩
        have hxe := h.1
        simp only [entK, tupM, Value.tuple.injEq, Array.mk.injEq, List.cons.injEq, and_true] at hxe
        obtain ⟨_, _, h3⟩ := hxe
        injection h3 with _ h3
        exact Int.ofNat.inj h3
  exact key _ _ h
theorem ents_key (h : es.toList.map tupM = l.map (entK .u64 Place.cells)) : es.toList.map (·.key) = l.map (fun x => Value.int .u64 x.1) := by
  have key : ∀ (a : List MapEntry) (b : PL), a.map tupM = b.map (entK .u64 Place.cells) → a.map (·.key) = b.map (fun x => Value.int .u64 x.1) := by
    intro a
    induction a with
    | nil => intro b h; cases b with | nil => rfl | cons _ _ => simp at h
    | cons e r ih =>
      intro b h
      cases b with
      | nil => simp at h
      | cons x r' =>
        simp only [List.map_cons, List.cons.injEq] at h ⊢
        refine ⟨?_, ih r' h.2⟩
        have hxe := h.1
        simp only [entK, tupM, Value.tuple.injEq, Array.mk.injEq, List.cons.injEq, and_true] at hxe
        exact hxe.1
  exact key _ _ h
end
/-- what is told of a table's list: all stamps below the clock, no two alike; no two keys alike -/
structure PLok (l : PL) (ck : Nat) : Prop where
  lt : ∀ x ∈ l, x.2.1 < ck
  born : (l.map (·.2.1)).Nodup
  key : (l.map (·.1)).Nodup
theorem PLok.of {es : Array MapEntry} {l : PL} {ck : Nat} (h : es.toList.map tupM = l.map (entK .u64 Place.cells)) (hs : MapKept.Stamped es ck) : PLok l ck := by
  obtain ⟨h1, h2, h3⟩ := hs
  rw [ents_born h] at h2
  rw [ents_key h] at h3
  refine ⟨fun x hx => ?_, h2, ?_⟩
  · obtain ⟨e, he, _, _, hb⟩ := ent_to h hx
    rw [← hb]; exact h1 e he
  · have : l.map (fun x => Value.int .u64 x.1) = (l.map (·.1)).map (Value.int .u64) := by simp
    rw [this] at h3
    unfold List.Nodup at h3 ⊢
    rw [List.pairwise_map] at h3
    exact h3.imp fun h he => h (by rw [he])

section
variable {P : Program} {c : Ctx} {n : Nat} {w0 w : World} {M : Nat → Nat → Prop} {E : Env} {st : St} {a : Act}
theorem Sat.tab (sat : Sat c n w0 M E st a w) {k ck : Nat} {l : PL} (hk : st.heap.get k = some (.tab (.place .u64 ck l))) : ∃ es, w.heap[(E.ad k).block]? = some (.map es ck) ∧ es.toList.map tupM = l.map (entK .u64 Place.cells) ∧ MapKept.Stamped es ck := by
  obtain ⟨_, es, clk, hb, ht, hst⟩ := At.entries (t := (Tab.place .u64 ck l).all.toArray) (sat.hs.at_ k _ hk (by simp [SV.size]))
  obtain ⟨h1, h2⟩ := mapT_split ht
  have h1 : ck = clk := by injection h1 with _ h1; exact Int.ofNat.inj h1
  subst h1
  exact ⟨es, hb, h2.symm, hst⟩
end

def allS (v : Value) (it : Nat) : Slots := [(0, [], .ptr 0 0), (3, [], .v v), (10, [], .v (.pointer (some ⟨it, 0, none⟩)))]
def allV (x y : Int) (ck : Nat) (l : PL) (v : Value) (it : Nat) : St := ⟨allS v it, fdbH x y ck l, 2⟩
theorem all_code : lpOf 17 0 = .seq (.region 3 (regL 17 3).toArray false) (.seq (.cond (.tmp 12) .skip (.exit 0)) (.block 1 (.seq (.region 4 (regL 17 4).toArray false) (.region 5 (regL 17 5).toArray false)))) := by kernel_rfl
theorem all_r3 : regL 17 3 = [opAt 17 3 0] ++ [opAt 17 3 1] := by kernel_rfl
theorem all_r4 : regL 17 4 = opAt 17 4 0 :: (regL 17 4).drop 1 := by kernel_rfl
theorem all_r5 : regL 17 5 = (regL 17 5).take 8 ++ (opAt 17 5 8 :: [opAt 17 5 9]) := by kernel_rfl
theorem all_next : (opAt 17 3 0).op = .next (.tmp 10) false ∧ (opAt 17 3 0).dst = some 11 ∧ (opAt 17 3 0).guard = none := ⟨by kernel_rfl, by kernel_rfl, by kernel_rfl⟩
theorem all_entry : (opAt 17 4 0).op = .entry (.tmp 10) ∧ (opAt 17 4 0).dst = some 13 ∧ (opAt 17 4 0).guard = none := ⟨by kernel_rfl, by kernel_rfl, by kernel_rfl⟩
theorem all_app : (opAt 17 5 8).op = .call { callee := .builtin .append, args := #[.tmp 16, .tmp 23], argTypes := #[25, 25] } ∧ (opAt 17 5 8).dst = some 24 ∧ (opAt 17 5 8).guard = none := ⟨by kernel_rfl, by kernel_rfl, by kernel_rfl⟩
/-- the engine's pieces of a round -/
theorem all_p1 (S : Stat) (x y : Int) (ck it : Nat) (l : PL) (v : Value) (b : Bool) (vs : List SV) :
    region (cA (S.rd 0 2)) 28 (regL 17 3) [opAt 17 3 1] ⟨(11, [], .tup (.kb b :: vs)) :: allS v it, fdbH x y ck l, 2⟩ = .ret ⟨(12, [], .kb b) :: (11, [], .tup (.kb b :: vs)) :: allS v it, fdbH x y ck l, 2⟩ := by kernel_rfl
theorem all_p2 (S : Stat) (x y : Int) (ck it : Nat) (l : PL) (v : Value) (m : Int) (p : Place) :
    region (cA (S.rd 0 2)) 28 (regL 17 4) ((regL 17 4).drop 1) ⟨(13, [], .tup [.v (.int .u64 m), .rcd (.place p)]) :: allS v it, fdbH x y ck l, 2⟩ =
      .ret ⟨[(4, [], .v (.int .u64 m)), (5, [], .ptr 2 0), (15, [], .rcd (.place p)), (14, [], .v (.int .u64 m)), (13, [], .tup [.v (.int .u64 m), .rcd (.place p)])] ++ allS v it, (2, .rcd (.place p)) :: fdbH x y ck l, 3⟩ := by kernel_rfl
theorem all_p3 (S : Stat) (x y : Int) (ck it : Nat) (l : PL) (v : Value) (m : Int) (p : Place) :
    region (cA (S.rd 0 2)) 28 (regL 17 5) ((regL 17 5).take 8) ⟨[(4, [], .v (.int .u64 m)), (5, [], .ptr 2 0)] ++ allS v it, (2, .rcd (.place p)) :: fdbH x y ck l, 3⟩ =
      .ret ⟨[(23, [], .slc 3 0 1 1), (22, [], .rcd (.entry ⟨m, p.port, p.sec⟩)), (21, [], .v (.int .i64 p.sec)), (20, [], .ptr 2 1), (19, [], .v (.int .i64 p.port)), (18, [], .ptr 2 0), (17, [], .v (.int .u64 m)), (16, [], .v v), (4, [], .v (.int .u64 m)), (5, [], .ptr 2 0)] ++ allS v it,
        (3, .rcd (.entry ⟨m, p.port, p.sec⟩)) :: (2, .rcd (.place p)) :: fdbH x y ck l, 4⟩ := by kernel_rfl
theorem all_p4 (S : Stat) (x y : Int) (ck it : Nat) (l : PL) (v v' : Value) : region (cA (S.rd 0 2)) 28 (regL 17 5) [opAt 17 5 9] ⟨(24, [], .v v') :: allS v it, fdbH x y ck l, 2⟩ = .ret ⟨(3, [], .v v') :: (24, [], .v v') :: allS v it, fdbH x y ck l, 2⟩ := by kernel_rfl
end Go.Proofs.Ytfncoeoaniclmaa
