/- fdb: what its tables are like, whatever is done to them. No program in sight. -/
import Derived.Test.YtfncoeoaniclmaaFdbM
set_option linter.unusedVariables false
set_option maxRecDepth 100000
namespace Go.Proofs.Ytfncoeoaniclmaa
open Go Go.RowKit

section
variable {α : Type}
theorem hasK_iff {n : Int} : ∀ {l : List (Int × Nat × α)}, hasK l n = true ↔ n ∈ l.map (·.1)
  | [] => by simp [hasK]
  | e :: r => by
    by_cases h : e.1 = n
    · simp [hasK, h]
    · simp only [hasK, if_neg h, List.map_cons, List.mem_cons]
      rw [hasK_iff (l := r)]
      exact ⟨.inr, fun hh => hh.resolve_left (fun he => h he.symm)⟩
theorem hasK_no {n : Int} {l : List (Int × Nat × α)} (h : hasK l n = false) : n ∉ l.map (·.1) := fun hm => by rw [hasK_iff.2 hm] at h; cases h
theorem delK_sub {n : Int} : ∀ (l : List (Int × Nat × α)), (delK l n).Sublist l
  | [] => List.Sublist.slnil
  | e :: r => by
    unfold delK
    split
    · exact List.sublist_cons_self e r
    · exact (delK_sub r).cons_cons e
theorem delK_len {n : Int} : ∀ {l : List (Int × Nat × α)}, hasK l n = true → (delK l n).length + 1 = l.length
  | [], h => by cases h
  | e :: r, h => by
    unfold delK
    split
    · simp
    · rename_i hne
      simp only [hasK, if_neg hne] at h
      simp only [List.length_cons, delK_len h]
theorem delK_no {n : Int} : ∀ {l : List (Int × Nat × α)}, (l.map (·.1)).Nodup → n ∉ (delK l n).map (·.1)
  | [], _ => by simp [delK]
  | e :: r, h => by
    simp only [List.map_cons, List.nodup_cons] at h
    unfold delK
    split
    · rename_i he; rw [← he]; exact h.1
    · rename_i hne
      simp only [List.map_cons, List.mem_cons, not_or]
      exact ⟨fun hh => hne hh.symm, delK_no h.2⟩
/-- without an entry: all the others -/
theorem delK_filter {n : Int} : ∀ {l : List (Int × Nat × α)}, (l.map (·.1)).Nodup → delK l n = l.filter fun e => !(e.1 == n)
  | [], _ => rfl
  | e :: r, h => by
    simp only [List.map_cons, List.nodup_cons] at h
    by_cases he : e.1 = n
    · have hb : (e.1 == n) = true := by simp [he]
      have hr : r.filter (fun e => !(e.1 == n)) = r := List.filter_eq_self.2 fun x hx => by
        have : x.1 ≠ n := fun hh => h.1 (by rw [he, ← hh]; exact List.mem_map_of_mem (f := fun x : Int × Nat × α => x.1) hx)
        simp [this]
      simp [delK, he, hr]
    · have hb : (e.1 == n) = false := by simp [he]
      simp [delK, he, delK_filter h.2]
theorem putK_keys {n : Int} {c : Nat} {x : α} : ∀ {l : List (Int × Nat × α)}, hasK l n = true → (putK l n c x).map (·.1) = l.map (·.1)
  | [], h => by cases h
  | e :: r, h => by
    unfold putK
    split
    · rename_i he; simp [he]
    · rename_i hne
      simp only [hasK, if_neg hne] at h
      simp only [List.map_cons, putK_keys h]
theorem putK_new {n : Int} {c : Nat} {x : α} : ∀ {l : List (Int × Nat × α)}, hasK l n = false → putK l n c x = l ++ [(n, c, x)]
  | [], _ => rfl
  | e :: r, h => by
    have hne : e.1 ≠ n := fun he => by simp [hasK, he] at h
    simp only [hasK, if_neg hne] at h
    simp only [putK, if_neg hne, putK_new h, List.cons_append]
theorem putK_has {n : Int} {c : Nat} {x : α} : ∀ {l : List (Int × Nat × α)}, hasK (putK l n c x) n = true ∧ ∀ d, getK (putK l n c x) n d = x
  | [] => by simp [putK, hasK, getK]
  | e :: r => by
    unfold putK
    split
    · simp [hasK, getK]
    · rename_i hne
      simp only [hasK, getK, if_neg hne]
      exact putK_has
theorem putK_mem {n : Int} {c : Nat} {x : α} {y : Int × Nat × α} : ∀ {l : List (Int × Nat × α)}, y ∈ putK l n c x → (y.1 = n ∧ y.2.2 = x) ∨ y ∈ l
  | [], h => by
    simp only [putK, List.mem_singleton] at h
    subst h; exact .inl ⟨rfl, rfl⟩
  | e :: r, h => by
    unfold putK at h
    split at h
    · rcases List.mem_cons.1 h with rfl | h
      · exact .inl ⟨rfl, rfl⟩
      · exact .inr (List.mem_cons_of_mem _ h)
    · rcases List.mem_cons.1 h with rfl | h
      · exact .inr List.mem_cons_self
      · exact (putK_mem h).imp id (List.mem_cons_of_mem _)
end

theorem bv48 (x : BitVec 64) : (x &&& 281474976710655#64).toNat = x.toNat % 281474976710656 := by
  rw [BitVec.toNat_and]
  exact Nat.and_two_pow_sub_one_eq_mod x.toNat 48
theorem addrF_range (m : Int) : 0 ≤ addrF m ∧ addrF m < 281474976710656 := by
  unfold addrF
  have h : (BitVec.ofInt IntKind.u64.bits m &&& BitVec.ofInt IntKind.u64.bits 281474976710655).toNat < 281474976710656 := by
    have := bv48 (BitVec.ofInt 64 m)
    have e : (BitVec.ofInt IntKind.u64.bits 281474976710655) = 281474976710655#64 := by rfl
    rw [e]
    show (BitVec.ofInt 64 m &&& 281474976710655#64).toNat < _
    rw [this]
    exact Nat.mod_lt _ (by omega)
  have hw : IntKind.u64.wrap ↑(BitVec.ofInt IntKind.u64.bits m &&& BitVec.ofInt IntKind.u64.bits 281474976710655).toNat = ↑(BitVec.ofInt IntKind.u64.bits m &&& BitVec.ofInt IntKind.u64.bits 281474976710655).toNat := by
    unfold IntKind.wrap
    simp only [IntKind.signed, IntKind.bits] at h ⊢
    simp
    omega
  rw [hw]
  omega

/-- what a table is like that may have x entries, which live for y seconds -/
structure TabOk (x y : Int) (l : PL) : Prop where
  key : (l.map (·.1)).Nodup
  len : (l.length : Int) ≤ x
  sec : ∀ e ∈ l, 1 ≤ e.2.2.sec ∧ e.2.2.sec ≤ y
  mac : ∀ e ∈ l, 0 < e.1 ∧ e.1 < 281474976710656
  port : ∀ e ∈ l, 0 ≤ e.2.2.port
theorem TabOk.nil {x y : Int} (hx : 0 ≤ x) : TabOk x y [] := ⟨List.nodup_nil, by simpa using hx, by simp, by simp, by simp⟩
theorem TabOk.sub {x y : Int} {l l' : PL} (h : TabOk x y l) (hs : l'.Sublist l) : TabOk x y l' :=
  ⟨h.key.sublist (hs.map _), by have := hs.length_le; have := h.len; omega, fun e he => h.sec e (hs.subset he), fun e he => h.mac e (hs.subset he), fun e he => h.port e (hs.subset he)⟩
theorem minG_mem : ∀ (L : List Entry) (m : Entry), minG m L = m ∨ minG m L ∈ L
  | [], m => .inl rfl
  | x :: r, m => by
    have : minG m (x :: r) = minG (if x.sec < m.sec then x else m) r := rfl
    rw [this]
    rcases minG_mem r (if x.sec < m.sec then x else m) with h | h
    · rw [h]
      split
      · exact .inr List.mem_cons_self
      · exact .inl rfl
    · exact .inr (List.mem_cons_of_mem _ h)
theorem minE_mem {L : List Entry} (h : L ≠ []) : minE L ∈ L := by
  cases L with
  | nil => exact absurd rfl h
  | cons x r =>
    rcases minG_mem r x with hh | hh
    · show minG x r ∈ _
      rw [hh]; exact List.mem_cons_self
    · exact List.mem_cons_of_mem _ hh
theorem allE_mem {l : PL} {e : Entry} : e ∈ allE l ↔ ∃ z ∈ l, toE z = e := by
  unfold allE
  rw [(sortE_perm _).mem_iff, List.mem_map]
theorem min_has {l : PL} (h : l ≠ []) : hasK l (minE (allE l)).mac = true := by
  have hne : allE l ≠ [] := fun hh => h (List.eq_nil_of_length_eq_zero (by have := allE_len l; rw [hh] at this; simpa using this.symm))
  obtain ⟨z, hz, he⟩ := allE_mem.1 (minE_mem hne)
  rw [hasK_iff, ← he]
  exact List.mem_map_of_mem (f := fun z : Int × Nat × Place => z.1) hz
theorem TabOk.put {x y : Int} {l : PL} {n p : Int} {c : Nat} (h : TabOk x y l) (hy : 1 ≤ y) (hn : 0 < n ∧ n < 281474976710656) (hp : 0 ≤ p) (hr : hasK l n = true ∨ (l.length : Int) + 1 ≤ x) : TabOk x y (putK l n c ⟨p, y⟩) := by
  have hm : ∀ e ∈ putK l n c ⟨p, y⟩, (1 ≤ e.2.2.sec ∧ e.2.2.sec ≤ y) ∧ (0 < e.1 ∧ e.1 < 281474976710656) ∧ 0 ≤ e.2.2.port := by
    intro e he
    rcases putK_mem he with ⟨h1, h2⟩ | h1
    · rw [h1, h2]; exact ⟨⟨hy, Int.le_refl _⟩, hn, hp⟩
    · exact ⟨h.sec e h1, h.mac e h1, h.port e h1⟩
  cases hh : hasK l n with
  | true =>
    have hk := putK_keys (c := c) (x := (⟨p, y⟩ : Place)) hh
    refine ⟨by rw [hk]; exact h.key, ?_, fun e he => (hm e he).1, fun e he => (hm e he).2.1, fun e he => (hm e he).2.2⟩
    have := congrArg List.length hk
    simp only [List.length_map] at this
    rw [this]; exact h.len
  | false =>
    rw [hh] at hr
    have hl := hr.resolve_left (by simp)
    refine ⟨?_, ?_, fun e he => (hm e he).1, fun e he => (hm e he).2.1, fun e he => (hm e he).2.2⟩
    · rw [putK_new hh, List.map_append, List.nodup_append]
      refine ⟨h.key, by simp, fun a ha b hb => ?_⟩
      simp only [List.map_cons, List.map_nil, List.mem_singleton] at hb
      rintro rfl
      exact hasK_no hh (hb ▸ ha)
    · rw [putK_new hh, List.length_append, List.length_singleton]; omega
theorem badF_no {m p : Int} (h : badF m p = false) : 0 < addrF m ∧ addrF m < 281474976710656 ∧ 0 ≤ p := by
  unfold badF at h
  simp only [Bool.or_eq_false_iff, beq_eq_false_iff_ne, decide_eq_false_iff_not] at h
  have := addrF_range m
  omega
theorem TabOk.learn {x y : Int} {l : PL} (h : TabOk x y l) (hx : 1 ≤ x) (hy : 1 ≤ y) (c : Nat) (m p : Int) : TabOk x y (learnL x y c l m p) := by
  unfold learnL
  split
  · exact h
  · rename_i hb
    have hb := badF_no (by simpa using hb)
    split
    · rename_i hf
      unfold fullF at hf
      simp only [Bool.and_eq_true, Bool.not_eq_true', beq_iff_eq] at hf
      have hne : l ≠ [] := fun hh => by rw [hh] at hf; simp at hf; omega
      have hlen := delK_len (min_has hne)
      exact (h.sub (delK_sub l)).put hy ⟨hb.1, hb.2.1⟩ hb.2.2 (.inr (by have := h.len; omega))
    · rename_i hf
      refine h.put hy ⟨hb.1, hb.2.1⟩ hb.2.2 ?_
      unfold fullF at hf
      cases hh : hasK l (addrF m) with
      | true => exact .inl rfl
      | false =>
        rw [hh] at hf
        simp only [Bool.not_false, Bool.true_and, beq_iff_eq] at hf
        have := h.len
        exact .inr (by omega)
theorem learn_go {x y : Int} {l : PL} (h : TabOk x y l) (hx : 1 ≤ x ∧ x ≤ 67108864) (m p : Int) : (decide (1 ≤ l.length ∧ l.length ≤ 67108864) || (badF m p || !(fullF x l m))) = true := by
  cases hf : fullF x l m with
  | false => simp
  | true =>
    unfold fullF at hf
    simp only [Bool.and_eq_true, beq_iff_eq] at hf
    have : 1 ≤ l.length ∧ l.length ≤ 67108864 := by omega
    simp [this]
theorem learn_find {x y : Int} {l : PL} {c : Nat} {m p : Int} (h : badF m p = false) : hasK (learnL x y c l m p) (addrF m) = true ∧ portF (learnL x y c l m p) m = p := by
  have key : ∀ l : PL, hasK (putK l (addrF m) c ⟨p, y⟩) (addrF m) = true ∧ portF (putK l (addrF m) c ⟨p, y⟩) m = p := fun l => by
    obtain ⟨h1, h2⟩ := putK_has (n := addrF m) (c := c) (x := (⟨p, y⟩ : Place)) (l := l)
    refine ⟨h1, ?_⟩
    unfold portF
    rw [if_pos h1, h2]
  unfold learnL
  rw [h]
  simp only [Bool.false_eq_true, if_false]
  split
  · exact key _
  · exact key _
/-- whatever changes entries, and takes away those that live no more -/
theorem TabOk.upd {x y : Int} {l : PL} {ch : Place → Place} (h : TabOk x y l) (hc : ∀ p : Place, 1 ≤ p.sec ∧ p.sec ≤ y → (ch p).sec ≤ y ∧ (0 ≤ p.port → 0 ≤ (ch p).port)) : TabOk x y (l.filterMap (updE ch)) := by
  have hm : ∀ z ∈ l.filterMap (updE ch), ∃ e ∈ l, z.1 = e.1 ∧ z.2.2 = ch e.2.2 ∧ 0 < (ch e.2.2).sec := by
    intro z hz
    obtain ⟨e, he, hu⟩ := List.mem_filterMap.1 hz
    unfold updE at hu
    split at hu
    · cases hu
    · injection hu with hu; subst hu
      exact ⟨e, he, rfl, rfl, by omega⟩
  have hsub : ∀ l : PL, ((l.filterMap (updE ch)).map (·.1)).Sublist (l.map (·.1)) := by
    intro l
    induction l with
    | nil => exact List.Sublist.slnil
    | cons e r ih =>
      rw [List.filterMap_cons]
      cases hu : updE ch e with
      | none => exact ih.cons _
      | some z =>
        have hz : z.1 = e.1 := by
          unfold updE at hu
          split at hu
          · cases hu
          · injection hu with hu; rw [← hu]
        simp only [List.map_cons, hz]
        exact ih.cons_cons _
  refine ⟨h.key.sublist (hsub l), ?_, ?_, ?_, ?_⟩
  · have := (hsub l).length_le
    simp only [List.length_map] at this
    have := h.len
    omega
  · intro z hz
    obtain ⟨e, he, h1, h2, h3⟩ := hm z hz
    rw [h2]
    have := (hc e.2.2 (h.sec e he)).1
    omega
  · intro z hz
    obtain ⟨e, he, h1, h2, h3⟩ := hm z hz
    rw [h1]; exact h.mac e he
  · intro z hz
    obtain ⟨e, he, h1, h2, h3⟩ := hm z hz
    rw [h2]; exact (hc e.2.2 (h.sec e he)).2 (h.port e he)
theorem TabOk.tick {x y : Int} {l : PL} (h : TabOk x y l) (hy : y < 9223372036854775808) : TabOk x y (tickL l) := by
  refine h.upd fun p hp => ⟨?_, fun h => h⟩
  unfold tickP
  rw [IntKind.wrap_i64]
  dsimp only
  omega
theorem TabOk.short {x y : Int} {l : PL} (h : TabOk x y l) (P s : Int) : TabOk x y (shortL P s l) := by
  refine h.upd fun p hp => ?_
  unfold shortP
  split
  · rename_i he
    dsimp only
    refine ⟨by split <;> omega, fun h => by omega⟩
  · exact ⟨hp.2, fun h => h⟩
/-- all, by rising addresses -/
theorem allE_lt {l : PL} (h : (l.map (·.1)).Nodup) : (allE l).Pairwise fun a b => a.mac < b.mac := by
  have hs := sortE_sorted (l.map toE)
  have hn : ((allE l).map (·.mac)).Nodup := by
    unfold allE
    rw [((sortE_perm _).map _).nodup_iff, List.map_map]
    exact h
  have hn' : (allE l).Pairwise fun a b => a.mac ≠ b.mac := by
    unfold List.Nodup at hn
    exact List.pairwise_map.1 hn
  refine (hs.and hn').imp ?_
  intro a b ⟨h1, h2⟩
  simp only [leM, decide_eq_true_eq] at h1
  omega
theorem insE_head {x : Entry} {R : List Entry} (h : ∀ z ∈ R, x.mac ≤ z.mac) : insE x R = x :: R := by
  cases R with
  | nil => rfl
  | cons z R => simp [insE, h z List.mem_cons_self]
theorem insE_tail {x y : Entry} {R : List Entry} (h : ¬ x.mac ≤ y.mac) : insE x (y :: R) = y :: insE x R := by simp [insE, h]
theorem insE_filter {f : Entry → Bool} {x : Entry} : ∀ {L : List Entry}, L.Pairwise (fun a b => leM a b = true) → (insE x L).filter f = if f x = true then insE x (L.filter f) else L.filter f
  | [], _ => by cases hf : f x <;> simp [insE, hf]
  | y :: r, h => by
    obtain ⟨h1, h2⟩ := List.pairwise_cons.1 h
    have ih := insE_filter (f := f) (x := x) h2
    by_cases hxy : x.mac ≤ y.mac
    · have hall : ∀ z ∈ y :: r, x.mac ≤ z.mac := fun z hz => by
        rcases List.mem_cons.1 hz with rfl | hz
        · exact hxy
        · have := h1 z hz
          simp only [leM, decide_eq_true_eq] at this
          omega
      rw [insE_head hall, insE_head (fun z hz => hall z (List.mem_filter.1 hz).1), List.filter_cons]
    · rw [insE_tail hxy, List.filter_cons, ih, List.filter_cons]
      cases hy : f y with
      | false => simp
      | true =>
        cases hf : f x with
        | false => simp
        | true => simp [insE_tail hxy]
theorem sortE_filter {f : Entry → Bool} : ∀ L : List Entry, (sortE L).filter f = sortE (L.filter f)
  | [] => rfl
  | x :: r => by
    show (insE x (sortE r)).filter f = _
    rw [insE_filter (sortE_sorted r), sortE_filter r, List.filter_cons]
    cases hf : f x with
    | false => simp
    | true => simp [sortE]
/-- what is forgotten of a port -/
theorem flush_filter {x y : Int} {l : PL} (h : TabOk x y l) (P : Int) : shortL P 0 l = l.filter fun e => !(e.2.2.port == P) := by
  unfold shortL
  have hs : ∀ e ∈ l, 1 ≤ e.2.2.sec := fun e he => (h.sec e he).1
  clear h
  induction l with
  | nil => rfl
  | cons e r ih =>
    have h1 := hs e List.mem_cons_self
    have ih := ih fun z hz => hs z (List.mem_cons_of_mem _ hz)
    by_cases hp : e.2.2.port = P
    · have h0 : (0 : Int) < e.2.2.sec := by omega
      simp [updE, shortP, hp, h0, ih]
    · have h0 : ¬ e.2.2.sec ≤ 0 := by omega
      simp [updE, shortP, hp, h0, ih]
theorem allE_flush {x y : Int} {l : PL} (h : TabOk x y l) (P : Int) : allE (shortL P 0 l) = (allE l).filter fun e => !(e.port == P) := by
  unfold allE
  rw [sortE_filter, flush_filter h, List.filter_map]
  rfl
theorem cnt_flush {x y : Int} {l : PL} (h : TabOk x y l) (P : Int) : cntP P l + (shortL P 0 l).length = l.length := by
  rw [flush_filter h, cntP]
  induction l with
  | nil => rfl
  | cons e r ih =>
    have := ih ⟨(List.nodup_cons.1 (by simpa using h.key)).2, by have := h.len; simp only [List.length_cons] at this; omega, fun z hz => h.sec z (List.mem_cons_of_mem _ hz), fun z hz => h.mac z (List.mem_cons_of_mem _ hz), fun z hz => h.port z (List.mem_cons_of_mem _ hz)⟩
    cases hp : (e.2.2.port == P) with
    | true => simp [List.filter_cons, hp]; omega
    | false => simp [List.filter_cons, hp]; omega
end Go.Proofs.Ytfncoeoaniclmaa
