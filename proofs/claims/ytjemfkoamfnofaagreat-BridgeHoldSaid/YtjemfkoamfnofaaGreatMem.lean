import Derived.Test.YtjemfkoamfnofaaGreatRec
import Derived.Laws.Rows
import Derived.Laws.CopyRow
import Derived.Below
import Derived.MapKept
set_option linter.unusedVariables false
namespace Go.Proofs.YtjemfkoamfnofaaGreat
open Go Go.RowKit
def tupM (e : MapEntry) : Value := .tuple #[e.key, e.val, .int .i64 e.born]
def mapT (es : Array MapEntry) (clk : Nat) : Array Value := (Value.int .i64 clk :: es.toList.map tupM).toArray
def At (w : World) (a : Addr) (vs : List Value) : Prop :=
 a.spot = none ∧ ((∃ cs t fr, w.heap[a.block]? = some (.cells cs t fr) ∧ a.off + vs.length ≤ cs.size ∧ ∀ k v, vs[k]? = some v → cs[a.off + k]? = some v ∧ v.oneCell' = true) ∨
   (a.off = 0 ∧ ∃ es clk, w.heap[a.block]? = some (.map es clk) ∧ vs = [.tuple (mapT es clk)] ∧ MapKept.Stamped es clk) ∨ (vs = [] ∧ a.block < w.heap.size))
def Wr (w : World) (b : Nat) : Prop := ∃ cs t, w.heap[b]? = some (.cells cs t (0, 0))
structure Fr (w w' : World) (M : Nat → Nat → Prop) : Prop where
 os : w'.os = w.os
 tape : w'.tape = w.tape
 output : w'.output = w.output
 size : w.heap.size ≤ w'.heap.size
 blk : ∀ b o, w.heap[b]? = some o → w'.heap[b]? = some o ∨
   (∃ cs cs' t fr, o = .cells cs t fr ∧ w'.heap[b]? = some (.cells cs' t fr) ∧ cs'.size = cs.size ∧ ∀ k, ¬ M b k → cs'[k]? = cs[k]?) ∨
   (M b 0 ∧ ∃ es c es' c', o = .map es c ∧ w'.heap[b]? = some (.map es' c'))
theorem lt_of_some {w : World} {b : Nat} {o : Obj} (h : w.heap[b]? = some o) : b < w.heap.size := (Array.getElem?_eq_some_iff.1 h).1
theorem Fr.refl (w : World) (M : Nat → Nat → Prop) : Fr w w M := ⟨rfl, rfl, rfl, Nat.le_refl _, fun _ _ h => .inl h⟩
theorem Fr.trans {a b c : World} {M M' : Nat → Nat → Prop} (h : Fr a b M) (k : Fr b c M') (hm : ∀ x o, x < a.heap.size → M' x o → M x o) : Fr a c M := by
 refine ⟨k.os.trans h.os, k.tape.trans h.tape, k.output.trans h.output, Nat.le_trans h.size k.size, ?_⟩
 intro x o hx
 have hlt := lt_of_some hx
 rcases h.blk x o hx with h1 | ⟨cs, cs', t, fr, rfl, h1, hs, hc⟩ | ⟨hM, es, c0, es', c', rfl, h1⟩
 · rcases k.blk x o h1 with k1 | ⟨cs, cs', t, fr, rfl, k1, hs, hc⟩ | ⟨hM, es, c0, es', c', rfl, k1⟩
   · exact .inl k1
   · exact .inr (.inl ⟨cs, cs', t, fr, rfl, k1, hs, fun j hj => hc j (fun hm' => hj (hm _ _ hlt hm'))⟩)
   · exact .inr (.inr ⟨hm _ _ hlt hM, es, c0, es', c', rfl, k1⟩)
 · rcases k.blk x _ h1 with k1 | ⟨ds, ds', t', fr', he, k1, hs', hc'⟩ | ⟨_, es, c0, es', c', he, _⟩
   · exact .inr (.inl ⟨cs, cs', t, fr, rfl, k1, hs, hc⟩)
   · injection he with h2 h3 h4
     subst h2 h3 h4
     exact .inr (.inl ⟨cs, ds', t, fr, rfl, k1, hs'.trans hs, fun j hj => (hc' j (fun hm' => hj (hm _ _ hlt hm'))).trans (hc j hj)⟩)
   · cases he
 · rcases k.blk x _ h1 with k1 | ⟨ds, ds', t', fr', he, _⟩ | ⟨_, es2, c2, es3, c3, he, k1⟩
   · exact .inr (.inr ⟨hM, es, c0, es', c', rfl, k1⟩)
   · cases he
   · exact .inr (.inr ⟨hM, es, c0, es3, c3, rfl, k1⟩)
theorem Fr.mono {a b : World} {M M' : Nat → Nat → Prop} (h : Fr a b M) (hm : ∀ x o, x < a.heap.size → M x o → M' x o) : Fr a b M' :=
 (Fr.refl a M').trans h hm
theorem Fr.drew (w : World) (M : Nat → Nat → Prop) : Fr w w.drew M := ⟨rfl, rfl, rfl, Nat.le_refl _, fun _ _ h => .inl h⟩
theorem Fr.alloc (w : World) (o : Obj) (M : Nat → Nat → Prop) : Fr w (w.alloc o) M :=
 ⟨rfl, rfl, rfl, by simp, fun b x h => .inl (by rw [heap_alloc_old _ _ _ (lt_of_some h)]; exact h)⟩
theorem Fr.setRow {w : World} {g : Nat} {cs cs' : Array Value} {t : TypeId} {fr : Nat × Nat} (hg : w.heap[g]? = some (.cells cs t fr)) (hs : cs'.size = cs.size)
   {M : Nat → Nat → Prop} (hM : ∀ k, ¬ M g k → cs'[k]? = cs[k]?) : Fr w (w.setRow g cs') M := by
 refine ⟨rfl, rfl, rfl, by simp, fun b o h => ?_⟩
 by_cases hb : b = g
 · subst hb
   rw [hg] at h
   injection h with h
   subst h
   exact .inr (.inl ⟨cs, cs', t, fr, rfl, setRow_heap w b cs cs' t fr hg, hs, hM⟩)
 · exact .inl (by rw [setRow_other w g b cs' hb]; exact h)
theorem Fr.below {w w' : World} (h : Fr w w' (fun _ _ => False)) : Below w.heap.size w w' := by
 refine ⟨h.os, h.tape, h.output, h.size, fun k hk => ?_⟩
 obtain ⟨o, ho⟩ : ∃ o, w.heap[k]? = some o := ⟨w.heap[k], by simp [hk]⟩
 rcases h.blk k o ho with h1 | ⟨cs, cs', t, fr, rfl, h1, hs, hc⟩ | ⟨hM, _⟩
 · rw [h1, ho]
 · rw [h1, ho]
   have : cs' = cs := by
     apply Array.ext_getElem?
     intro j
     exact hc j (fun h => h)
   rw [this]
 · exact hM.elim
theorem At.lt {w : World} {a : Addr} {vs : List Value} (h : At w a vs) : a.block < w.heap.size := by
 obtain ⟨_, ⟨cs, t, fr, hb, _⟩ | ⟨_, es, clk, hb, _⟩ | ⟨_, h⟩⟩ := h
 · exact lt_of_some hb
 · exact lt_of_some hb
 · exact h
theorem At.fr {w w' : World} {a : Addr} {vs : List Value} {M : Nat → Nat → Prop} (h : At w a vs) (f : Fr w w' M) (hm : ∀ k, k < vs.length → ¬ M a.block (a.off + k)) : At w' a vs := by
 obtain ⟨hs, ⟨cs, t, fr, hb, hn, hc⟩ | ⟨h0, es, clk, hb, hv⟩ | ⟨hv, h⟩⟩ := h
 · refine ⟨hs, .inl ?_⟩
   rcases f.blk _ _ hb with h1 | ⟨ds, ds', t', fr', he, h1, hsz, hc'⟩ | ⟨_, es, c0, es', c', he, _⟩
   · exact ⟨cs, t, fr, h1, hn, hc⟩
   · injection he with h2 h3 h4
     subst h2 h3 h4
     refine ⟨ds', t, fr, h1, by omega, fun k v hv => ?_⟩
     have hk : k < vs.length := (List.getElem?_eq_some_iff.1 hv).1
     rw [hc' _ (hm k hk)]
     exact hc k v hv
   · cases he
 · refine ⟨hs, .inr (.inl ⟨h0, ?_⟩)⟩
   rcases f.blk _ _ hb with h1 | ⟨ds, ds', t', fr', he, h1, hsz, hc'⟩ | ⟨hM, _⟩
   · exact ⟨es, clk, h1, hv⟩
   · cases he
   · exact absurd (by rw [h0]; exact hM) (hm 0 (by rw [hv.1]; simp))
 · exact ⟨hs, .inr (.inr ⟨hv, Nat.lt_of_lt_of_le h f.size⟩)⟩
theorem Wr.fr {w w' : World} {b : Nat} {M : Nat → Nat → Prop} (h : Wr w b) (f : Fr w w' M) : Wr w' b := by
 obtain ⟨cs, t, hb⟩ := h
 rcases f.blk _ _ hb with h1 | ⟨ds, ds', t', fr', he, h1, hsz, hc'⟩ | ⟨_, es, c0, es', c', he, _⟩
 · exact ⟨cs, t, h1⟩
 · injection he with h2 h3 h4
   subst h2 h3 h4
   exact ⟨ds', t, h1⟩
 · cases he
theorem At.sub {w : World} {a : Addr} {vs : List Value} (h : At w a vs) (o n : Nat) (ho : o + n ≤ vs.length) : At w ⟨a.block, a.off + o, none⟩ ((vs.drop o).take n) := by
 obtain ⟨hs, ⟨cs, t, fr, hb, hn, hc⟩ | ⟨h0, es, clk, hb, hv⟩ | ⟨hv, h⟩⟩ := h
 · refine ⟨rfl, .inl ⟨cs, t, fr, hb, by simp; omega, fun k v hv => ?_⟩⟩
   have hk : k < n := by
     have := (List.getElem?_eq_some_iff.1 hv).1
     simp at this; omega
   rw [List.getElem?_take_of_lt hk, List.getElem?_drop] at hv
   have := hc _ _ hv
   exact ⟨by simpa [Nat.add_assoc] using this.1, this.2⟩
 · obtain ⟨hv, hst⟩ := hv
   subst hv
   simp only [List.length_singleton] at ho
   by_cases h1 : n = 0
   · subst h1
     exact ⟨rfl, .inr (.inr ⟨by simp, lt_of_some hb⟩)⟩
   · obtain rfl : o = 0 := by omega
     obtain rfl : n = 1 := by omega
     exact ⟨rfl, .inr (.inl ⟨h0, es, clk, hb, by simp, hst⟩)⟩
 · subst hv
   exact ⟨rfl, .inr (.inr ⟨by simp, h⟩)⟩
theorem At.cell {w : World} {a : Addr} {vs : List Value} (h : At w a vs) {j : Nat} {v : Value} (hv : vs[j]? = some v) (h1 : v.oneCell' = true) : w.cell? (a.add j) = some v := by
 obtain ⟨hs, ⟨cs, t, fr, hb, hn, hc⟩ | ⟨h0, es, clk, hb, he⟩ | ⟨he, h⟩⟩ := h
 · have hadd : a.add j = ⟨a.block, a.off + j, none⟩ := by
     unfold Addr.add
     split
     · subst_vars; cases a; simp_all
     · rfl
   rw [hadd]
   simp only [World.cell?, hb]
   exact (hc _ _ hv).1
 · obtain ⟨he, _⟩ := he
   subst he
   have hj : j = 0 := by have := (List.getElem?_eq_some_iff.1 hv).1; simp at this; exact this
   subst hj
   simp only [List.getElem?_cons_zero, Option.some.injEq] at hv
   subst hv
   cases h1
 · subst he
   simp at hv
theorem At.entries {w : World} {a : Addr} {t : Array Value} (h : At w a [.tuple t]) : a.off = 0 ∧ ∃ es clk, w.heap[a.block]? = some (.map es clk) ∧ t = mapT es clk ∧ MapKept.Stamped es clk := by
 obtain ⟨_, ⟨cs, t', fr, hb, hn, hc⟩ | ⟨h0, es, clk, hb, he⟩ | ⟨he, _⟩⟩ := h
 · have := (hc 0 _ rfl).2; cases this
 · obtain ⟨he, hst⟩ := he
   refine ⟨h0, es, clk, hb, ?_, hst⟩
   injection he with he
   injection he
 · cases he
theorem At.cells {w : World} {a : Addr} {vs : List Value} (h : At w a vs) (hw : Wr w a.block) (hp : 0 < vs.length) : a.spot = none ∧ ∃ cs t fr, w.heap[a.block]? = some (.cells cs t fr) ∧ a.off + vs.length ≤ cs.size ∧ ∀ k v, vs[k]? = some v → cs[a.off + k]? = some v ∧ v.oneCell' = true := by
 obtain ⟨hs, h | ⟨_, es, clk, hb, _⟩ | ⟨hv, _⟩⟩ := h
 · exact ⟨hs, h⟩
 · obtain ⟨cs, t, hb'⟩ := hw
   rw [hb] at hb'; cases hb'
 · subst hv; simp at hp
theorem At.alloc (w : World) (cs : List Value) (t : TypeId) (h1 : ∀ v ∈ cs, v.oneCell' = true) : At (w.alloc (.cells cs.toArray t)) ⟨w.heap.size, 0, none⟩ cs :=
 ⟨rfl, .inl ⟨cs.toArray, t, (0, 0), heap_alloc_new _ _, by simp, fun k v hv => ⟨by simpa using hv, h1 v (List.mem_of_getElem? hv)⟩⟩⟩
theorem Wr.alloc (w : World) (cs : Array Value) (t : TypeId) : Wr (w.alloc (.cells cs t)) w.heap.size := ⟨cs, t, heap_alloc_new _ _⟩
theorem At.stored {P : Program} {w : World} {a : Addr} {old : List Value} (h : At w a old) (hw : Wr w a.block) (vs : List Value) (hl : vs.length = old.length) (h1 : ∀ v ∈ vs, v.oneCell' = true) :
   ∃ w', (storeCells a vs).run P w = .ok () w' ∧ At w' a vs ∧ w'.heap.size = w.heap.size ∧ Fr w w' (fun b k => b = a.block ∧ a.off ≤ k ∧ k < a.off + old.length) := by
 obtain ⟨cs', t', hb'⟩ := hw
 obtain ⟨hs, hcase⟩ := h
 obtain ⟨cs, t, fr, hb, hn⟩ : ∃ cs t fr, w.heap[a.block]? = some (.cells cs t fr) ∧ (old = [] ∨ a.off + old.length ≤ cs.size) := by
   rcases hcase with ⟨cs, t, fr, hb, hn, _⟩ | ⟨_, es, clk, hb, _⟩ | ⟨hv, _⟩
   · exact ⟨cs, t, fr, hb, .inr hn⟩
   · rw [hb] at hb'; cases hb'
   · exact ⟨cs', t', (0, 0), hb', .inl hv⟩
 rcases hn with hn | hn
 · subst hn
   obtain rfl : vs = [] := List.length_eq_zero_iff.1 hl
   exact ⟨w, rfl, ⟨hs, .inr (.inr ⟨rfl, lt_of_some hb⟩)⟩, rfl, Fr.refl _ _⟩
 rw [hb] at hb'
 injection hb' with hb'
 injection hb' with h2 h3 h4
 subst h2 h3 h4
 have ha : a = ⟨a.block, a.off, none⟩ := by cases a; simp_all
 have hst := run_storeCells_at P a.block a.off t vs 0 cs w hb (by omega) h1
 rw [← ha] at hst
 simp only [Nat.add_zero] at hst
 refine ⟨_, hst, ⟨hs, .inl ⟨_, t, (0, 0), setRow_heap w _ cs _ t _ hb, ?_, ?_⟩⟩, by simp, ?_⟩
 · simp; omega
 · intro k v hv
   refine ⟨?_, h1 v (List.mem_of_getElem? hv)⟩
   have hk : k < vs.length := (List.getElem?_eq_some_iff.1 hv).1
   rw [List.getElem?_toArray, List.append_assoc, List.getElem?_append_right (by simp; omega)]
   simp only [List.length_take, Array.length_toList]
   rw [show a.off + k - min a.off cs.size = k from by omega, List.getElem?_append_left hk, hv]
 · refine Fr.setRow hb (by simp; omega) ?_
   intro k hk
   have hk' : k < a.off ∨ a.off + vs.length ≤ k := by
     by_cases h : k < a.off
     · exact .inl h
     · refine .inr (Nat.le_of_not_lt fun h' => hk ⟨rfl, by omega, by omega⟩)
   rw [List.getElem?_toArray, List.append_assoc]
   rcases hk' with h | h
   · rw [List.getElem?_append_left (by simp; omega), List.getElem?_take_of_lt h]; simp
   · rw [List.getElem?_append_right (by simp; omega), List.getElem?_append_right (by simp; omega), List.getElem?_drop]
     simp only [List.length_take, Array.length_toList, Array.getElem?_toList]
     congr 1; omega
end Go.Proofs.YtjemfkoamfnofaaGreat
