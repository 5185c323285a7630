import Derived.Test.YtjemfkoamfnofaaGreatSnd
import Derived.MapKept
set_option linter.unusedVariables false
namespace Go.Proofs.YtjemfkoamfnofaaGreat
open Go Go.RowKit
section
variable {α : Type} {kk : IntKind} {cells : α → List Value}
theorem find_tab (n : Int) (c : Nat) : ∀ (l : List (Int × Nat × α)) (es : List MapEntry) (i : Nat), es.map tupM = l.map (entK kk cells) →
   (hasK l n = true ∧ ∃ j e, es[j]? = some e ∧ e.key = .int kk n ∧ (∀ z, Instr.findNow (.int kk) (.int kk n) es i = some (some (i + j, .agg (cells (getK l n z)).toArray))) ∧
     (∀ x, (es.modify j fun e => { e with key := .int kk n, val := .agg (cells x).toArray }).map tupM = (putK l n c x).map (entK kk cells)) ∧ (es.eraseIdx j).map tupM = (delK l n).map (entK kk cells)) ∨
   (hasK l n = false ∧ (∀ z, getK l n z = z) ∧ Instr.findNow (.int kk) (.int kk n) es i = some none ∧ (∀ e ∈ es, e.key ≠ .int kk n) ∧ (∀ x, putK l n c x = l ++ [(n, c, x)]) ∧ delK l n = l)
 | [], es, i, h => by
   cases es with
   | nil => exact .inr ⟨rfl, fun _ => rfl, rfl, fun e he => by (cases he), fun x => rfl, rfl⟩
   | cons e r => simp at h
 | (m, b, y) :: l, es, i, h => by
   cases es with
   | nil => simp at h
   | cons e es =>
     simp only [List.map_cons, List.cons.injEq, tupM, entK, Value.tuple.injEq, Array.mk.injEq, and_true] at h
     obtain ⟨⟨hk, hv, hbo⟩, hr⟩ := h
     by_cases hn : m = n
     · subst hn
       refine .inl ⟨by simp [hasK], 0, e, rfl, hk, fun z => ?_, fun x => ?_, ?_⟩
       · simp [Instr.findNow, hk, Instr.sameNow, getK, hv]
       · simp only [List.modify_zero_cons, List.map_cons, putK, if_true, tupM, entK, hbo]
         rw [← hr]
       · simp only [List.eraseIdx_zero, List.tail_cons, delK, if_true]
         rw [← hr]
     · have hne : (n == m) = false := by simpa using fun h => hn h.symm
       rcases find_tab n c l es (i + 1) (by rw [← hr]) with ⟨h1, j, e', h2, h3, h4, h5, h6⟩ | ⟨h1, h2, h3, h4, h5, h6⟩
       · refine .inl ⟨by simp [hasK, hn, h1], j + 1, e', by simpa using h2, h3, fun z => ?_, fun x => ?_, ?_⟩
         · simp only [Instr.findNow, hk, Instr.sameNow, if_true, hne, getK, if_neg hn, h4 z]
           simp; omega
         · simp only [List.modify_succ_cons, List.map_cons, putK, if_neg hn, h5 x, tupM, entK, hk, hv, hbo]
         · simp only [List.eraseIdx_cons_succ, List.map_cons, delK, if_neg hn, h6, tupM, entK, hk, hv, hbo]
       · refine .inr ⟨by simp [hasK, hn, h1], fun z => by simp [getK, hn, h2], ?_, ?_, fun x => by simp [putK, hn, h5], by simp [delK, hn, h6]⟩
         · simp [Instr.findNow, hk, Instr.sameNow, hne, h3]
         · intro e' he'
           rcases List.mem_cons.1 he' with rfl | he'
           · rw [hk]; intro hh; injection hh with _ hh; exact hn hh
           · exact h4 e' he'
end
section
variable {P : Program} {w : World} {mty kt et : TypeId} {kk : IntKind} {b : Nat} {es : Array MapEntry} {clk : Nat} {T : Tab} {n : Int}
theorem run_ask (hm : P.underlying mty = some (.map kt et)) (hd : P.underlying kt = some (.int kk)) (hb : w.heap[b]? = some (.map es clk)) (hk : T.kk = kk) (he : T.ents = es.toList.map tupM) {z r : Rec} (hz : (zeroValue et).run P w = .ok (.agg z.cells.toArray) w) (hg : T.get n z = some r) :
   (Instr.lookup mty (.map (some b)) (.int kk n) true).run P w = .ok (.tuple #[.agg r.cells.toArray, .bool (T.has n)]) w := by
 obtain ⟨α, cells, mk, l, h1, h2, h3, h4, h5, h6, h7⟩ := T.one
 obtain ⟨z', rfl, rfl⟩ := h5 n z r hg
 rw [hk] at h1
 have hchk : ∀ q, (Instr.checkKey q 10000 kt (.int kk n)).run P w = .ok () w := fun q => MapKept.run_checkKey hd (by simp [MapKept.IsKey]) q 9999
 rw [h2, h3]
 rcases find_tab (kk := kk) (cells := cells) n T.clk l es.toList 0 (by rw [← he, h1]) with ⟨q1, j, e, _, _, q2, _⟩ | ⟨q1, q2, q3, _⟩
 · simp [Instr.lookup, run_underlying hm, MapKept.run_getObj_map hb, hchk, MapKept.run_findKey hd (q2 z'), q1]
 · rw [h2] at hz
   simp [Instr.lookup, run_underlying hm, MapKept.run_getObj_map hb, hchk, MapKept.run_findKey hd q3, q1, q2, hz]
theorem run_put (hm : P.underlying mty = some (.map kt et)) (hd : P.underlying kt = some (.int kk)) (hb : w.heap[b]? = some (.map es clk)) (hk : T.kk = kk) (he : T.ents = es.toList.map tupM) (hcl : T.clk = clk) (hst : MapKept.Stamped es clk) {x : Rec} {Q : Tab} (hg : T.put n x = some Q) :
   ∃ (es' : Array MapEntry) (clk' : Nat), Q.kk = kk ∧ Q.all = Value.int .i64 clk' :: es'.toList.map tupM ∧ MapKept.Stamped es' clk' ∧ (Instr.mapUpdate mty (.map (some b)) (.int kk n) (.agg x.cells.toArray)).run P w = .ok () { w with heap := w.heap.setIfInBounds b (.map es' clk') } := by
 obtain ⟨α, cells, mk, l, h1, h2, h3, h4, h5, h6, h7⟩ := T.one
 obtain ⟨x', rfl, hQ, hQk, hQc⟩ := h6 n x Q hg
 rw [hk] at h1 hQ hQk
 have hchk : ∀ q, (Instr.checkKey q 10000 kt (.int kk n)).run P w = .ok () w := fun q => MapKept.run_checkKey hd (by simp [MapKept.IsKey]) q 9999
 rw [h2]
 rcases find_tab (kk := kk) (cells := cells) n T.clk l es.toList 0 (by rw [← he, h1]) with ⟨q1, j, e, hj, hje, q2, q4, _⟩ | ⟨q1, q2, q3, q4, q5, _⟩
 · have hj' : es[j]? = some e := by simpa using hj
   have hkey : ∀ e', es[j]? = some e' → ({ e' with key := .int kk n, val := .agg (cells x').toArray } : MapEntry).key = e'.key := fun e' he' => by rw [hj'] at he'; cases he'; exact hje.symm
   refine ⟨es.modify j fun e => { e with key := .int kk n, val := .agg (cells x').toArray }, clk, hQk, ?_, MapKept.stamped_modify hst _ _ (fun _ _ => rfl) (fun e' _ he' => hkey e' he'), ?_⟩
   · rw [Tab.all, hQ, hQc, ← q4 x', Array.toList_modify, tickK, q1, hcl]; rfl
   · have hq2 := q2 x'
     simp [Instr.mapUpdate, run_underlying hm, MapKept.run_getObj_map hb, hchk, MapKept.run_findKey hd hq2, hj', hje, MapKept.run_keyThatStays (d := .int kk) (k := .int kk n) (by simp [MapKept.IsKey]), MapKept.run_setObj_map _ hb, Result.andThen]
 · refine ⟨es.push { key := .int kk n, val := .agg (cells x').toArray, born := clk }, clk + 1, hQk, ?_, MapKept.stamped_push hst q4, ?_⟩
   · rw [Tab.all, hQ, hQc, q5, Array.toList_push, List.map_append, List.map_append, ← h1, he, tickK, q1, hcl]
     rfl
   · simp [Instr.mapUpdate, run_underlying hm, MapKept.run_getObj_map hb, hchk, MapKept.run_findKey hd q3, MapKept.run_setObj_map _ hb, Result.andThen]
theorem run_del (hm : P.underlying mty = some (.map kt et)) (hd : P.underlying kt = some (.int kk)) (hb : w.heap[b]? = some (.map es clk)) (hk : T.kk = kk) (he : T.ents = es.toList.map tupM) (hcl : T.clk = clk) (hst : MapKept.Stamped es clk) (kt' ty : TypeId) :
   ∃ (es' : Array MapEntry) (clk' : Nat), (T.del n).kk = kk ∧ (T.del n).all = Value.int .i64 clk' :: es'.toList.map tupM ∧ MapKept.Stamped es' clk' ∧ (Builtin.delete_ #[mty, kt'] ty #[.map (some b), .int kk n]).run P w = .ok (.tuple #[]) { w with heap := w.heap.setIfInBounds b (.map es' clk') } := by
 obtain ⟨α, cells, mk, l, h1, h2, h3, h4, h5, h6, h7⟩ := T.one
 obtain ⟨hQ, hQk, hQc⟩ := h7 n
 rw [hk] at h1 hQ hQk
 have hchk : ∀ q, (Instr.checkKey q 10000 kt (.int kk n)).run P w = .ok () w := fun q => MapKept.run_checkKey hd (by simp [MapKept.IsKey]) q 9999
 rcases find_tab (kk := kk) (cells := cells) n T.clk l es.toList 0 (by rw [← he, h1]) with ⟨q1, j, e, hj, hje, q2, _, q4⟩ | ⟨q1, q2, q3, q4, _, q5⟩
 · have hlt : j < es.size := by have := (List.getElem?_eq_some_iff.1 hj).1; simpa using this
   refine ⟨es.eraseIdxIfInBounds j, clk, hQk, ?_, MapKept.stamped_erase hst _, ?_⟩
   · rw [Tab.all, hQ, ← q4, hQc, hcl]
     unfold Array.eraseIdxIfInBounds
     rw [dif_pos hlt, Array.toList_eraseIdx]
   · have hf : ∃ v, Instr.findNow (.int kk) (.int kk n) es.toList 0 = some (some (j, v)) := by
       cases l with
       | nil => simp [hasK] at q1
       | cons p l => exact ⟨_, by simpa using q2 p.2.2⟩
     obtain ⟨v, hf⟩ := hf
     simp [Builtin.delete_, run_underlying hm, MapKept.run_getObj_map hb, hchk, MapKept.run_findKey hd hf, MapKept.run_setObj_map _ hb, Result.andThen]
 · refine ⟨es, clk, hQk, by rw [Tab.all, hQ, q5, ← h1, he, hQc, hcl], hst, ?_⟩
   simp [Builtin.delete_, run_underlying hm, MapKept.run_getObj_map hb, hchk, MapKept.run_findKey hd q3, MapKept.run_setObj_map _ hb, Result.andThen]
theorem run_mlen (hm : P.underlying mty = some (.map kt et)) (hb : w.heap[b]? = some (.map es clk)) (he : T.ents = es.toList.map tupM) (ty : TypeId) :
   (Builtin.len_ #[mty] ty #[.map (some b)]).run P w = .ok (.int .i64 T.len) w := by
 obtain ⟨α, cells, mk, l, h1, h2, h3, h4, h5, h6, h7⟩ := T.one
 have hl : T.len = es.size := by
   rw [h4]
   have := congrArg List.length (h1.symm.trans he)
   simpa using this
 simp [Builtin.len_, run_underlying hm, MapKept.run_getObj_map hb, hl, goInt]
end
theorem Tab.none_ents (k : IntKind) (z : Rec) : (Tab.none k z).all = [.int .i64 (0 : Nat)] ∧ (Tab.none k z).kk = k := by
 cases z <;> exact ⟨rfl, rfl⟩
theorem mapOf_cells (S : Stat) (E : Env) (z : Option (IntKind × Rec)) : (mapOf z).cells S E = [.tuple (mapT #[] 0)] := by
 cases z with
 | none => rfl
 | some p => simp [mapOf, SV.cells, (Tab.none_ents p.1 p.2).1, mapT]
theorem mapT_split {es : Array MapEntry} {clk : Nat} {v : Value} {l : List Value} (h : (v :: l).toArray = mapT es clk) : v = .int .i64 clk ∧ l = es.toList.map tupM := by
 unfold mapT at h
 have := congrArg Array.toList h
 simpa using this
end Go.Proofs.YtjemfkoamfnofaaGreat
