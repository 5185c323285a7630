import Derived.Test.YtjemfkoamfnofaaGreatEng
import Derived.MapKept
set_option linter.unusedVariables false
namespace Go.Proofs.YtjemfkoamfnofaaGreat
open Go Go.RowKit
def PathHolds (a : Act) (p : Path) : Prop := ∀ t b, (t, b) ∈ p → a.tmps[t]? = some (.bool b)
def SlotsOk (S : Stat) (E : Env) (s : Slots) (a : Act) : Prop :=
 ∀ d p x, s.get d = some (p, x) → (PathHolds a p → a.tmps[d]? = some (x.den S E)) ∧ (¬ PathHolds a p → a.tmps[d]? = some undef)
def FnIn (P : Program) (f : FuncId) : Prop := ∃ fn, P.funcs[f]? = some fn ∧ fn.body.isNone = false ∧ (fn.name == "runtime.NumGoroutine") = false
structure TyOk (P : Program) (t : TypeId) (d : TD) : Prop where
 info : ∃ i u, P.info? t = some i ∧ P.underlying t = some u ∧ i.size = d.size ∧ shapeOf u = d.sh
 zero : ∀ S E, (P.info? t).bind (·.zero) = some (d.zero.den S E)
 one : d.zero.one = true
 agg : d.sh.agg = d.zero.aggr
 sz : d.zero.size = d.size
theorem within_holds {a : Act} {p q : Path} (h : within q p = true) (hp : PathHolds a p) : PathHolds a q := by
 intro t b hm
 unfold within at h
 rw [List.all_eq_true] at h
 have := h _ hm
 rw [List.any_eq_true] at this
 obtain ⟨⟨t', b'⟩, hm', he⟩ := this
 simp only [Bool.and_eq_true, Nat.beq_eq, beq_iff_eq] at he
 obtain ⟨rfl, rfl⟩ := he
 exact hp _ _ hm'
theorem konst_den (S : Stat) (E : Env) (v : Value) : (konst v).den S E = v := by
 cases v <;> rfl
theorem told_den (S : Stat) (E : Env) (g : Bool) (v : Value) : (told g v).den S E = v := by
 cases g <;> simp [told, konst_den, SV.den]
theorem SV.sc_den (S : Stat) (E : Env) {x : SV} {v : Value} {g : Bool} (h : x.sc S = some (v, g)) : x.den S E = v := by
 cases x <;> simp only [SV.sc, Option.some.injEq, Prod.mk.injEq, reduceCtorEq] at h <;> first | exact h.1 | (simp only [SV.den]; exact h.1)
theorem valOf_run {s : Sem Value} {v : Value} (h : valOf s = some v) (P : Program) (w : World) : s.run P w = .ok v w := by
 cases s <;> simp only [valOf, Option.some.injEq, reduceCtorEq] at h
 subst h
 rfl
section
variable {S : Stat} {E : Env} {s : Slots} {a : Act} {p : Path}
theorem ev_ok (hs : SlotsOk S E s a) (hp : PathHolds a p) {x : Operand} {y : SV} (h : ev s p x = some y) : a.eval x = y.den S E := by
 cases x with
 | tmp t =>
   simp only [ev] at h
   split at h
   · rename_i q z hz
     cases hw : within q p with
     | true =>
       rw [hw] at h
       simp only [cond_true, Option.some.injEq] at h
       subst h
       have := (hs _ _ _ hz).1 (within_holds hw hp)
       simp [Act.eval, Array.getD_eq_getD_getElem?, this]
     | false => rw [hw] at h; cases h
   · cases h
 | const v =>
   simp only [ev, Option.some.injEq] at h
   subst h
   simp [Act.eval, konst_den]
 | func f =>
   simp only [ev, Option.some.injEq] at h
   subst h
   simp [Act.eval, SV.den, SV.cellss, SV.dens]
 | global g => simp [ev] at h
theorem evs_ok (hs : SlotsOk S E s a) (hp : PathHolds a p) : ∀ {l : List Operand} {ys : List SV}, evs s p l = some ys → l.map a.eval = SV.dens S E ys
 | [], ys, h => by
   simp only [evs, Option.some.injEq] at h
   subst h
   simp [SV.dens]
 | x :: r, ys, h => by
   simp only [evs] at h
   split at h
   · rename_i y hy
     split at h
     · rename_i zs hzs
       injection h with h
       subst h
       simp [SV.dens, ev_ok hs hp hy, evs_ok hs hp hzs]
     · cases h
   · cases h
end
def Does (P : Program) (S : Stat) (E : Env) (o : Oper) (a : Act) : Deed → Prop
 | .yield x => ∀ w, (execOp a.eval o).run P w = .ok (.value (x.den S E)) w
 | .test b x => b = true → ∀ w, (execOp a.eval o).run P w = .ok (.value (x.den S E)) w
 | .load k of n g => ∀ (w : World) (y : SV), y.aggr = g → y.size = n → y.one = true → At w (E.place k (of.val S)) (y.cells S E) → (execOp a.eval o).run P w = .ok (.value (y.den S E)) w
 | .store k of y => ∀ w w', (storeCells (E.place k (of.val S)) (y.cells S E)).run P w = .ok () w' → (execOp a.eval o).run P w = .ok .skip w'
 | .new y => ∀ w, ∃ t, (execOp a.eval o).run P w = .ok (.value (.pointer (some ⟨w.heap.size, 0, none⟩))) (w.alloc (.cells (y.cells S E).toArray t))
 | .newSlice y len => ∀ w, ∃ t, (execOp a.eval o).run P w = .ok (.value (.slice (some ⟨w.heap.size, 0, none⟩) len len)) (w.alloc (.cells (y.cells S E).toArray t))
 | .emp => ∀ w, ∃ t, (execOp a.eval o).run P w = .ok (.value (.slice (some ⟨w.heap.size, 0, none⟩) 0 0)) (w.alloc (.cells #[] t))
 | .copy b k m z => ∀ (w : World) (vs : List Value), vs.length = m * z → (0 < m → At w (E.place k 0) vs) → (∀ v ∈ vs, v.oneCell' = true) → m ≤ 134217728 → 0 < z →
   (m = 0 ∧ (execOp a.eval o).run P w = .ok (.value (match b with | none => .slice none 0 0 | some (q, u) => .slice (bif (E.cp u).2 then none else some (E.place q 0)) 0 0)) w) ∨
   (0 < m ∧ ∃ cap junk t, m ≤ cap ∧ (execOp a.eval o).run P w = .ok (.value (.slice (some ⟨w.heap.size, 0, none⟩) m cap)) (w.drew.alloc (.cells (vs ++ junk).toArray t)))
 | .join b k m z => ∀ (w : World) (vs0 vs : List Value), vs0.length = (match b with | some (_, n) => n | none => 0) * z → (match b with | some (q, n) => 0 < n → At w (E.place q 0) vs0 | none => True) → vs.length = m * z → At w (E.place k 0) vs →
   (∀ v ∈ vs0, v.oneCell' = true) → (∀ v ∈ vs, v.oneCell' = true) → (match b with | some (_, n) => n | none => 0) + m ≤ 134217728 → 0 < m → 0 < z →
   ∃ cap junk t, (match b with | some (_, n) => n | none => 0) + m ≤ cap ∧ (execOp a.eval o).run P w = .ok (.value (.slice (some ⟨w.heap.size, 0, none⟩) ((match b with | some (_, n) => n | none => 0) + m) cap)) (w.drew.alloc (.cells ((vs0 ++ vs) ++ junk).toArray t))
 | .newRow R len t => t = true → ∀ w, ∃ ty, (execOp a.eval o).run P w = .ok (.value (.slice (some ⟨w.heap.size, 0, none⟩) len len)) (w.alloc (.cells R.cells.toArray ty))
 | .newMap _ => ∀ w, (execOp a.eval o).run P w = .ok (.value (.map (some w.heap.size))) (w.alloc (.map #[] 0))
 | .insert k kk n y => ∀ (w : World) (es : Array MapEntry) (clk : Nat), w.heap[(E.ad k).block]? = some (.map es clk) → (∀ e ∈ es.toList, ∃ m, e.key = .int kk m ∧ m ≠ n) →
   (execOp a.eval o).run P w = .ok .skip { w with heap := w.heap.setIfInBounds (E.ad k).block (.map (es.push { key := .int kk n, val := y.den S E, born := clk }) (clk + 1)) }
 | .look k kk q => ∀ (w : World) (es : Array MapEntry) (clk : Nat) (l : List SV) (cd : Option Bool) (y : SV), w.heap[(E.ad k).block]? = some (.map es clk) → SV.dens S E l = es.toList.map tupM → lookK S kk q l = some (cd, y) → okC cd = true →
   (execOp a.eval o).run P w = .ok (.value (y.den S E)) w
 | .ask k kk q => ∀ (w : World) (es : Array MapEntry) (clk : Nat) (T : Tab) (y : SV), w.heap[(E.ad k).block]? = some (.map es clk) → T.kk = kk → T.ents = es.toList.map tupM → askT T q = some y →
   (execOp a.eval o).run P w = .ok (.value (y.den S E)) w
 | .amend k kk u => ∀ (w : World) (es : Array MapEntry) (clk : Nat) (T Q : Tab), w.heap[(E.ad k).block]? = some (.map es clk) → T.kk = kk → T.ents = es.toList.map tupM → T.clk = clk → MapKept.Stamped es clk → updT T u = some Q →
   ∃ (es' : Array MapEntry) (clk' : Nat) (r : Next), Q.all = Value.int .i64 clk' :: es'.toList.map tupM ∧ MapKept.Stamped es' clk' ∧ (r = Next.skip ∨ (∃ v, r = Next.value v) ∧ o.dst = none) ∧ (execOp a.eval o).run P w = .ok r { w with heap := w.heap.setIfInBounds (E.ad k).block (.map es' clk') }
 | .read _ _ _ => True
 | .act _ _ _ _ _ _ => True
 | .call f args => FnIn P f → ∀ w, (execOp a.eval o).run P w = .ok (.enter f (SV.dens S E args).toArray) w
structure CtxOk (P : Program) (c : Ctx) : Prop where
 small : ∀ t d i, c.tys t = some d → P.info? t = some i → i.bytes ≤ 1048576
 mixed : P.follows .mixedOrders = true
 tys : ∀ t d, c.tys t = some d → TyOk P t d
 eqb : ∀ t x y b, c.eqb t x y = some b → ∀ E ox oy w,
   (do eqGuard .eql t ox oy (x.den c.S E) (y.den c.S E); binOp .eql t (x.den c.S E) (y.den c.S E)).run P w = .ok (.bool b) w ∧
   (do eqGuard .neq t ox oy (x.den c.S E) (y.den c.S E); binOp .neq t (x.den c.S E) (y.den c.S E)).run P w = .ok (.bool (!b)) w
theorem run_cells_one (S : Stat) (E : Env) {y : SV} (h : y.one = true) : (y.den S E).cells = (y.cells S E).toArray := by
 cases hy : y.aggr with
 | true => rw [SV.den_agg S E y hy]; rfl
 | false =>
   rw [SV.cells_flat S E y hy]
   cases y <;> simp_all [SV.aggr, SV.den, Value.cells, SV.one]
   rename_i x
   cases x <;> simp_all [Value.oneCell', Value.cells]
theorem run_isAgg {P : Program} {t : TypeId} {u : TypeDesc} (hu : P.underlying t = some u) (w : World) : (isAgg t).run P w = .ok (shapeOf u).agg w := by
 unfold isAgg
 rw [Sem.run_bind, run_underlying hu w]
 cases u <;> simp [shapeOf, Sh.agg]
theorem run_loadVar_at {P : Program} {c : Ctx} {t : TypeId} {d : TD} (hd : TyOk P t d) {S : Stat} {E : Env} {w : World} {ad : Addr} {y : SV} (h1 : y.aggr = d.sh.agg) (h2 : y.size = d.size) (ho : y.one = true) (hat : At w ad (y.cells S E)) :
   (loadVar t ad).run P w = .ok (y.den S E) w := by
 obtain ⟨i, u, hi, hu, hs, hsh⟩ := hd.info
 unfold loadVar
 rw [Sem.run_bind, run_isAgg hu w, hsh, ← h1]
 cases hy : y.aggr with
 | true =>
   have hl := run_loadCells_list (P := P) w ad (y.cells S E) (fun j v hv => hat.cell hv (SV.one_cells S E y ho v (List.mem_of_getElem? hv)))
   have hn : (y.cells S E).length = i.size := by rw [SV.len, h2, hs]
   rw [hn] at hl
   simp [sizeOf, typeInfo, hi, hl, SV.den_agg S E y hy]
 | false =>
   have hc := SV.cells_flat S E y hy
   have := hat.cell (j := 0) (v := y.den S E) (by rw [hc]; rfl) (SV.one_cells S E y ho _ (by rw [hc]; exact List.mem_singleton.2 rfl))
   have hz : ad.add 0 = ad := by simp [Addr.add]
   rw [hz] at this
   simp [run_load, this]
theorem nthN_eq : ∀ (l : List (Nat × TypeId)) (n : Nat), nthN l n = l[n]?
 | [], _ => by simp [nthN]
 | x :: r, 0 => by simp [nthN]
 | x :: r, n + 1 => by simp [nthN, nthN_eq r n]
theorem nthS_eq : ∀ (l : List SV) (n : Nat), nthS l n = l[n]?
 | [], _ => by simp [nthS]
 | x :: r, 0 => by simp [nthS]
 | x :: r, n + 1 => by simp [nthS, nthS_eq r n]
theorem shape_struct {u : TypeDesc} {fs : List (Nat × TypeId)} (h : shapeOf u = .strct fs) : ∃ fields, u = .struct fields ∧ fields.toList.map (fun f => (f.offset, f.type)) = fs := by
 cases u <;> simp only [shapeOf, reduceCtorEq, Sh.strct.injEq] at h
 exact ⟨_, rfl, h⟩
theorem shape_slice {u : TypeDesc} {e : TypeId} (h : shapeOf u = .slice e) : u = .slice e := by
 cases u <;> simp only [shapeOf, reduceCtorEq, Sh.slice.injEq] at h
 rw [h]
theorem shape_arr {u : TypeDesc} {n : Nat} {e : TypeId} (h : shapeOf u = .arr n e) : u = .array n e := by
 cases u <;> simp only [shapeOf, reduceCtorEq, Sh.arr.injEq] at h
 rw [h.1, h.2]
theorem shape_int {u : TypeDesc} {k : IntKind} (h : shapeOf u = .int k) : u = .int k := by
 cases u <;> simp only [shapeOf, reduceCtorEq, Sh.int.injEq] at h
 rw [h]
theorem shape_map {u : TypeDesc} {k e : TypeId} (h : shapeOf u = .map k e) : u = .map k e := by
 cases u <;> simp only [shapeOf, reduceCtorEq, Sh.map.injEq] at h
 rw [h.1, h.2]
theorem shape_bool {u : TypeDesc} (h : shapeOf u = .bool) : u = .bool := by
 cases u <;> simp only [shapeOf, reduceCtorEq] at h
 rfl
theorem field_of {fields : Array Field} {fs : List (Nat × TypeId)} (h : fields.toList.map (fun f => (f.offset, f.type)) = fs) {f : Nat} {d : Nat} {ft : TypeId} (hn : nthN fs f = some (d, ft)) :
   ∃ x, fields[f]? = some x ∧ x.offset = d ∧ x.type = ft := by
 rw [nthN_eq, ← h, List.getElem?_map] at hn
 cases hx : fields.toList[f]? with
 | none => rw [hx] at hn; cases hn
 | some x =>
   rw [hx] at hn
   simp only [Option.map_some, Option.some.injEq, Prod.mk.injEq] at hn
   exact ⟨x, by simpa using hx, hn.1, hn.2⟩
theorem run_part_at {P : Program} {t : TypeId} {d : TD} (hd : TyOk P t d) {S : Stat} {E : Env} (w : World) {cs : List Value} {o : Nat} {y : SV} (h : PartOk S E cs o d.size d.sh.agg y) :
   (part t cs.toArray o).run P w = .ok (y.den S E) w := by
 obtain ⟨i, u, hi, hu, hs, hsh⟩ := hd.info
 obtain ⟨h1, h2, h3, h4⟩ := h
 unfold part
 rw [Sem.run_bind, run_isAgg hu w, hsh, ← h1]
 cases hy : y.aggr with
 | true =>
   simp only [Result.andThen_ok, if_true, Sem.run_bind, sizeOf, typeInfo, run_program, hi, Sem.run_pure, Sem.run_map, hs]
   rw [SV.den_agg S E y hy, h2]
   congr 2
   rw [← Array.toList_inj]
   simp [List.drop_take]
 | false =>
   have hc := SV.cells_flat S E y hy
   rw [h2] at hc
   have : cs[o]? = some (y.den S E) := by
     have h5 : ((cs.drop o).take d.size)[0]? = some (y.den S E) := by rw [hc]; rfl
     have h6 : 0 < d.size := by
       have := congrArg List.length hc
       simp at this
       omega
     rw [List.getElem?_take_of_lt h6, List.getElem?_drop] at h5
     simpa using h5
   simp [this]
end Go.Proofs.YtjemfkoamfnofaaGreat
