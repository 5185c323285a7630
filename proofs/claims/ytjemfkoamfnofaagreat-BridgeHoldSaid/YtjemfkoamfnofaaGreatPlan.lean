import Derived.Test.YtjemfkoamfnofaaGreatTabs
import Derived.Deep.AppendSrc
import Derived.Laws.MakeOwn
set_option linter.unusedVariables false
namespace Go.Proofs.YtjemfkoamfnofaaGreat
section
open Go Go.RowKit
section
variable {P : Program} {c : Ctx} {E : Env} {s : Slots} {a : Act} {p : Path} {o : Oper} {d : Deed}
theorem plan_move (hs : SlotsOk c.S E s a) (hp : PathHolds a p) {x : Operand} (ho : o.op = .move x ∨ o.op = .assign x)
   (h : (match ev s p x with | some y => some (Deed.yield y) | none => none) = some d) : Does P c.S E o a d := by
 split at h
 · rename_i y hy
   injection h with h; subst h
   intro w
   have := ev_ok hs hp hy
   rcases ho with ho | ho <;> simp [execOp, ho, this]
 · cases h
theorem pickv_ok {E : Env} {a' : Act} {cv av bv y : SV} (h : pickv cv av bv = some y) (S : Stat) :
   ∃ b, cv.den S E = .bool b ∧ y.den S E = (if b = true then av.den S E else bv.den S E) := by
 unfold pickv at h
 split at h
 · rename_i t
   injection h with h
   subst h
   refine ⟨t, rfl, ?_⟩
   cases t <;> simp
 · rename_i x
   split at h <;> (try cases h)
   · rename_i y; refine ⟨x, rfl, ?_⟩; cases x <;> simp [SV.den]
   · rename_i y; refine ⟨x, rfl, ?_⟩; cases x <;> simp [SV.den]
   · rename_i y z; refine ⟨x, rfl, ?_⟩; cases x <;> simp [SV.den]
   · rename_i y; refine ⟨x, rfl, ?_⟩; cases x <;> simp [SV.den]
   · rename_i y; refine ⟨x, rfl, ?_⟩; cases x <;> simp [SV.den]
   · rename_i y; refine ⟨x, rfl, ?_⟩; cases x <;> simp [SV.den]
   · rename_i y; refine ⟨x, rfl, ?_⟩; cases x <;> simp [SV.den]
 · cases h
theorem holds_cons {t : Nat} {b : Bool} (hp : PathHolds a p) (ht : a.tmps[t]? = some (.bool b)) : PathHolds a ((t, b) :: p) := by
 intro t' b' hm
 rcases List.mem_cons.1 hm with he | hm
 · injection he with h1 h2; subst h1 h2; exact ht
 · exact hp _ _ hm
theorem slot_eval {t : Nat} {v : Value} (h : a.eval (.tmp t) = v) (hne : v ≠ undef) : a.tmps[t]? = some v := by
 simp only [Act.eval, Array.getD_eq_getD_getElem?] at h
 cases hx : a.tmps[t]? with
 | none => rw [hx] at h; exact absurd h.symm hne
 | some x => rw [hx] at h; simp at h; rw [h]
theorem plan_pick (hs : SlotsOk c.S E s a) (hp : PathHolds a p) {t : Nat} {x y : Operand} (ho : o.op = .pick (.tmp t) x y)
   (h : (match ev s p (.tmp t) with
     | some cv => (match ev s ((t, true) :: p) x with
       | some av => (match ev s ((t, false) :: p) y with
         | some bv => (match pickv cv av bv with | some y => some (Deed.yield y) | none => none)
         | none => none)
       | none => none)
     | none => none) = some d) : Does P c.S E o a d := by
 split at h <;> (try cases h)
 rename_i cv hcv
 split at h <;> (try cases h)
 rename_i av hav
 split at h <;> (try cases h)
 rename_i bv hbv
 split at h <;> (try cases h)
 rename_i z hz
 intro w
 obtain ⟨b, hb, hy⟩ := pickv_ok (E := E) (a' := a) hz c.S
 have hc := ev_ok hs hp hcv
 rw [hb] at hc
 have ht := slot_eval hc (by simp [undef])
 cases b with
 | true =>
   have hv := ev_ok hs (holds_cons hp ht) hav
   simp [execOp, ho, hc, asBool, hv, hy]
 | false =>
   have hv := ev_ok hs (holds_cons hp ht) hbv
   simp [execOp, ho, hc, asBool, hv, hy]
theorem plan_alloc (hc : CtxOk P c) {t : TypeId} (ho : o.op = .alloc t)
   (h : (match c.tys t with | some z => some (Deed.new z.zero) | none => none) = some d) : Does P c.S E o a d := by
 split at h <;> (try cases h)
 rename_i z hz
 have hok := hc.tys _ _ hz
 intro w
 have hzero := hok.zero c.S E
 cases hi : P.info? t with
 | none => rw [hi] at hzero; cases hzero
 | some i =>
   rw [hi] at hzero
   have hzz : i.zero = some (z.zero.den c.S E) := hzero
   refine ⟨t, ?_⟩
   have hcells := run_cells_one c.S E hok.one
   simp [execOp, ho, Instr.alloc, zeroValue, typeInfo, hi, hzz, newVar, newRow, hcells]
theorem plan_box (hs : SlotsOk c.S E s a) (hp : PathHolds a p) {t : TypeId} {x : Operand} (ho : o.op = .box t x)
   (h : (match ev s p x with | some y => bif y.one then some (Deed.new y) else none | none => none) = some d) : Does P c.S E o a d := by
 split at h <;> (try cases h)
 rename_i y hy
 cases h1 : y.one with
 | false => rw [h1] at h; cases h
 | true =>
   rw [h1] at h
   injection h with h; subst h
   intro w
   refine ⟨t, ?_⟩
   simp [execOp, ho, Instr.box, newVar, newRow, ev_ok hs hp hy, run_cells_one c.S E h1]
theorem pt_den {q : SV} {k : Nat} {off : Off} (h : q.pt = some (k, off)) (S : Stat) (E : Env) : q.den S E = .pointer (some (E.place k (off.val S))) := by
 unfold SV.pt at h
 split at h
 · injection h with h; injection h with h1 h2; subst h1 h2; rfl
 · injection h with h; injection h with h1 h2; subst h1 h2; rfl
 · cases h
theorem plan_load (hc : CtxOk P c) (hs : SlotsOk c.S E s a) (hp : PathHolds a p) {t : TypeId} {x : Operand} (ho : o.op = .load t x)
   (h : (match ev s p x with
     | some q => (match q.pt with
       | some (k, off) => (match c.tys t with | some z => some (Deed.load k off z.size z.sh.agg) | none => none)
       | none => none)
     | none => none) = some d) : Does P c.S E o a d := by
 split at h <;> (try cases h)
 rename_i q hx
 split at h <;> (try cases h)
 rename_i k off hq
 split at h <;> (try cases h)
 rename_i z hz
 intro w y h1 h2 hone hat
 have hv := ev_ok hs hp hx
 rw [pt_den hq] at hv
 have hr := run_loadVar_at (P := P) (c := c) (hc.tys _ _ hz) h1 h2 hone hat
 simp [execOp, ho, Instr.loadAt, Instr.sureAddr, hv, hr]
theorem plan_store (hc : CtxOk P c) (hs : SlotsOk c.S E s a) (hp : PathHolds a p) {t : TypeId} {x y : Operand} (ho : o.op = .store t x y)
   (h : (match ev s p x with
     | some q => (match q.pt with
       | some (k, off) => (match ev s p y with
         | some y => (match c.tys t with | some z => bif Nat.beq z.size y.size && y.one then some (Deed.store k off y) else none | none => none)
         | none => none)
       | none => none)
     | none => none) = some d) : Does P c.S E o a d := by
 split at h <;> (try cases h)
 rename_i q hx
 split at h <;> (try cases h)
 rename_i k off hq
 split at h <;> (try cases h)
 rename_i yv hy
 split at h <;> (try cases h)
 rename_i z hz
 cases hb : (Nat.beq z.size yv.size && yv.one) with
 | false => rw [hb] at h; cases h
 | true =>
   rw [hb] at h
   injection h with h; subst h
   intro w w' hst
   simp only [Bool.and_eq_true, Nat.beq_eq] at hb
   obtain ⟨i, u, hi, hu, hsz, hsh⟩ := (hc.tys _ _ hz).info
   have hcells := run_cells_one c.S E hb.2
   have hlen : (yv.cells c.S E).length = i.size := by rw [SV.len, hsz, hb.1]
   have hv := ev_ok hs hp hx
   rw [pt_den hq] at hv
   simp [execOp, ho, Instr.storeAt, Instr.sureAddr, hv, ev_ok hs hp hy, storeVar, sizeOf, typeInfo, hi, hcells, hlen, hst]
theorem plan_nilCheck (hs : SlotsOk c.S E s a) (hp : PathHolds a p) {x : Operand} (ho : o.op = .nilCheck x)
   (h : (match ev s p x with
     | some (.ptr k off) => some (Deed.yield (.ptr k off))
     | some (.elt k i z off) => some (Deed.yield (.elt k i z off))
     | some (.fn (.func f) a b) => some (Deed.yield (.fn (.func f) a b))
     | _ => none) = some d) : Does P c.S E o a d := by
 split at h <;> (try cases h)
 · rename_i k off hx
   intro w
   simp [execOp, ho, ev_ok hs hp hx, SV.den]
 · rename_i k i z off hx
   intro w
   simp [execOp, ho, ev_ok hs hp hx, SV.den]
 · rename_i f l r hx
   intro w
   simp [execOp, ho, ev_ok hs hp hx, SV.den]
theorem toldE_den (x : SV) (b : Bool) (S : Stat) (E : Env) : (toldE x b).den S E = .bool b := by
 cases x <;> rfl
theorem binop_ok (hc : CtxOk P c) {op : BinOp} {t : TypeId} {x y z : SV} (h : binop c op t x y = some z) (ox oy : Operand) (w : World) :
   (do eqGuard op t ox oy (x.den c.S E) (y.den c.S E); binOp op t (x.den c.S E) (y.den c.S E)).run P w = .ok (z.den c.S E) w := by
 unfold binop at h
 split at h
 · rename_i k a g k' b hh hx hy
   rw [SV.sc_den c.S E hx, SV.sc_den c.S E hy]
   split at h <;> (try cases h)
   rename_i v hv
   rw [told_den]
   simp [eqGuard_at_int, valOf_run hv]
 · rename_i a g b hh hx hy
   rw [SV.sc_den c.S E hx, SV.sc_den c.S E hy]
   split at h
   · rename_i z1 z2 hz
     obtain ⟨i, u, hi, hu, hsz, hsh⟩ := (hc.tys _ _ hz).info
     have hu' := shape_bool hsh
     subst hu'
     split at h <;> (try cases h)
     · rw [told_den]
       simp [eqGuard_at_bool, binOp, Op.equal, Op.maxDepth, run_equalIn_bool w 9999 t a b hu]
     · rw [told_den]
       simp [eqGuard_at_bool, binOp, Op.equal, Op.maxDepth, run_equalIn_bool w 9999 t a b hu]
   · cases h
 · split at h
   · split at h <;> (try cases h)
     rename_i b hb
     rw [toldE_den]
     exact (hc.eqb _ _ _ _ hb E ox oy w).1
   · split at h <;> (try cases h)
     rename_i b hb
     rw [toldE_den]
     exact (hc.eqb _ _ _ _ hb E ox oy w).2
   · cases h
theorem divs_ok {op : BinOp} {t : TypeId} {x y : SV} {d : Deed} (h : divs c op x y = some d) (ox oy : Operand) : ∃ b z, d = .test b z ∧ (b = true → ∀ w,
   (do eqGuard op t ox oy (x.den c.S E) (y.den c.S E); binOp op t (x.den c.S E) (y.den c.S E)).run P w = .ok (z.den c.S E) w) := by
 unfold divs at h
 split at h <;> (try cases h)
 rename_i k' b
 split at h <;> (try cases h)
 rename_i k a g hx
 rw [SV.sc_den c.S E hx]
 split at h <;> (try cases h)
 · cases hk : (k == k') with
   | false => rw [hk] at h; cases h
   | true =>
     rw [hk] at h
     injection h with h; subst h
     have := beq_iff_eq.1 hk; subst this
     refine ⟨_, _, rfl, fun hb w => ?_⟩
     have hb' : ¬ b = 0 := by simpa using hb
     simp [SV.den, eqGuard_at_int, binOp, Op.intDiv, hb']
 · cases hk : (k == k') with
   | false => rw [hk] at h; cases h
   | true =>
     rw [hk] at h
     injection h with h; subst h
     have := beq_iff_eq.1 hk; subst this
     refine ⟨_, _, rfl, fun hb w => ?_⟩
     have hb' : ¬ b = 0 := by simpa using hb
     simp [SV.den, eqGuard_at_int, binOp, Op.intDiv, hb']
 · refine ⟨_, _, rfl, fun hb w => ?_⟩
   have hb' : ¬ b < 0 := by simpa using hb
   simp [SV.den, eqGuard_at_int, binOp, Op.shift, hb']
 · refine ⟨_, _, rfl, fun hb w => ?_⟩
   have hb' : ¬ b < 0 := by simpa using hb
   simp [SV.den, eqGuard_at_int, binOp, Op.shift, hb']
theorem plan_binOp (hc : CtxOk P c) (hs : SlotsOk c.S E s a) (hp : PathHolds a p) {op : BinOp} {t t' : TypeId} {x y : Operand} (ho : o.op = .binOp op t x y t')
   (h : (match ev s p x with
     | some xv => (match ev s p y with
       | some yv => (match divs c op xv yv with | some d => some d | none => (match binop c op t xv yv with | some z => some (Deed.yield z) | none => none))
       | none => none)
     | none => none) = some d) : Does P c.S E o a d := by
 split at h <;> (try cases h)
 rename_i xv hx
 split at h <;> (try cases h)
 rename_i yv hy
 split at h
 · rename_i d' hd
   injection h with h; subst h
   obtain ⟨b, z, rfl, hz⟩ := divs_ok (P := P) (t := t) (E := E) hd x y
   intro hb w
   have := hz hb w
   rw [← ev_ok hs hp hx, ← ev_ok hs hp hy] at this
   simp only [execOp, ho]
   rw [Sem.run_bind, this]
   simp
 split at h <;> (try cases h)
 rename_i z hz
 intro w
 have := binop_ok (E := E) hc hz x y w
 rw [← ev_ok hs hp hx, ← ev_ok hs hp hy] at this
 simp only [execOp, ho]
 rw [Sem.run_bind, this]
 simp
theorem plan_unOp (hs : SlotsOk c.S E s a) (hp : PathHolds a p) {op : UnOp} {t : TypeId} {x : Operand} (ho : o.op = .unOp op t x)
   (h : (match ev s p x with
     | some xv => (match xv.sc c.S with
       | some (xx, g) => (match valOf (Op.unary op xx) with | some z => some (Deed.yield (told g z)) | none => none)
       | none => none)
     | none => none) = some d) : Does P c.S E o a d := by
 split at h <;> (try cases h)
 rename_i xv hx
 split at h <;> (try cases h)
 rename_i xx g hxx
 split at h <;> (try cases h)
 rename_i z hz
 intro w
 have hv := ev_ok hs hp hx
 rw [SV.sc_den c.S E hxx] at hv
 simp only [execOp, ho, hv]
 rw [Sem.run_bind, valOf_run hz]
 simp [told_den]
theorem plan_convert (hc : CtxOk P c) (hs : SlotsOk c.S E s a) (hp : PathHolds a p) {src dst : TypeId} {x : Operand} (ho : o.op = .convert src dst x)
   (h : (match ev s p x with
     | some xv => (match xv.sc c.S with
       | some (.int k n, g) => (match c.tys dst with
         | some ⟨_, .int k', _⟩ => (match c.tys src with | some _ => some (Deed.yield (told g (.int k' (k'.wrap n)))) | none => none)
         | _ => none)
       | _ => none)
     | none => none) = some d) : Does P c.S E o a d := by
 split at h <;> (try cases h)
 rename_i xv hx
 split at h <;> (try cases h)
 rename_i k n g hxx
 split at h <;> (try cases h)
 rename_i z1 k' z2 hd
 split at h <;> (try cases h)
 rename_i z3 hsrc
 intro w
 obtain ⟨i, u, hi, hu, hsz, hsh⟩ := (hc.tys _ _ hd).info
 obtain ⟨i', u', hi', hu', hsz', hsh'⟩ := (hc.tys _ _ hsrc).info
 have := shape_int hsh
 subst this
 have hv := ev_ok hs hp hx
 rw [SV.sc_den c.S E hxx] at hv
 simp only [execOp, ho, hv]
 have hcv : (convert src dst (.int k n)).run P w = .ok (.int k' (k'.wrap n)) w := by
   unfold convert
   simp [run_underlying hu', run_underlying hu, Conv.intToInt]
 rw [Sem.run_bind, hcv]
 simp [told_den]
theorem plan_fieldAddr (hc : CtxOk P c) (hs : SlotsOk c.S E s a) (hp : PathHolds a p) {t : TypeId} {x : Operand} {f : Nat} (ho : o.op = .fieldAddr t x f)
   (h : (match ev s p x with
     | some (.ptr k off) => (match c.tys t with
       | some ⟨_, .strct fs, _⟩ => (match nthN fs f with
         | some (q, ft) => (match c.tys ft with
           | some e => bif Nat.blt 0 e.size then some (Deed.yield (.ptr k (Nat.add off q))) else none
           | none => none)
         | none => none)
       | _ => none)
     | some (.elt k j z off) => (match c.tys t with
       | some ⟨_, .strct fs, _⟩ => (match nthN fs f with
         | some (q, ft) => (match c.tys ft with
           | some e => bif Nat.blt 0 e.size then some (Deed.yield (.elt k j z (Nat.add off q))) else none
           | none => none)
         | none => none)
       | _ => none)
     | _ => none) = some d) : Does P c.S E o a d := by
 have key : ∀ (k : Nat) (m : Nat) (xv : SV) (g : Nat → SV), ev s p x = some xv → xv.den c.S E = .pointer (some (E.place k m)) → (∀ q, (g q).den c.S E = .pointer (some (E.place k (m + q)))) →
     (match c.tys t with
       | some ⟨_, .strct fs, _⟩ => (match nthN fs f with
         | some (q, ft) => (match c.tys ft with
           | some e => bif Nat.blt 0 e.size then some (Deed.yield (g q)) else none
           | none => none)
         | none => none)
       | _ => none) = some d → Does P c.S E o a d := by
   intro k m xv g hx hxv hg h
   split at h <;> (try cases h)
   rename_i z1 fs z2 ht
   split at h <;> (try cases h)
   rename_i q ft hn
   split at h <;> (try cases h)
   rename_i e he
   cases hb : Nat.blt 0 e.size with
   | false => rw [hb] at h; cases h
   | true =>
     rw [hb] at h
     injection h with h; subst h
     intro w
     obtain ⟨i, u, hi, hu, hsz, hsh⟩ := (hc.tys _ _ ht).info
     obtain ⟨fields, rfl, hf⟩ := shape_struct hsh
     obtain ⟨fx, hfx, rfl, rfl⟩ := field_of hf hn
     obtain ⟨i', u', hi', hu', hsz', hsh'⟩ := (hc.tys _ _ he).info
     have hpos : ¬ i'.size = 0 := by
       have : 0 < e.size := by simpa using hb
       omega
     have hv := ev_ok hs hp hx
     rw [hxv] at hv
     have hadd : (E.place k m).add fx.offset = E.place k (m + fx.offset) := by
       unfold Addr.add Env.place
       split
       · rename_i h0; simp [h0]
       · simp [Nat.add_assoc]
     simp [execOp, ho, hv, hg, Instr.fieldAt, run_underlying hu, hfx, Instr.sureAddr, fieldPlace, sizeOf, typeInfo, hi', hpos, hadd]
 split at h <;> (try cases h)
 · rename_i k off hx
   exact key k off _ (fun q => .ptr k (Nat.add off q)) hx rfl (fun q => rfl) h
 · rename_i k j z off hx
   refine key k (Nat.add (Nat.mul (j.int c.S).toNat z) off) _ (fun q => .elt k j z (Nat.add off q)) hx rfl (fun q => ?_) h
   simp [SV.den, Nat.add_assoc]
theorem plan_extract (hs : SlotsOk c.S E s a) (hp : PathHolds a p) {t : Operand} {i : Nat} (ho : o.op = .extract t i)
   (h : (match ev s p t with
     | some (.tup l) => (match nthS l i with | some y => some (Deed.yield y) | none => none)
     | _ => none) = some d) : Does P c.S E o a d := by
 split at h <;> (try cases h)
 rename_i l hx
 split at h <;> (try cases h)
 rename_i y hy
 intro w
 rw [nthS_eq] at hy
 have hv := ev_ok hs hp hx
 have : (SV.dens c.S E l)[i]? = some (y.den c.S E) := by rw [SV.dens_map, List.getElem?_map, hy]; rfl
 simp [execOp, ho, hv, SV.den, Instr.extract, this]
theorem plan_field (hc : CtxOk P c) (hs : SlotsOk c.S E s a) (hp : PathHolds a p) {t : TypeId} {x : Operand} {f : Nat} (ho : o.op = .field t x f)
   (h : (match ev s p x with
     | some xv => (match c.tys t with
       | some ⟨_, .strct fs, _⟩ => (match nthN fs f with
         | some (q, ft) => (match c.tys ft with
           | some e => bif xv.aggr then (match xv.get q e.size e.sh.agg with | some y => some (Deed.yield y) | none => none) else none
           | none => none)
         | none => none)
       | _ => none)
     | none => none) = some d) : Does P c.S E o a d := by
 split at h <;> (try cases h)
 rename_i xv hx
 split at h <;> (try cases h)
 rename_i z1 fs z2 ht
 split at h <;> (try cases h)
 rename_i q ft hn
 split at h <;> (try cases h)
 rename_i e he
 cases hb : xv.aggr with
 | false => rw [hb] at h; cases h
 | true =>
   rw [hb] at h
   simp only [cond_true] at h
   split at h <;> (try cases h)
   rename_i y hy
   intro w
   obtain ⟨i, u, hi, hu, hsz, hsh⟩ := (hc.tys _ _ ht).info
   obtain ⟨fields, rfl, hf⟩ := shape_struct hsh
   obtain ⟨fx, hfx, rfl, rfl⟩ := field_of hf hn
   have hv := ev_ok hs hp hx
   rw [SV.den_agg c.S E xv hb] at hv
   have hpt := run_part_at (hc.tys _ _ he) w (SV.get_ok c.S E _ _ _ _ _ hy)
   simp [execOp, ho, hv, Instr.field, run_underlying hu, hfx, asAgg, hpt]
theorem run_indexAt_sl {t e : TypeId} {u : TypeDesc} (hu : P.underlying t = some (.slice e)) {i : TypeInfo} (hi : P.info? e = some i) (ad : Addr) (len cap : Nat) (k : IntKind) (m : Int) (h0 : 0 ≤ m) (h1 : m < len) (w : World) :
   (Instr.indexAt t (.slice (some ad) len cap) (.int k m)).run P w = .ok (.pointer (some (ad.add (m.toNat * i.size)))) w := by
 simp [Instr.indexAt, asIntOf, run_underlying hu, h0, h1, sizeOf, typeInfo, hi]
theorem run_indexAt_ar {t e : TypeId} {n : Nat} (hu : P.underlying t = some (.array n e)) {i : TypeInfo} (hi : P.info? e = some i) (ad : Addr) (k : IntKind) (m : Int) (h0 : 0 ≤ m) (h1 : m < n) (w : World) :
   (Instr.indexAt t (.pointer (some ad)) (.int k m)).run P w = .ok (.pointer (some (ad.add (m.toNat * i.size)))) w := by
 simp [Instr.indexAt, asIntOf, run_underlying hu, Instr.sureAddr, h0, h1, sizeOf, typeInfo, hi]
theorem place_add (E : Env) (k o n : Nat) : (E.place k o).add n = E.place k (o + n) := by
 unfold Addr.add Env.place
 split
 · rename_i h0; simp [h0]
 · simp [Nat.add_assoc]
def WinOk (S : Stat) (win : List (Nat × Nat × Nat × Nat)) (E : Env) : Prop := ∀ n j k z, (n, j, k, z) ∈ win → ∃ ad len cap, S.sl n = (some ad, len, cap) ∧ 0 ≤ S.ix j ∧ S.ix j < len ∧ ad.add ((S.ix j).toNat * z) = E.place k 0
theorem winOf_mem : ∀ {l : List (Nat × Nat × Nat × Nat)} {n j k z : Nat}, winOf l n j = some (k, z) → (n, j, k, z) ∈ l
 | [], _, _, _, _, h => by simp [winOf] at h
 | (n', j', c', z') :: r, n, j, k, z, h => by
   unfold winOf at h
   cases hb : (Nat.beq n' n && Nat.beq j' j) with
   | true =>
     rw [hb] at h
     simp only [cond_true, Option.some.injEq, Prod.mk.injEq] at h
     simp only [Bool.and_eq_true, Nat.beq_eq] at hb
     obtain ⟨rfl, rfl⟩ := hb
     obtain ⟨rfl, rfl⟩ := h
     exact List.mem_cons_self
   | false => rw [hb] at h; exact List.mem_cons_of_mem _ (winOf_mem h)
theorem plan_indexAddr (hc : CtxOk P c) (hw : WinOk c.S c.win E) (hs : SlotsOk c.S E s a) (hp : PathHolds a p) {t : TypeId} {x i : Operand} (ho : o.op = .indexAddr t x i)
   (h : plan0 c s p o = some d) : Does P c.S E o a d := by
 simp only [plan0, ho] at h
 split at h <;> (try cases h)
 · rename_i n hx
   split at h <;> (try cases h)
   rename_i j hi
   split at h <;> (try cases h)
   rename_i k z hwin
   split at h <;> (try cases h)
   rename_i z1 e z2 ht
   split at h <;> (try cases h)
   rename_i d' he
   cases hb : Nat.beq d'.size z with
   | false => rw [hb] at h; cases h
   | true =>
     rw [hb] at h
     injection h with h; subst h
     intro w
     obtain ⟨i1, u, hi1, hu, hsz, hsh⟩ := (hc.tys _ _ ht).info
     have := shape_slice hsh; subst this
     obtain ⟨i2, u2, hi2, hu2, hsz2, hsh2⟩ := (hc.tys _ _ he).info
     obtain ⟨ad, len, cap, hsl, h0, h1, hpl⟩ := hw _ _ _ _ (winOf_mem hwin)
     have hv := ev_ok hs hp hx
     have hvi := ev_ok hs hp hi
     simp only [SV.den, hsl] at hv hvi
     have hbz : d'.size = z := Nat.eq_of_beq_eq_true hb
     simp [execOp, ho, hv, hvi, run_indexAt_sl (u := u2) hu hi2 ad len cap .i64 _ h0 h1, SV.den, hsz2, hbz, hpl]
 · rename_i k len uu qq hx
   split at h <;> (try cases h)
   rename_i q hi
   split at h <;> (try cases h)
   rename_i j hq
   split at h <;> (try cases h)
   rename_i z1 e z2 ht
   split at h <;> (try cases h)
   rename_i d' he
   intro hb w
   simp only [Bool.and_eq_true, decide_eq_true_eq] at hb
   obtain ⟨h0, h1⟩ := hb
   obtain ⟨i1, u, hi1, hu, hsz, hsh⟩ := (hc.tys _ _ ht).info
   have := shape_slice hsh; subst this
   obtain ⟨i2, u2, hi2, hu2, hsz2, hsh2⟩ := (hc.tys _ _ he).info
   have hv := ev_ok hs hp hx
   have hvi := ev_ok hs hp hi
   have hne : Nat.beq len 0 = false := by
     cases hb : Nat.beq len 0 with
     | false => rfl
     | true => have := Nat.eq_of_beq_eq_true hb; subst this; simp at h1; omega
   obtain ⟨kk, hkk⟩ : ∃ kk, q.den c.S E = .int kk (j.int c.S) := by
     unfold SV.idx at hq
     split at hq
     · injection hq with hq; subst hq; exact ⟨.i64, rfl⟩
     · injection hq with hq; subst hq; exact ⟨_, rfl⟩
     · injection hq with hq; subst hq; exact ⟨_, rfl⟩
     · cases hq
   rw [hkk] at hvi
   simp only [SV.den, hne, Bool.and_false, cond_false] at hv
   have hr := run_indexAt_sl (P := P) (u := u2) hu hi2 (E.place k 0) len (bif qq then len else Nat.max len (E.cp uu).1) kk (j.int c.S) h0 h1 w
   simp only [execOp, ho, hv, hvi]
   rw [Sem.run_bind, hr]
   simp [SV.den, hsz2, place_add]
 · rename_i k off len cap hx
   split at h <;> (try cases h)
   rename_i kk m hi
   split at h <;> (try cases h)
   rename_i z1 e z2 ht
   split at h <;> (try cases h)
   rename_i d' he
   cases hb : Nat.blt m len with
   | false => rw [hb] at h; cases h
   | true =>
     rw [hb] at h
     injection h with h; subst h
     intro w
     obtain ⟨i1, u, hi1, hu, hsz, hsh⟩ := (hc.tys _ _ ht).info
     have := shape_slice hsh; subst this
     obtain ⟨i2, u2, hi2, hu2, hsz2, hsh2⟩ := (hc.tys _ _ he).info
     have hv := ev_ok hs hp hx
     have hvi := ev_ok hs hp hi
     simp only [SV.den] at hv hvi
     have hlt : m < len := by simpa using hb
     have hr := run_indexAt_sl (P := P) (u := u2) hu hi2 (E.place k off) len cap kk (.ofNat m) (Int.natCast_nonneg m) (Int.ofNat_lt.2 hlt) w
     simp only [execOp, ho, hv, hvi]
     rw [Sem.run_bind, hr]
     simp [SV.den, hsz2, place_add]
 · rename_i k off len uu hx
   split at h <;> (try cases h)
   rename_i kk m hi
   split at h <;> (try cases h)
   rename_i z1 e z2 ht
   split at h <;> (try cases h)
   rename_i d' he
   cases hb : Nat.blt m len with
   | false => rw [hb] at h; cases h
   | true =>
     rw [hb] at h
     injection h with h; subst h
     intro w
     obtain ⟨i1, u, hi1, hu, hsz, hsh⟩ := (hc.tys _ _ ht).info
     have := shape_slice hsh; subst this
     obtain ⟨i2, u2, hi2, hu2, hsz2, hsh2⟩ := (hc.tys _ _ he).info
     have hv := ev_ok hs hp hx
     have hvi := ev_ok hs hp hi
     simp only [SV.den] at hv hvi
     have hlt : m < len := by simpa using hb
     have hr := run_indexAt_sl (P := P) (u := u2) hu hi2 (E.place k off) len (Nat.max len (E.cp uu).1) kk (.ofNat m) (Int.natCast_nonneg m) (Int.ofNat_lt.2 hlt) w
     simp only [execOp, ho, hv, hvi]
     rw [Sem.run_bind, hr]
     simp [SV.den, hsz2, place_add]
 · rename_i k off hx
   split at h <;> (try cases h)
   rename_i kk m hi
   split at h <;> (try cases h)
   rename_i z1 len e z2 ht
   split at h <;> (try cases h)
   rename_i d' he
   cases hb : Nat.blt m len with
   | false => rw [hb] at h; cases h
   | true =>
     rw [hb] at h
     injection h with h; subst h
     intro w
     obtain ⟨i1, u, hi1, hu, hsz, hsh⟩ := (hc.tys _ _ ht).info
     have := shape_arr hsh; subst this
     obtain ⟨i2, u2, hi2, hu2, hsz2, hsh2⟩ := (hc.tys _ _ he).info
     have hv := ev_ok hs hp hx
     have hvi := ev_ok hs hp hi
     simp only [SV.den] at hv hvi
     have hlt : m < len := by simpa using hb
     have hr := run_indexAt_ar (P := P) hu hi2 (E.place k off) kk (.ofNat m) (Int.natCast_nonneg m) (Int.ofNat_lt.2 hlt) w
     simp only [execOp, ho, hv, hvi]
     rw [Sem.run_bind, hr]
     simp [SV.den, hsz2, place_add]
end
end
section
open Go Go.RowKit
section
variable {P : Program} {c : Ctx} {E : Env} {s : Slots} {a : Act} {p : Path} {o : Oper} {d : Deed}
theorem fold_set (vs : List Value) : ∀ (cs : Array Value) (off : Nat), off + vs.length ≤ cs.size →
   ((vs.zipIdx off).foldl (fun (cs : Array Value) (x : Value × Nat) => cs.setIfInBounds x.2 x.1) cs).toList = splice cs.toList off vs := by
 induction vs with
 | nil => intro cs off h; simp [splice]
 | cons v r ih =>
   intro cs off h
   have hlen : off + (r.length + 1) ≤ cs.size := by simpa using h
   simp only [List.zipIdx_cons, List.foldl_cons]
   rw [ih _ _ (by simp; omega)]
   unfold splice
   rw [Array.toList_setIfInBounds]
   have e := list_seg_step cs.toList off v r (by simpa using hlen)
   simp only [List.append_assoc] at e
   simpa [Nat.add_assoc, Nat.add_comm 1] using e
theorem fold_set' (vs : Array Value) (cs : Array Value) (off : Nat) (h : off + vs.size ≤ cs.size) :
   (vs.zipIdx.foldl (fun (cs : Array Value) (x : Value × Nat) => cs.setIfInBounds (off + x.2) x.1) cs) = (splice cs.toList off vs.toList).toArray := by
 have key : ∀ (l : List Value) (k : Nat) (cs : Array Value),
     (l.zipIdx k).foldl (fun (cs : Array Value) (x : Value × Nat) => cs.setIfInBounds (off + x.2) x.1) cs = (l.zipIdx (off + k)).foldl (fun (cs : Array Value) (x : Value × Nat) => cs.setIfInBounds x.2 x.1) cs := by
   intro l
   induction l with
   | nil => intro k cs; rfl
   | cons v r ih =>
     intro k cs
     simp only [List.zipIdx_cons, List.foldl_cons]
     rw [ih (k + 1)]
     rfl
 rw [← Array.foldl_toList, Array.toList_zipIdx, key vs.toList 0 cs, Nat.add_zero, ← fold_set vs.toList cs off (by simpa using h)]
theorem evZ_ok (hs : SlotsOk c.S E s a) (hp : PathHolds a p) {z : SV} {x : Operand} {y : SV} (h : evZ c s p z x = some y) : a.eval x = y.den c.S E := by
 unfold evZ at h
 split at h
 · split at h
   · rename_i j hj
     injection h with h; subst h
     have := ev_ok hs hp hj
     simpa [SV.den] using this
   · exact ev_ok hs hp h
 · exact ev_ok hs hp h
theorem fills_ok (hc : CtxOk P c) (hs : SlotsOk c.S E s a) (hp : PathHolds a p) {fields : Array Field} {fs : List (Nat × TypeId)} (hf : fields.toList.map (fun f => (f.offset, f.type)) = fs)
   {places : Array (Nat × Nat)} (hpl : ∀ (i : Nat) (x : Field), fields[i]? = some x → ∀ z, c.tys x.type = some z → places[i]? = some (x.offset, z.size)) :
   ∀ (l : List (Nat × Operand)) (z y : SV), fills c fs s p l z = some y →
     Instr.fill (places[·]?) (z.cells c.S E).toArray (l.map fun x => (x.1, a.eval x.2)) = some (y.cells c.S E).toArray ∧ y.size = z.size
 | [], z, y, h => by
   simp only [fills, Option.some.injEq] at h
   subst h
   simp [Instr.fill]
 | (i, x) :: r, z, y, h => by
   unfold fills at h
   split at h <;> (try cases h)
   rename_i off ft hn
   split at h <;> (try cases h)
   rename_i v hv
   split at h <;> (try cases h)
   rename_i e he
   cases hb : (Nat.beq e.size v.size && v.one) with
   | false => rw [hb] at h; cases h
   | true =>
     rw [hb] at h
     simp only [cond_true] at h
     split at h <;> (try cases h)
     rename_i z' hz'
     obtain ⟨fx, hfx, rfl, rfl⟩ := field_of hf hn
     simp only [Bool.and_eq_true, Nat.beq_eq] at hb
     obtain ⟨⟨h1, h2⟩, h3⟩ := SV.put_ok c.S E hz'
     obtain ⟨ih, ih2⟩ := fills_ok hc hs hp hf hpl r z' y h
     have hcells := run_cells_one c.S E hb.2
     have hval := evZ_ok hs hp hv
     have hlen : (v.cells c.S E).length = e.size := by rw [SV.len, hb.1]
     have hzl : (z.cells c.S E).length = z.size := SV.len c.S E z
     refine ⟨?_, ih2.trans h3⟩
     simp only [List.map_cons, Instr.fill, hpl _ _ hfx _ he, hval, hcells, List.size_toArray, hlen]
     rw [if_neg (by simp; omega), fold_set' _ _ _ (by simp; omega)]
     rw [← h1]
     exact ih
theorem run_places (hc : CtxOk P c) {fields : Array Field} (w : World) (h : ∀ f ∈ fields.toList, (c.tys f.type).isSome = true) :
   ∃ places : Array (Nat × Nat), (fields.mapM fun f => do pure (f.offset, ← sizeOf f.type) : Sem (Array (Nat × Nat))).run P w = .ok places w ∧
     ∀ (i : Nat) (x : Field), fields[i]? = some x → ∀ z, c.tys x.type = some z → places[i]? = some (x.offset, z.size) := by
 have key : ∀ (l : List Field), (∀ f ∈ l, (c.tys f.type).isSome = true) → ∃ pl : List (Nat × Nat), (l.mapM fun f => do pure (f.offset, ← sizeOf f.type) : Sem (List (Nat × Nat))).run P w = .ok pl w ∧
     ∀ (i : Nat) (x : Field), l[i]? = some x → ∀ z, c.tys x.type = some z → pl[i]? = some (x.offset, z.size) := by
   intro l
   induction l with
   | nil => intro _; exact ⟨[], by simp, fun i x hx => by simp at hx⟩
   | cons f r ih =>
     intro hall
     obtain ⟨pl, hpl, hat⟩ := ih (fun g hg => hall g (List.mem_cons_of_mem _ hg))
     have hf := hall f List.mem_cons_self
     obtain ⟨e, he⟩ := Option.isSome_iff_exists.1 hf
     obtain ⟨i0, u, hi, hu, hsz, hsh⟩ := (hc.tys _ _ he).info
     refine ⟨(f.offset, e.size) :: pl, ?_, ?_⟩
     · simp only [List.mapM_cons, Sem.run_bind, sizeOf, typeInfo, run_program, Result.andThen_ok, hi, Sem.run_pure, hsz]
       simp only [sizeOf, typeInfo] at hpl
       rw [hpl]
       simp
     · intro i x hx z hz
       cases i with
       | zero =>
         simp only [List.getElem?_cons_zero, Option.some.injEq] at hx
         subst hx
         rw [he] at hz
         injection hz with hz
         subst hz
         rfl
       | succ i => simpa using hat i x (by simpa using hx) z hz
 obtain ⟨pl, hpl, hat⟩ := key fields.toList h
 refine ⟨pl.toArray, ?_, fun i x hx z hz => by simpa using hat i x (by simpa using hx) z hz⟩
 rw [Array.mapM_eq_mapM_toList, Sem.run_map, hpl]
 rfl
theorem dens_append (S : Stat) (E : Env) (x y : List SV) : SV.dens S E (x ++ y) = SV.dens S E x ++ SV.dens S E y := by simp [SV.dens_map]
theorem fillsAt_ok (hs : SlotsOk c.S E s a) (hp : PathHolds a p) {e : TypeId} {z : TD} :
   ∀ (l : List (Nat × Operand)) (x y : SV), fillsAt c e z s p l x = some y →
     Instr.fill (fun i => some (i * z.size, z.size)) (x.cells c.S E).toArray (l.map fun x => (x.1, a.eval x.2)) = some (y.cells c.S E).toArray
 | [], x, y, h => by
   simp only [fillsAt, Option.some.injEq] at h
   subst h
   simp [Instr.fill]
 | (i, q) :: r, x, y, h => by
   unfold fillsAt at h
   split at h <;> (try cases h)
   rename_i v hv
   cases hb : (Nat.beq z.size v.size && v.one) with
   | false => rw [hb] at h; cases h
   | true =>
     rw [hb] at h
     simp only [cond_true] at h
     split at h <;> (try cases h)
     rename_i x' hx'
     simp only [Bool.and_eq_true, Nat.beq_eq] at hb
     obtain ⟨⟨h1, h2⟩, h3⟩ := SV.put_ok c.S E hx'
     have ih := fillsAt_ok hs hp r x' y h
     have hcells := run_cells_one c.S E hb.2
     have hval := ev_ok hs hp hv
     have hlen : (v.cells c.S E).length = z.size := by rw [SV.len, hb.1]
     have h2' : i * z.size + v.size ≤ (x.cells c.S E).length := h2
     have h1' : x'.cells c.S E = splice (x.cells c.S E) (i * z.size) (v.cells c.S E) := h1
     simp only [List.map_cons, Instr.fill, hval, hcells, List.size_toArray, hlen]
     rw [if_neg (by simp; omega), fold_set' _ _ _ (by simp; omega)]
     rw [← h1']
     exact ih
theorem plan_build (hc : CtxOk P c) (hs : SlotsOk c.S E s a) (hp : PathHolds a p) {t : TypeId} {parts : Array (Nat × Operand)} (ho : o.op = .build t parts)
   (h : plan0 c s p o = some d) (hall : ∀ z1 fs z2, c.tys t = some ⟨z1, .strct fs, z2⟩ → (fs.all fun f => (c.tys f.2).isSome) = true) : Does P c.S E o a d := by
 simp only [plan0, ho] at h
 split at h <;> (try cases h)
 · rename_i z1 fs z ht
   split at h <;> (try cases h)
   rename_i y hy
   cases hb : y.aggr with
   | false => rw [hb] at h; cases h
   | true =>
     rw [hb] at h
     injection h with h; subst h
     intro w
     have hok := hc.tys _ _ ht
     obtain ⟨i, u, hi, hu, hsz, hsh⟩ := hok.info
     obtain ⟨fields, rfl, hf⟩ := shape_struct hsh
     have hzero := hok.zero c.S E
     rw [hi] at hzero
     have hzz : i.zero = some (z.den c.S E) := hzero
     have hfall : ∀ f ∈ fields.toList, (c.tys f.type).isSome = true := by
       intro f hf'
       have := hall _ _ _ ht
       rw [List.all_eq_true] at this
       refine this (f.offset, f.type) ?_
       rw [← hf]
       exact List.mem_map.2 ⟨f, hf', rfl⟩
     obtain ⟨places, hrun, hat⟩ := run_places hc w hfall
     obtain ⟨hfill, _⟩ := fills_ok hc hs hp hf hat parts.toList z y hy
     have hcells := run_cells_one c.S E hok.one
     have hparts : (parts.map fun x => (x.1, a.eval x.2)).toList = parts.toList.map fun x => (x.1, a.eval x.2) := by simp
     rw [SV.den_agg c.S E y hb]
     simp only [execOp, ho, Instr.build, zeroValue, Sem.run_bind, typeInfo, run_program, hi, Result.andThen_ok, hzz, Sem.run_pure, run_underlying hu]
     simp only [sizeOf, typeInfo] at hrun
     simp only [sizeOf, typeInfo, hrun, Result.andThen_ok, hcells, hparts, hfill, Sem.run_pure]
 · rename_i z1 n e z ht
   split at h <;> (try cases h)
   rename_i d' he
   split at h <;> (try cases h)
   rename_i y hy
   cases hb : y.aggr with
   | false => rw [hb] at h; cases h
   | true =>
     rw [hb] at h
     injection h with h; subst h
     intro w
     have hok := hc.tys _ _ ht
     obtain ⟨i, u, hi, hu, hsz, hsh⟩ := hok.info
     have := shape_arr hsh; subst this
     have hzero := hok.zero c.S E
     rw [hi] at hzero
     have hzz : i.zero = some (z.den c.S E) := hzero
     obtain ⟨i2, u2, hi2, hu2, hsz2, hsh2⟩ := (hc.tys _ _ he).info
     have hfill := fillsAt_ok hs hp parts.toList z y hy
     have hcells := run_cells_one c.S E hok.one
     have hparts : (parts.map fun x => (x.1, a.eval x.2)).toList = parts.toList.map fun x => (x.1, a.eval x.2) := by simp
     rw [SV.den_agg c.S E y hb]
     simp only [execOp, ho, Instr.build, zeroValue, Sem.run_bind, typeInfo, run_program, hi, Result.andThen_ok, hzz, Sem.run_pure, run_underlying hu, sizeOf, hi2, hsz2, hcells, hparts, hfill]
theorem arr_map {α β : Type} {f : α → β} {x : Array α} {l : List β} (h : x.toList.map f = l) : x.map f = l.toArray := by
 rw [← Array.toList_inj, Array.toList_map, h]
theorem plan_makeFunc (hs : SlotsOk c.S E s a) (hp : PathHolds a p) {fn : Fn} {first cap : Array Operand} (ho : o.op = .makeFunc fn first cap)
   (h : plan0 c s p o = some d) : Does P c.S E o a d := by
 simp only [plan0, ho] at h
 split at h <;> (try cases h)
 rename_i x hx
 split at h <;> (try cases h)
 rename_i y hy
 intro w
 have h1 : first.map a.eval = (SV.dens c.S E x).toArray := arr_map (evs_ok hs hp hx)
 have h2 : cap.map a.eval = (SV.dens c.S E y).toArray := arr_map (evs_ok hs hp hy)
 simp [execOp, ho, Instr.makeFunc, h1, h2, SV.den]
theorem repl_cells (S : Stat) (E : Env) (z : SV) (hz : 0 < z.size) : ∀ len : Nat, SV.cellss S E (repl len z) = (List.range (len * z.size)).map fun i => (z.cells S E)[i % z.size]!
 | 0 => by simp [repl, SV.cellss]
 | n + 1 => by
   have hl := SV.len S E z
   rw [repl, SV.cellss, repl_cells S E z hz n, show (n + 1) * z.size = z.size + n * z.size from by rw [Nat.add_mul, Nat.one_mul, Nat.add_comm], List.range_add, List.map_append, List.map_map]
   congr 1
   · apply List.ext_getElem?
     intro i
     by_cases hi : i < z.size
     · rw [List.getElem?_map, List.getElem?_range hi]
       simp only [Option.map_some, Nat.mod_eq_of_lt hi]
       rw [List.getElem!_eq_getElem?_getD, List.getElem?_eq_getElem (by omega)]
       rfl
     · rw [List.getElem?_eq_none (by omega), List.getElem?_eq_none (by simp; omega)]
   · apply List.map_congr_left
     intro i _
     simp only [Function.comp, Nat.add_mod_left]
theorem plan_buildSlice (hc : CtxOk P c) (hs : SlotsOk c.S E s a) (hp : PathHolds a p) {t : TypeId} {len : Nat} {parts : Array (Nat × Operand)} (ho : o.op = .buildSlice t len parts)
   (h : plan0 c s p o = some d) : Does P c.S E o a d := by
 simp only [plan0, ho] at h
 split at h <;> (try cases h)
 rename_i z1 e z2 ht
 split at h <;> (try cases h)
 rename_i z hz
 cases hb0 : (Nat.beq len 0 && parts.toList.isEmpty) with
 | true =>
   rw [hb0] at h
   injection h with h; subst h
   simp only [Bool.and_eq_true, Nat.beq_eq, List.isEmpty_iff] at hb0
   obtain ⟨h0, hp0⟩ := hb0
   have hparts : parts = #[] := by rw [← Array.toList_inj]; simpa using hp0
   subst h0 hparts
   intro w
   obtain ⟨i1, u, hi1, hu, hsz, hsh⟩ := (hc.tys _ _ ht).info
   have := shape_slice hsh; subst this
   have hok := hc.tys _ _ hz
   obtain ⟨i2, u2, hi2, hu2, hsz2, hsh2⟩ := hok.info
   have hzero := hok.zero c.S E
   rw [hi2] at hzero
   have hzz : i2.zero = some (z.zero.den c.S E) := hzero
   have h0 : ∀ (f : Nat → Value), Array.map f (Array.range 0) = #[] := fun f => Array.eq_empty_of_size_eq_zero (by simp)
   refine ⟨e, ?_⟩
   simp [execOp, ho, Instr.buildSlice, run_underlying hu, sizeOf, typeInfo, hi2, zeroValue, hzz, newRow, run_newObj, Instr.fill, Sem.run_map, h0]
 | false =>
 rw [hb0] at h
 simp only [cond_false] at h
 cases hb : (Nat.ble (Nat.mul len z.size) 16777216 && Nat.blt 0 (Nat.mul len z.size)) with
 | false => rw [hb] at h; cases h
 | true =>
   rw [hb] at h
   simp only [cond_true] at h
   split at h <;> (try cases h)
   rename_i y hy
   cases hone : y.one with
   | false => rw [hone] at h; cases h
   | true =>
     rw [hone] at h
     injection h with h; subst h
     intro w
     obtain ⟨i1, u, hi1, hu, hsz, hsh⟩ := (hc.tys _ _ ht).info
     have := shape_slice hsh; subst this
     have hok := hc.tys _ _ hz
     obtain ⟨i2, u2, hi2, hu2, hsz2, hsh2⟩ := hok.info
     have hzero := hok.zero c.S E
     rw [hi2] at hzero
     have hzz : i2.zero = some (z.zero.den c.S E) := hzero
     simp only [Bool.and_eq_true] at hb
     have hb1 : len * z.size ≤ 16777216 := by simpa using hb.1
     have hb2 : 0 < len * z.size := by simpa using hb.2
     have hzpos : 0 < z.size := by
       rcases Nat.eq_zero_or_pos z.size with h0 | h0
       · rw [h0] at hb2; simp at hb2
       · exact h0
     have hcells := run_cells_one c.S E hok.one
     have hzs : (z.zero.cells c.S E).length = z.size := by rw [SV.len, hok.sz]
     have hfill := fillsAt_ok hs hp parts.toList _ y hy
     have hparts : (parts.map fun x => (x.1, a.eval x.2)).toList = parts.toList.map fun x => (x.1, a.eval x.2) := by simp
     have hbase : (Array.range (len * z.size)).map (fun i => (z.zero.cells c.S E).toArray[i % (z.zero.cells c.S E).toArray.size]!) = (SV.cells c.S E (.agg (repl len z.zero))).toArray := by
       rw [← Array.toList_inj]
       simp only [SV.cells, Array.toList_map, Array.toList_range]
       rw [repl_cells c.S E z.zero (by rw [hok.sz]; exact hzpos) len, hok.sz]
       simp only [List.size_toArray, hzs]
       apply List.map_congr_left
       intro i _
       simp
     refine ⟨e, ?_⟩
     simp only [execOp, ho, Instr.buildSlice, Sem.run_bind, run_underlying hu, Result.andThen_ok, sizeOf, typeInfo, run_program, hi2, Sem.run_pure, hsz2]
     rw [if_neg (by omega), if_neg (by omega)]
     simp only [Sem.run_bind, zeroValue, typeInfo, run_program, Result.andThen_ok, hi2, Sem.run_pure, hzz, hcells, hbase, hparts, hfill, newRow, run_newObj]
     rfl
theorem plan_index (hc : CtxOk P c) (hs : SlotsOk c.S E s a) (hp : PathHolds a p) {t : TypeId} {x i : Operand} (ho : o.op = .index t x i)
   (h : plan0 c s p o = some d) : Does P c.S E o a d := by
 simp only [plan0, ho] at h
 split at h <;> (try cases h)
 rename_i l hx
 split at h <;> (try cases h)
 rename_i kk m hi
 split at h <;> (try cases h)
 rename_i z1 len e z2 ht
 split at h <;> (try cases h)
 rename_i d' he
 cases hb : Nat.blt m len with
 | false => rw [hb] at h; cases h
 | true =>
   rw [hb] at h
   simp only [cond_true] at h
   split at h <;> (try cases h)
   rename_i y hy
   intro w
   obtain ⟨i1, u, hi1, hu, hsz, hsh⟩ := (hc.tys _ _ ht).info
   have := shape_arr hsh; subst this
   obtain ⟨i2, u2, hi2, hu2, hsz2, hsh2⟩ := (hc.tys _ _ he).info
   have hv := ev_ok hs hp hx
   have hvi := ev_ok hs hp hi
   simp only [SV.den] at hv hvi
   have hlt : m < len := by simpa using hb
   have hpt := run_part_at (hc.tys _ _ he) w (SV.get_ok c.S E _ _ _ _ _ hy)
   simp only [SV.cells] at hpt
   have h0 : (0 : Int) ≤ Int.ofNat m ∧ Int.ofNat m < (len : Int) := ⟨Int.natCast_nonneg m, Int.ofNat_lt.2 hlt⟩
   have hm : Nat.mul m d'.size = (Int.ofNat m).toNat * i2.size := by rw [hsz2]; rfl
   rw [hm] at hpt
   simp only [execOp, ho, hv, hvi, Instr.index, asIntOf, Sem.run_bind, Sem.run_pure, Result.andThen_ok, run_underlying hu, if_pos h0, sizeOf, typeInfo, run_program, hi2, hpt]
theorem run_fc0 (w : World) (size : Nat) (base : Option Addr) (c : Nat) : (Builtin.firstCells size 0 (.slice base 0 c)).run P w = .ok #[] w := by
 cases base with
 | none => exact run_firstCells_none w size 0 0 c
 | some a => exact run_firstCells_some w size 0 a 0 c [] (by simp) (fun j v hv => by simp at hv)
theorem copy_run (hc : CtxOk P c) {t t' e e' : TypeId} {z : TD} {z1 z1' : Nat} {z2 z2' : SV} (ht : c.tys t = some ⟨z1, .slice e, z2⟩) (ht' : c.tys t' = some ⟨z1', .slice e', z2'⟩) (he : c.tys e = some z) (ty : TypeId)
   (base : Option Addr) (ad : Addr) (nil : Bool) (m cap0 : Nat) (w : World) (vs : List Value) (hl : vs.length = m * z.size) (hat : 0 < m → At w ad vs) (h1 : ∀ v ∈ vs, v.oneCell' = true) (hm : m ≤ 134217728) :
   (m = 0 ∧ (Builtin.append_ #[t, t'] ty #[.slice base 0 0, .slice (bif nil && Nat.beq m 0 then none else some ad) m cap0]).run P w = .ok (.slice base 0 0) w) ∨
   (0 < m ∧ ∃ cap junk t0, m ≤ cap ∧ (Builtin.append_ #[t, t'] ty #[.slice base 0 0, .slice (bif nil && Nat.beq m 0 then none else some ad) m cap0]).run P w = .ok (.slice (some ⟨w.heap.size, 0, none⟩) m cap) (w.drew.alloc (.cells (vs ++ junk).toArray t0))) := by
 obtain ⟨i1, u1, hi1, hu1, hsz1, hsh1⟩ := (hc.tys _ _ ht).info
 have := shape_slice hsh1; subst this
 obtain ⟨i2, u2, hi2, hu2, hsz2, hsh2⟩ := (hc.tys _ _ ht').info
 have := shape_slice hsh2; subst this
 have hok := hc.tys _ _ he
 obtain ⟨i3, u3, hi3, hu3, hsz3, hsh3⟩ := hok.info
 have hzero := hok.zero c.S (⟨fun _ => default, fun _ => default⟩ : Env)
 rw [hi3] at hzero
 have hzz : i3.zero = some (z.zero.den c.S ⟨fun _ => default, fun _ => default⟩) := hzero
 rcases Nat.eq_zero_or_pos m with h0 | h0
 · refine .inl ⟨h0, ?_⟩
   subst h0
   have hv0 : vs = [] := List.eq_nil_of_length_eq_zero (by simpa using hl)
   have hf := fun b => run_fc0 (P := P) w i3.size b cap0
   cases base <;> simp [Builtin.append_, run_underlying hu1, run_underlying hu2, sizeOf, typeInfo, hi3, Builtin.lenOf, hf, storeCells]
 · refine .inr ⟨h0, ?_⟩
   have hne : Nat.beq m 0 = false := by
     cases hb : Nat.beq m 0 with
     | false => rfl
     | true => have := Nat.eq_of_beq_eq_true hb; omega
   rw [hne, Bool.and_false, cond_false]
   have hs : Src P i3.size t' (.slice (some ad) m cap0) m vs w := Src.ofSlice (P := P) w hu2 ad m cap0 vs (by rw [hl, hsz3]) (fun j v hv => (hat h0).cell hv (h1 v (List.mem_of_getElem? hv))) h1
   have hb := hc.small _ _ _ he hi3
   have hr := run_append_grow_src (P := P) w t t' ty e i3 _ hu1 hi3 hzz base 0 0 [] (run_fc0 w.drew i3.size base 0) (.slice (some ad) m cap0) m vs hs (by omega) (by omega) (by
     rw [Nat.zero_add]
     exact growslice_fits h0 (by
       calc m * i3.bytes ≤ 134217728 * 1048576 := Nat.mul_le_mul hm hb
         _ = 140737488355328 := by decide))
   rw [Nat.zero_add] at hr
   refine ⟨grownCap w m 0 e, (Builtin.zeroCells (z.zero.den c.S ⟨fun _ => default, fun _ => default⟩).cells (grownCap w m 0 e - m)).toList, e, grownCap_ge w m 0 e, ?_⟩
   rw [hr]
   congr 3
   apply Array.ext'
   simp
theorem join_run (hc : CtxOk P c) {t t' e e' : TypeId} {z : TD} {z1 z1' : Nat} {z2 z2' : SV} (ht : c.tys t = some ⟨z1, .slice e, z2⟩) (ht' : c.tys t' = some ⟨z1', .slice e', z2'⟩) (he : c.tys e = some z) (ty : TypeId)
   (base : Option Addr) (n : Nat) (ad : Addr) (m cap0 : Nat) (w : World) (vs0 vs : List Value) (hl0 : vs0.length = n * z.size) (hb0 : match base with | some a => 0 < n → At w a vs0 | none => n = 0) (hl : vs.length = m * z.size) (hat : At w ad vs) (h0 : ∀ v ∈ vs0, v.oneCell' = true) (h1 : ∀ v ∈ vs, v.oneCell' = true) (hm : n + m ≤ 134217728) (hmp : 0 < m) :
   ∃ cap junk t0, n + m ≤ cap ∧ (Builtin.append_ #[t, t'] ty #[.slice base n n, .slice (some ad) m cap0]).run P w = .ok (.slice (some ⟨w.heap.size, 0, none⟩) (n + m) cap) (w.drew.alloc (.cells ((vs0 ++ vs) ++ junk).toArray t0)) := by
 obtain ⟨i1, u1, hi1, hu1, hsz1, hsh1⟩ := (hc.tys _ _ ht).info
 have := shape_slice hsh1; subst this
 obtain ⟨i2, u2, hi2, hu2, hsz2, hsh2⟩ := (hc.tys _ _ ht').info
 have := shape_slice hsh2; subst this
 have hok := hc.tys _ _ he
 obtain ⟨i3, u3, hi3, hu3, hsz3, hsh3⟩ := hok.info
 have hzero := hok.zero c.S (⟨fun _ => default, fun _ => default⟩ : Env)
 rw [hi3] at hzero
 have hzz : i3.zero = some (z.zero.den c.S ⟨fun _ => default, fun _ => default⟩) := hzero
 have hs : Src P i3.size t' (.slice (some ad) m cap0) m vs w := Src.ofSlice (P := P) w hu2 ad m cap0 vs (by rw [hl, hsz3]) (fun j v hv => hat.cell hv (h1 v (List.mem_of_getElem? hv))) h1
 have hb := hc.small _ _ _ he hi3
 have hold : (Builtin.firstCells i3.size n (.slice base n n)).run P w.drew = .ok vs0.toArray w.drew := by
   cases base with
   | none =>
     have hn : n = 0 := hb0
     subst hn
     have hv0 : vs0 = [] := List.eq_nil_of_length_eq_zero (by simpa using hl0)
     subst hv0
     exact run_fc0 w.drew i3.size none 0
   | some a =>
     rcases Nat.eq_zero_or_pos n with hn | hn
     · subst hn
       have hv0 : vs0 = [] := List.eq_nil_of_length_eq_zero (by simpa using hl0)
       subst hv0
       exact run_fc0 w.drew i3.size (some a) 0
     · have hat0 : At w a vs0 := hb0 hn
       exact run_firstCells_some w.drew i3.size n a n n vs0 (by rw [hl0, hsz3]) (fun j v hv => hat0.cell hv (h0 v (List.mem_of_getElem? hv)))
 have hr := run_append_grow_src (P := P) w t t' ty e i3 _ hu1 hi3 hzz base n n vs0 hold (.slice (some ad) m cap0) m vs hs (by omega) (by omega) (growslice_fits (by omega) (by
       calc (n + m) * i3.bytes ≤ 134217728 * 1048576 := Nat.mul_le_mul hm hb
         _ = 140737488355328 := by decide))
 refine ⟨grownCap w (n + m) n e, (Builtin.zeroCells (z.zero.den c.S ⟨fun _ => default, fun _ => default⟩).cells (grownCap w (n + m) n e - (n + m))).toList, e, grownCap_ge w (n + m) n e, ?_⟩
 rw [hr]
 congr 3
 apply Array.ext'
 simp
theorem keep_run (hc : CtxOk P c) {t t' e e' : TypeId} {z : TD} {z1 z1' : Nat} {z2 z2' : SV} (ht : c.tys t = some ⟨z1, .slice e, z2⟩) (ht' : c.tys t' = some ⟨z1', .slice e', z2'⟩) (he : c.tys e = some z) (ty : TypeId) (ad : Addr) (n n' : Nat) (hn : n ≤ n') (w : World) :
   (Builtin.append_ #[t, t'] ty #[.slice (some ad) n n', .slice none 0 0]).run P w = .ok (.slice (some ad) n n') w := by
 obtain ⟨i1, u1, hi1, hu1, hsz1, hsh1⟩ := (hc.tys _ _ ht).info
 have := shape_slice hsh1; subst this
 obtain ⟨i2, u2, hi2, hu2, hsz2, hsh2⟩ := (hc.tys _ _ ht').info
 have := shape_slice hsh2; subst this
 obtain ⟨i3, u3, hi3, hu3, hsz3, hsh3⟩ := (hc.tys _ _ he).info
 have hf := run_fc0 (P := P) w i3.size none 0
 simp [Builtin.append_, run_underlying hu1, run_underlying hu2, sizeOf, typeInfo, hi3, Builtin.lenOf, hf, storeCells, hn]
theorem joinOnto_ok (hc : CtxOk P c) {t t' e e' : TypeId} {z : TD} {z1 z1' : Nat} {z2 z2' : SV} (ht : c.tys t = some ⟨z1, .slice e, z2⟩) (ht' : c.tys t' = some ⟨z1', .slice e', z2'⟩) (he : c.tys e = some z) {q : Call} (ho : o.op = .call q) (hcal : q.callee = .builtin .append)
   {x : SV} {k m m' : Nat} (h1 : q.args.map a.eval = #[x.den c.S E, .slice (some (E.place k 0)) m m']) (h2 : q.argTypes = #[t, t']) (h : joinOnto x k m z.size = some d) : Does P c.S E o a d := by
 unfold joinOnto at h
 split at h <;> (try cases h)
 · intro w vs0 vs hl0 _ hl hat hone0 hone hm hmp _
   obtain ⟨cap, junk, t0, hge, hr⟩ := join_run (P := P) hc ht ht' he o.type none 0 (E.place k 0) m m' w vs0 vs hl0 rfl hl hat hone0 hone hm hmp
   exact ⟨cap, junk, t0, hge, by simp at hr; simp [execOp, ho, resolve, hcal, h1, h2, invoke, builtin, SV.den, hr]⟩
 · rename_i c1 n u1
   intro w vs0 vs hl0 hb0 hl hat hone0 hone hm hmp _
   obtain ⟨cap, junk, t0, hge, hr⟩ := join_run (P := P) hc ht ht' he o.type (bif (E.cp u1).2 && Nat.beq n 0 then none else some (E.place c1 0)) n (E.place k 0) m m' w vs0 vs hl0 (by
     cases hbb : ((E.cp u1).2 && Nat.beq n 0) with
     | true =>
       simp only [Bool.and_eq_true] at hbb
       exact Nat.eq_of_beq_eq_true hbb.2
     | false => exact hb0) hl hat hone0 hone hm hmp
   exact ⟨cap, junk, t0, hge, by simp at hr; simp [execOp, ho, resolve, hcal, h1, h2, invoke, builtin, SV.den, hr]⟩
 · rename_i q1 n n'
   cases hn : Nat.beq n n' with
   | false => rw [hn] at h; cases h
   | true =>
     rw [hn] at h
     simp only [cond_true, Option.some.injEq] at h
     subst h
     have hnn := Nat.eq_of_beq_eq_true hn
     subst hnn
     intro w vs0 vs hl0 hb0 hl hat hone0 hone hm hmp _
     obtain ⟨cap, junk, t0, hge, hr⟩ := join_run (P := P) hc ht ht' he o.type (some (E.place q1 0)) n (E.place k 0) m m' w vs0 vs hl0 hb0 hl hat hone0 hone hm hmp
     exact ⟨cap, junk, t0, hge, by simp at hr; simp [execOp, ho, resolve, hcal, h1, h2, invoke, builtin, SV.den, hr]⟩
theorem kiIs_ok {x : Option SV} {n : Nat} (h : kiIs x n = true) : ∃ k, x = some (.ki k (.ofNat n)) := by
 unfold kiIs at h
 split at h
 · have := Nat.eq_of_beq_eq_true h; subst this; exact ⟨_, rfl⟩
 · cases h
theorem run_sliceAll (w : World) {t : TypeId} {e : TypeId} {i : TypeInfo} (hu : P.underlying t = some (.slice e)) (hi : P.info? e = some i) (b : Option Addr) (hb : ∀ ad, b = some ad → ad.add 0 = ad) (n len cap : Nat) (hn : n ≤ cap) (k1 k2 : IntKind) :
   (Instr.sliceAt t (.slice b len cap) none (some (.int k1 n)) (some (.int k2 n))).run P w = .ok (.slice b n n) w := by
 have he : P.elem t = e := by simp [Program.elem, hu]
 have hu' : P.underlying t = some (.slice (P.elem t)) := by rw [he]; exact hu
 rw [run_sliceAt_slice w t _ _ _ _ hu', run_slice_hm w t b len cap hu' k1 k2 n n (by omega) (by omega) (by omega)]
 simp only [sizeOf, Sem.run_bind, typeInfo, run_program, he, hi, Sem.run_pure, Result.andThen_ok, Int.toNat_natCast, sliced, Nat.zero_mul, Nat.sub_zero]
 congr 2
 split
 · rfl
 · cases b with
   | none => rfl
   | some ad => simp [hb ad rfl]
theorem plan_slice (hc : CtxOk P c) (hs : SlotsOk c.S E s a) (hp : PathHolds a p) {t : TypeId} {x h0 m0 : Operand} (ho : o.op = .slice t x none (some h0) (some m0))
   (h : (match ev s p x with
     | some y => (match c.tys t with
       | some ⟨_, .slice e, _⟩ => (match c.tys e with
         | some _ => sliceD y (ev s p h0) (ev s p m0)
         | none => none)
       | _ => none)
     | none => none) = some d) : Does P c.S E o a d := by
 split at h <;> (try cases h)
 rename_i y hy
 split at h <;> (try cases h)
 rename_i z1 e z2 ht
 split at h <;> (try cases h)
 rename_i z he
 obtain ⟨i1, u, hi1, hu, hsz, hsh⟩ := (hc.tys _ _ ht).info
 have := shape_slice hsh; subst this
 obtain ⟨i2, u2, hi2, hu2, hsz2, hsh2⟩ := (hc.tys _ _ he).info
 have ex := ev_ok hs hp hy
 unfold sliceD at h
 split at h
 · rename_i c1 n u1 q1
   split at h <;> (try cases h)
   rename_i k1 a1 k2 b1 e1 e2
   intro hb w
   have v1 := ev_ok hs hp e1
   have v2 := ev_ok hs hp e2
   simp only [Bool.and_eq_true, decide_eq_true_eq] at hb
   obtain ⟨rfl, rfl⟩ := hb
   simp only [SV.den] at ex v1 v2
   have hr := run_sliceAll (P := P) w hu hi2 (bif (E.cp u1).2 && Nat.beq n 0 then none else some (E.place c1 0)) (fun ad h => by
     cases hbb : ((E.cp u1).2 && Nat.beq n 0) with
     | true => rw [hbb] at h; cases h
     | false => rw [hbb] at h; injection h with h; subst h; rfl) n n (bif q1 then n else Nat.max n (E.cp u1).1) (by cases q1 <;> simp [Nat.le_max_left]) k1 k2
   simp only [execOp, ho, ex, Option.map_some, Option.map_none, v1, v2, SV.den, Sem.run_bind]
   rw [hr]
   simp
 split at h <;> (try cases h)
 rename_i q hq
 intro w
 unfold sliceAll at hq
 split at hq <;> (try cases hq)
 · cases hb : (kiIs (ev s p h0) 0 && kiIs (ev s p m0) 0) with
   | false => rw [hb] at hq; cases hq
   | true =>
     rw [hb] at hq
     simp only [cond_true, Option.some.injEq] at hq
     subst hq
     simp only [Bool.and_eq_true] at hb
     obtain ⟨k1, e1⟩ := kiIs_ok hb.1
     obtain ⟨k2, e2⟩ := kiIs_ok hb.2
     have v1 := ev_ok hs hp e1
     have v2 := ev_ok hs hp e2
     simp only [SV.den] at ex v1 v2
     have hr := run_sliceAll (P := P) w hu hi2 none (fun _ h => by cases h) 0 0 0 (Nat.le_refl _) k1 k2
     simp only [Int.ofNat_eq_natCast] at hr v1 v2
     simp only [execOp, ho, ex, Option.map_some, Option.map_none, v1, v2, SV.den, Sem.run_bind, Int.ofNat_eq_natCast]
     rw [hr]
     rfl
 · rename_i c1 n n' hneg
   cases hb : ((kiIs (ev s p h0) n && kiIs (ev s p m0) n) && Nat.ble n n') with
   | false => rw [hb] at hq; cases hq
   | true =>
     rw [hb] at hq
     simp only [cond_true, Option.some.injEq] at hq
     subst hq
     simp only [Bool.and_eq_true] at hb
     obtain ⟨k1, e1⟩ := kiIs_ok hb.1.1
     obtain ⟨k2, e2⟩ := kiIs_ok hb.1.2
     have v1 := ev_ok hs hp e1
     have v2 := ev_ok hs hp e2
     simp only [SV.den] at ex v1 v2
     have hr := run_sliceAll (P := P) w hu hi2 (some (E.place c1 0)) (fun ad h => by injection h with h; subst h; rfl) n n n' (Nat.le_of_ble_eq_true hb.2) k1 k2
     simp only [execOp, ho, ex, Option.map_some, Option.map_none, v1, v2, SV.den, Sem.run_bind, Int.ofNat_eq_natCast]
     rw [hr]
     rfl
 · rename_i c1 n n' hneg
   cases hb : (kiIs (ev s p h0) n && kiIs (ev s p m0) n) with
   | false => rw [hb] at hq; cases hq
   | true =>
     rw [hb] at hq
     simp only [cond_true, Option.some.injEq] at hq
     subst hq
     simp only [Bool.and_eq_true] at hb
     obtain ⟨k1, e1⟩ := kiIs_ok hb.1
     obtain ⟨k2, e2⟩ := kiIs_ok hb.2
     have v1 := ev_ok hs hp e1
     have v2 := ev_ok hs hp e2
     simp only [SV.den] at ex v1 v2
     have hr := run_sliceAll (P := P) w hu hi2 (some (E.place c1 0)) (fun ad h => by injection h with h; subst h; rfl) n n (Nat.max n (E.cp n').1) (Nat.le_max_left _ _) k1 k2
     simp only [execOp, ho, ex, Option.map_some, Option.map_none, v1, v2, SV.den, Sem.run_bind, Int.ofNat_eq_natCast]
     rw [hr]
     rfl
theorem plan_append (hc : CtxOk P c) (hs : SlotsOk c.S E s a) (hp : PathHolds a p) {q : Call} (ho : o.op = .call q) (hcal : q.callee = .builtin .append)
   (h : (match evs s p q.args.toList, q.argTypes.toList with
     | some [x, .slr k m _ _], [t, t'] => (match c.tys t, c.tys t' with
       | some ⟨_, .slice e, _⟩, some ⟨_, .slice _, _⟩ => (match c.tys e with
         | some z => bif Nat.blt 0 z.size then (match x with
           | .v (.slice none 0 0) => some (Deed.copy none k m z.size)
           | .slr q 0 u true => some (.copy (some (q, u)) k m z.size)
           | _ => none) else none
         | none => none)
       | _, _ => none)
     | some [x, .slc k 0 m _], [t, t'] => (match c.tys t, c.tys t' with
       | some ⟨_, .slice e, _⟩, some ⟨_, .slice _, _⟩ => (match c.tys e with
         | some z => bif Nat.blt 0 z.size && Nat.blt 0 m then joinOnto x k m z.size else none
         | none => none)
       | _, _ => none)
     | some [x, .slu k 0 m _], [t, t'] => (match c.tys t, c.tys t' with
       | some ⟨_, .slice e, _⟩, some ⟨_, .slice _, _⟩ => (match c.tys e with
         | some z => bif Nat.blt 0 z.size && Nat.blt 0 m then joinOnto x k m z.size else none
         | none => none)
       | _, _ => none)
     | some [.slc q 0 n n', .v (.slice none 0 0)], [t, t'] => (match c.tys t, c.tys t' with
       | some ⟨_, .slice e, _⟩, some ⟨_, .slice _, _⟩ => (match c.tys e with
         | some _ => bif Nat.ble n n' then some (.yield (.slc q 0 n n')) else none
         | none => none)
       | _, _ => none)
     | _, _ => none) = some d) : Does P c.S E o a d := by
 split at h <;> (try cases h)
 · rename_i x k m u0 q0 t t' hxy hty
   split at h <;> (try cases h)
   rename_i z1 e z2 z3 e' z4 ht ht'
   split at h <;> (try cases h)
   rename_i z he
   cases hz : Nat.blt 0 z.size with
   | false => rw [hz] at h; cases h
   | true =>
     rw [hz] at h
     simp only [cond_true] at h
     have h2 : q.argTypes = #[t, t'] := by rw [← Array.toList_inj]; simpa using hty
     have h1 : q.args.map a.eval = #[x.den c.S E, .slice (bif (E.cp u0).2 && Nat.beq m 0 then none else some (E.place k 0)) m (bif q0 then m else Nat.max m (E.cp u0).1)] := by
       have := evs_ok hs hp hxy
       rw [← Array.toList_inj]
       simpa [SV.dens, SV.den] using this
     split at h <;> (try cases h)
     · intro w vs hl hat hone hm _
       rcases copy_run (P := P) hc ht ht' he o.type none (E.place k 0) (E.cp u0).2 m (bif q0 then m else Nat.max m (E.cp u0).1) w vs hl hat hone hm with ⟨h0, hr⟩ | ⟨h0, cap, junk, t0, hge, hr⟩
       · exact .inl ⟨h0, by simp [execOp, ho, resolve, hcal, h1, h2, invoke, builtin, SV.den, hr]⟩
       · exact .inr ⟨h0, cap, junk, t0, hge, by simp [execOp, ho, resolve, hcal, h1, h2, invoke, builtin, SV.den, hr]⟩
     · rename_i c1 u1
       intro w vs hl hat hone hm _
       rcases copy_run (P := P) hc ht ht' he o.type (bif (E.cp u1).2 then none else some (E.place c1 0)) (E.place k 0) (E.cp u0).2 m (bif q0 then m else Nat.max m (E.cp u0).1) w vs hl hat hone hm with ⟨h0, hr⟩ | ⟨h0, cap, junk, t0, hge, hr⟩
       · exact .inl ⟨h0, by simp [execOp, ho, resolve, hcal, h1, h2, invoke, builtin, SV.den, hr]⟩
       · exact .inr ⟨h0, cap, junk, t0, hge, by simp [execOp, ho, resolve, hcal, h1, h2, invoke, builtin, SV.den, hr]⟩
 · rename_i x k m m' t t' hxy hty
   split at h <;> (try cases h)
   rename_i z1 e z2 z3 e' z4 ht ht'
   split at h <;> (try cases h)
   rename_i z he
   cases hz : (Nat.blt 0 z.size && Nat.blt 0 m) with
   | false => rw [hz] at h; cases h
   | true =>
     rw [hz] at h
     simp only [cond_true] at h
     have h2 : q.argTypes = #[t, t'] := by rw [← Array.toList_inj]; simpa using hty
     have h1 : q.args.map a.eval = #[x.den c.S E, .slice (some (E.place k 0)) m m'] := by
       have := evs_ok hs hp hxy
       rw [← Array.toList_inj]
       simpa [SV.dens, SV.den] using this
     exact joinOnto_ok hc ht ht' he ho hcal h1 h2 h
 · rename_i x k m m' t t' hxy hty
   split at h <;> (try cases h)
   rename_i z1 e z2 z3 e' z4 ht ht'
   split at h <;> (try cases h)
   rename_i z he
   cases hz : (Nat.blt 0 z.size && Nat.blt 0 m) with
   | false => rw [hz] at h; cases h
   | true =>
     rw [hz] at h
     simp only [cond_true] at h
     have h2 : q.argTypes = #[t, t'] := by rw [← Array.toList_inj]; simpa using hty
     have h1 : q.args.map a.eval = #[x.den c.S E, .slice (some (E.place k 0)) m (Nat.max m (E.cp m').1)] := by
       have := evs_ok hs hp hxy
       rw [← Array.toList_inj]
       simpa [SV.dens, SV.den] using this
     exact joinOnto_ok hc ht ht' he ho hcal h1 h2 h
 · rename_i q1 n n' t t' hxy hty
   split at h <;> (try cases h)
   rename_i z1 e z2 z3 e' z4 ht ht'
   split at h <;> (try cases h)
   rename_i z he
   cases hn : Nat.ble n n' with
   | false => rw [hn] at h; cases h
   | true =>
     rw [hn] at h
     simp only [cond_true, Option.some.injEq] at h
     subst h
     have h2 : q.argTypes = #[t, t'] := by rw [← Array.toList_inj]; simpa using hty
     have h1 : q.args.map a.eval = #[.slice (some (E.place q1 0)) n n', .slice none 0 0] := by
       have := evs_ok hs hp hxy
       rw [← Array.toList_inj]
       simpa [SV.dens, SV.den] using this
     intro w
     have hr := keep_run (P := P) hc ht ht' he o.type (E.place q1 0) n n' (Nat.le_of_ble_eq_true hn) w
     simp [execOp, ho, resolve, hcal, h1, h2, invoke, builtin, SV.den, hr]
theorem zrows_made {z : SV} {n : Nat} {R : Rows} (S : Stat) (E : Env) (h : zrows z n = some R) : z.size = 1 ∧ madeCells (z.den S E).cells n = R.cells.toArray := by
 have key : ∀ v : Value, v.cells = #[v] → madeCells v.cells n = (List.replicate n v).toArray := by
   intro v hv
   rw [hv]
   apply Array.ext
   · simp [madeCells]
   · intro i h1 h2
     simp [madeCells, Nat.mod_one]
 unfold zrows at h
 split at h
 · injection h with h; subst h
   refine ⟨rfl, (key _ rfl).trans ?_⟩
   simp [Rows.cells, List.flatMap_replicate, SV.den]
 · injection h with h; subst h
   refine ⟨rfl, (key _ rfl).trans ?_⟩
   simp [Rows.cells, List.flatMap_replicate, SV.den]
 · cases h
theorem plan_makeSlice (hc : CtxOk P c) (hs : SlotsOk c.S E s a) (hp : PathHolds a p) {t : TypeId} {l k : Operand} (ho : o.op = .makeSlice t l k)
   (h : plan0 c s p o = some d) : Does P c.S E o a d := by
 simp only [plan0, ho] at h
 split at h <;> (try cases h)
 rename_i z1 e z2 x y ht hl hk
 split at h <;> (try cases h)
 rename_i d' he
 split at h <;> (try cases h)
 rename_i R hR
 intro hok w
 obtain ⟨h0, h1, rfl⟩ := of_decide_eq_true hok
 obtain ⟨i1, u, hi1, hu, hsz, hsh⟩ := (hc.tys _ _ ht).info
 obtain rfl := shape_slice hsh
 obtain ⟨i2, u2, hi2, hu2, hsz2, hsh2⟩ := (hc.tys _ _ he).info
 have hz := (hc.tys _ _ he).zero c.S E
 rw [hi2] at hz
 have hz : i2.zero = some (d'.zero.den c.S E) := hz
 have hb := hc.small _ _ _ he hi2
 obtain ⟨hz1, hmade⟩ := zrows_made c.S E hR
 have hs1 : i2.size = 1 := by rw [hsz2, ← (hc.tys _ _ he).sz, hz1]
 have e1 : a.eval l = .int .i64 y := (ev_ok hs hp hl).trans rfl
 have e2 : a.eval k = .int .i64 y := (ev_ok hs hp hk).trans rfl
 have hr := run_make (P := P) w t e i2 (d'.zero.den c.S E) hu hi2 hz .i64 .i64 y y h0 (Int.le_refl _) (by
   have : (i2.bytes : Int) * y ≤ 1048576 * 100000 := Int.mul_le_mul (by omega) h1 h0 (by decide)
   omega) (by omega)
 rw [hs1, Nat.mul_one, hmade] at hr
 exact ⟨e, by simp [execOp, ho, e1, e2, hr]⟩
theorem plan_newMap {t : TypeId} (ho : o.op = .makeMap t none) (z : Option (IntKind × Rec)) : Does P c.S E o a (.newMap z) := by
 intro w
 simp [execOp, ho, Instr.makeMap]
theorem plan_insert (hc : CtxOk P c) (hs : SlotsOk c.S E s a) (hp : PathHolds a p) {t : TypeId} {m k x : Operand} (ho : o.op = .insert t m k x)
   (h : plan0 c s p o = some d) : Does P c.S E o a d := by
 simp only [plan0, ho] at h
 split at h <;> (try cases h)
 rename_i c0 hm
 split at h <;> (try cases h)
 rename_i z1 kt et z2 ht
 split at h <;> (try cases h)
 rename_i z3 kk z4 hkt
 split at h <;> (try cases h)
 rename_i kk' n hk
 split at h <;> (try cases h)
 rename_i y hy
 cases hb : (kk == kk') with
 | false => rw [hb] at h; cases h
 | true =>
   rw [hb] at h
   injection h with h; subst h
   have := beq_iff_eq.1 hb; subst this
   intro w es clk hblk hkeys
   obtain ⟨i1, u, hi1, hu, hsz, hsh⟩ := (hc.tys _ _ ht).info
   have := shape_map hsh; subst this
   obtain ⟨i2, u2, hi2, hu2, hsz2, hsh2⟩ := (hc.tys _ _ hkt).info
   have := shape_int hsh2; subst this
   have hfind : ∀ (l : List MapEntry) (i : Nat), (∀ e ∈ l, ∃ m, e.key = .int kk m ∧ m ≠ n) → Instr.findNow (.int kk) (.int kk n) l i = some none := by
     intro l
     induction l with
     | nil => intro i _; rfl
     | cons e r ih =>
       intro i h
       obtain ⟨m, hm, hne⟩ := h e List.mem_cons_self
       have : (n == m) = false := by simpa using Ne.symm hne
       simp only [Instr.findNow, hm, Instr.sameNow, if_true, this]
       exact ih (i + 1) fun e he => h e (List.mem_cons_of_mem _ he)
   have hchk : (Instr.checkKey false 10000 kt (.int kk n)).run P w = .ok () w := MapKept.run_checkKey hu2 (by simp [MapKept.IsKey]) false 9999
   have hrun : (Instr.mapUpdate t (.map (some (E.ad c0).block)) (.int kk n) (y.den c.S E)).run P w = .ok () { w with heap := w.heap.setIfInBounds (E.ad c0).block (.map (es.push { key := .int kk n, val := y.den c.S E, born := clk }) (clk + 1)) } := by
     simp [Instr.mapUpdate, run_underlying hu, MapKept.run_getObj_map hblk, hchk, MapKept.run_findKey hu2 (hfind es.toList 0 hkeys), MapKept.run_setObj_map _ hblk, Result.andThen]
   have e1 := ev_ok hs hp hm
   have e2 := ev_ok hs hp hk
   have e3 := ev_ok hs hp hy
   simp only [SV.den] at e1 e2
   simp [execOp, ho, e1, e2, e3, hrun]
theorem findK_ok (S : Stat) (E : Env) {kk : IntKind} {n : Int} : ∀ {l : List SV} {y : SV} {es : List MapEntry}, findK kk n l = some y → SV.dens S E l = es.map tupM → ∀ i, ∃ j, Instr.findNow (.int kk) (.int kk n) es i = some (some (j, y.den S E))
 | [], y, es, h, _ => by cases h
 | x :: r, y, es, h, he => by
   intro i
   unfold findK at h
   split at h
   · rename_i h1; cases h1
   · rename_i kk' m v v2 r' hx
     injection hx with h1 h2; subst h1 h2
     cases es with
     | nil => simp [SV.dens] at he
     | cons e es =>
       simp only [SV.dens, SV.den, List.map_cons, List.cons.injEq, tupM, Value.tuple.injEq, Array.mk.injEq, and_true] at he
       obtain ⟨⟨hk, hv, _⟩, hr⟩ := he
       cases hb : (kk == kk') with
       | false => rw [hb] at h; cases h
       | true =>
         rw [hb] at h
         have := beq_iff_eq.1 hb; subst this
         simp only [cond_true] at h
         cases hn : (m == n) with
         | true =>
           rw [hn] at h
           injection h with h; subst h
           have := beq_iff_eq.1 hn; subst this
           exact ⟨i, by simp [Instr.findNow, ← hk, Instr.sameNow, hv]⟩
         | false =>
           rw [hn] at h
           have hne : (n == m) = false := by
             rw [Bool.eq_false_iff] at hn ⊢
             intro hh; exact hn (by simpa using (beq_iff_eq.1 hh).symm)
           simp only [Instr.findNow, ← hk, Instr.sameNow, if_true, hne]
           exact findK_ok S E h hr (i + 1)
   · cases h
theorem tabFn_ok (S : Stat) (E : Env) {kk : IntKind} {base : Nat} {n : Int} : ∀ {l : List SV} {es : List MapEntry} {k : Nat}, tabFn kk base k l = true → SV.dens S E l = es.map tupM → ↑k ≤ n → n < ↑(k + l.length) → ∀ i,
   ∃ j, Instr.findNow (.int kk) (.int kk n) es i = some (some (j, .func (.func (n.toNat + base)) #[] #[]))
 | [], es, k, _, _, h1, h2 => by simp only [List.length_nil, Nat.add_zero] at h2; omega
 | x :: r, es, k, h, he, h1, h2 => by
   intro i
   unfold tabFn at h
   split at h
   · rename_i hx; cases hx
   · rename_i kk' m f v2 r' hx
     injection hx with hx1 hx2; subst hx1 hx2
     cases es with
     | nil => simp [SV.dens] at he
     | cons e es =>
       simp only [SV.dens, SV.den, SV.cellss, List.map_cons, List.cons.injEq, tupM, Value.tuple.injEq, Array.mk.injEq, and_true] at he
       obtain ⟨⟨hk, hv, _⟩, hr⟩ := he
       cases hb : (kk == kk') with
       | false => rw [hb] at h; cases h
       | true =>
         rw [hb] at h
         have := beq_iff_eq.1 hb; subst this
         simp only [cond_true] at h
         cases hm : Nat.beq m k with
         | false => rw [hm] at h; cases h
         | true =>
           rw [hm] at h
           have := Nat.eq_of_beq_eq_true hm; subst this
           simp only [cond_true] at h
           cases hf : Nat.beq f (Nat.add m base) with
           | false => rw [hf] at h; cases h
           | true =>
             rw [hf] at h
             have := Nat.eq_of_beq_eq_true hf; subst this
             simp only [cond_true] at h
             by_cases hn : n = ↑m
             · subst hn
               exact ⟨i, by simp [Instr.findNow, ← hk, Instr.sameNow, ← hv]⟩
             · have hne : (n == Int.ofNat m) = false := by
                 rw [Bool.eq_false_iff]
                 intro hh; exact hn (beq_iff_eq.1 hh)
               simp only [Instr.findNow, ← hk, Instr.sameNow, if_true, hne]
               exact tabFn_ok S E (k := m + 1) h hr (by omega) (by simp only [List.length_cons] at h2; omega) (i + 1)
   · cases h
theorem lookK_ok (S : Stat) (E : Env) {kk : IntKind} {q : SV} {l : List SV} {cd : Option Bool} {y : SV} {es : List MapEntry} (h : lookK S kk q l = some (cd, y)) (hcd : okC cd = true) (he : SV.dens S E l = es.map tupM) :
   ∃ n, q.den S E = .int kk n ∧ ∃ j, Instr.findNow (.int kk) (q.den S E) es 0 = some (some (j, y.den S E)) := by
 unfold lookK at h
 split at h
 · rename_i kk' n
   cases hb : (kk == kk') with
   | false => rw [hb] at h; cases h
   | true =>
     rw [hb] at h
     have := beq_iff_eq.1 hb; subst this
     simp only [cond_true] at h
     split at h
     · rename_i y' hy
       injection h with h; injection h with h1 h2; subst h1 h2
       obtain ⟨j, hj⟩ := findK_ok S E hy he 0
       exact ⟨n, rfl, j, hj⟩
     · cases h
 · split at h
   · rename_i kk' n g hq
     have hden := SV.sc_den S E hq
     cases hb : (kk == kk') with
     | false => rw [hb] at h; cases h
     | true =>
       rw [hb] at h
       have := beq_iff_eq.1 hb; subst this
       simp only [cond_true] at h
       split at h
       · rename_i x base v2 r
         cases ht : tabFn kk base 0 (.tup [x, .fn (.func base) [] [], v2] :: r) with
         | false => rw [ht] at h; cases h
         | true =>
           rw [ht] at h
           injection h with h; injection h with h1 h2; subst h1 h2
           simp only [okC, Bool.and_eq_true, decide_eq_true_eq] at hcd
           obtain ⟨j, hj⟩ := tabFn_ok S E (n := n) ht he (by simpa using hcd.1) (by simpa using hcd.2) 0
           refine ⟨n, hden, j, ?_⟩
           rw [hden, hj]
           simp [SV.den, SV.dens, SV.cellss]
       · cases h
   · cases h
theorem plan_lookup (hc : CtxOk P c) (hs : SlotsOk c.S E s a) (hp : PathHolds a p) {t : TypeId} {m k : Operand} (ho : o.op = .lookup t m k false)
   (h : plan0 c s p o = some d) : Does P c.S E o a d := by
 simp only [plan0, ho] at h
 split at h <;> (try cases h)
 rename_i c0 hm
 split at h <;> (try cases h)
 rename_i z1 kt et z2 ht
 split at h <;> (try cases h)
 rename_i z3 kk z4 hkt
 split at h <;> (try cases h)
 rename_i q hk
 intro w es clk l cd y hblk hdens hl hcd
 obtain ⟨i1, u, hi1, hu, hsz, hsh⟩ := (hc.tys _ _ ht).info
 have := shape_map hsh; subst this
 obtain ⟨i2, u2, hi2, hu2, hsz2, hsh2⟩ := (hc.tys _ _ hkt).info
 have := shape_int hsh2; subst this
 obtain ⟨n, hq, j, hf⟩ := lookK_ok c.S E hl hcd hdens
 have hchk : ∀ b, (Instr.checkKey b 10000 kt (.int kk n)).run P w = .ok () w := fun b => MapKept.run_checkKey hu2 (by simp [MapKept.IsKey]) b 9999
 rw [hq] at hf
 have hfk := MapKept.run_findKey (P := P) (w := w) hu2 hf
 have e1 := ev_ok hs hp hm
 have e2 := ev_ok hs hp hk
 rw [hq] at e2
 simp only [SV.den] at e1
 simp [execOp, ho, e1, e2, Instr.lookup, run_underlying hu, MapKept.run_getObj_map hblk, hchk, hfk]
theorem run_zero {t : TypeId} {sz : Nat} {sh : Sh} {z : Rec} (ht : TyOk P t ⟨sz, sh, .rcd z⟩) (w : World) : (zeroValue t).run P w = .ok (.agg z.cells.toArray) w := by
 obtain ⟨i, u, hi, hu, _, _⟩ := ht.info
 have hz := ht.zero ⟨fun _ => default, fun _ => 0, fun _ => false⟩ ⟨fun _ => default, fun _ => default⟩
 rw [hi] at hz
 simp only [Option.bind_some, SV.den] at hz
 simp [zeroValue, typeInfo, hi, hz]
theorem plan_lookup2 (hc : CtxOk P c) (hs : SlotsOk c.S E s a) (hp : PathHolds a p) {t : TypeId} {m k : Operand} (ho : o.op = .lookup t m k true)
   (h : plan0 c s p o = some d) : Does P c.S E o a d := by
 simp only [plan0, ho] at h
 split at h <;> (try cases h)
 rename_i c0 hm
 split at h <;> (try cases h)
 rename_i z1 kt et z2 ht
 split at h <;> (try cases h)
 rename_i z3 kk z4 z5 z6 z hkt het
 split at h <;> (try cases h)
 rename_i q hk
 split at h <;> (try cases h)
 rename_i kk' n g hq
 cases hb : (kk == kk') with
 | false => rw [hb] at h; cases h
 | true =>
   rw [hb] at h
   injection h with h; subst h
   have := beq_iff_eq.1 hb; subst this
   intro w es clk T y hblk hkk hents hask
   obtain ⟨i1, u, hi1, hu, hsz, hsh⟩ := (hc.tys _ _ ht).info
   have := shape_map hsh; subst this
   obtain ⟨i2, u2, hi2, hu2, hsz2, hsh2⟩ := (hc.tys _ _ hkt).info
   have := shape_int hsh2; subst this
   simp only [askT] at hask
   split at hask
   · rename_i r hr
     injection hask with hask; subst hask
     have hrun := run_ask (P := P) hu hu2 hblk hkk hents (run_zero (hc.tys _ _ het) w) hr
     have e1 := ev_ok hs hp hm
     have e2 := ev_ok hs hp hk
     rw [SV.sc_den c.S E hq] at e2
     simp only [SV.den] at e1
     simp [execOp, ho, e1, e2, hrun, SV.den, SV.dens]
   · cases hask
theorem plan_mapUpdate (hc : CtxOk P c) (hs : SlotsOk c.S E s a) (hp : PathHolds a p) {t : TypeId} {m k x : Operand} (ho : o.op = .mapUpdate t m k x)
   (h : plan0 c s p o = some d) : Does P c.S E o a d := by
 simp only [plan0, ho] at h
 split at h <;> (try cases h)
 rename_i c0 hm
 split at h <;> (try cases h)
 rename_i z1 kt et z2 ht
 split at h <;> (try cases h)
 rename_i z3 kk z4 hkt
 split at h <;> (try cases h)
 rename_i q hk
 split at h <;> (try cases h)
 rename_i kk' n g hq
 split at h <;> (try cases h)
 rename_i r hx
 cases hb : (kk == kk') with
 | false => rw [hb] at h; cases h
 | true =>
   rw [hb] at h
   injection h with h; subst h
   have := beq_iff_eq.1 hb; subst this
   intro w es clk T Q hblk hkk hents hcl hst hupd
   obtain ⟨i1, u, hi1, hu, hsz, hsh⟩ := (hc.tys _ _ ht).info
   have := shape_map hsh; subst this
   obtain ⟨i2, u2, hi2, hu2, hsz2, hsh2⟩ := (hc.tys _ _ hkt).info
   have := shape_int hsh2; subst this
   obtain ⟨es', clk', _, h2, h3, hrun⟩ := run_put (P := P) hu hu2 hblk hkk hents hcl hst (show T.put n r = some Q from hupd)
   refine ⟨es', clk', .skip, h2, h3, .inl rfl, ?_⟩
   have e1 := ev_ok hs hp hm
   have e2 := ev_ok hs hp hk
   have e3 := ev_ok hs hp hx
   rw [SV.sc_den c.S E hq] at e2
   simp only [SV.den] at e1 e3
   simp [execOp, ho, e1, e2, e3, hrun]
theorem plan_delete (hc : CtxOk P c) (hs : SlotsOk c.S E s a) (hp : PathHolds a p) {q : Call} (ho : o.op = .call q) (hcal : q.callee = .builtin .delete)
   (h : plan0 c s p o = some d) : Does P c.S E o a d := by
 simp only [plan0, ho, hcal] at h
 split at h <;> (try cases h)
 rename_i m k t t' hax hat
 split at h <;> (try cases h)
 rename_i c0 hdst hm
 split at h <;> (try cases h)
 rename_i z1 kt et z2 ht
 split at h <;> (try cases h)
 rename_i z3 kk z4 hkt
 split at h <;> (try cases h)
 rename_i y hk
 split at h <;> (try cases h)
 rename_i kk' n g hq
 cases hb : (kk == kk') with
 | false => rw [hb] at h; cases h
 | true =>
   rw [hb] at h
   injection h with h; subst h
   have := beq_iff_eq.1 hb; subst this
   intro w es clk T Q hblk hkk hents hcl hst hupd
   obtain ⟨i1, u, hi1, hu, hsz, hsh⟩ := (hc.tys _ _ ht).info
   have := shape_map hsh; subst this
   obtain ⟨i2, u2, hi2, hu2, hsz2, hsh2⟩ := (hc.tys _ _ hkt).info
   have := shape_int hsh2; subst this
   injection hupd with hupd; subst hupd
   obtain ⟨es', clk', _, h2, h3, hrun⟩ := run_del (P := P) (n := n) hu hu2 hblk hkk hents hcl hst t' o.type
   refine ⟨es', clk', .value (.tuple #[]), h2, h3, .inr ⟨⟨_, rfl⟩, hdst⟩, ?_⟩
   have e1 := ev_ok hs hp hm
   have e2 := ev_ok hs hp hk
   rw [SV.sc_den c.S E hq] at e2
   simp only [SV.den] at e1
   have ha1 : q.args = #[m, k] := by rw [← Array.toList_inj]; simpa using hax
   have ha2 : q.argTypes = #[t, t'] := by rw [← Array.toList_inj]; simpa using hat
   simp [execOp, ho, resolve, hcal, ha1, ha2, invoke, builtin, e1, e2, hrun]
theorem plan_call (hc : CtxOk P c) (hs : SlotsOk c.S E s a) (hp : PathHolds a p) {q : Call} (ho : o.op = .call q)
   (h : plan0 c s p o = some d) : Does P c.S E o a d := by
 have h0 := h
 simp only [plan0, ho] at h
 split at h <;> (try cases h)
 · rename_i f hcal
   split at h <;> (try cases h)
   rename_i n first cap hf
   split at h <;> (try cases h)
   rename_i args hargs
   intro hfn w
   obtain ⟨fn, hfn1, hfn2, hfn3⟩ := hfn
   have hv := ev_ok hs hp hf
   have h1 : q.args.map a.eval = (SV.dens c.S E args).toArray := arr_map (evs_ok hs hp hargs)
   simp only [execOp, ho, resolve, hcal, hv, h1, SV.den, Deferred.ofValue, Sem.run_bind, Sem.run_pure, Result.andThen_ok, invoke, callFunc, run_program, hfn1, hfn3, hfn2, Bool.false_eq_true, if_false]
   simp [dens_append]
 · rename_i hcal
   split at h <;> (try cases h)
   rename_i x t hax hat
   have ha1 : q.args = #[x] := by rw [← Array.toList_inj]; simpa using hax
   have ha2 : q.argTypes = #[t] := by rw [← Array.toList_inj]; simpa using hat
   split at h <;> (try cases h)
   rotate_left
   · rename_i z1 kt et z2 ht
     split at h <;> (try cases h)
     rename_i z3 kk z4 c0 hkt hx
     intro w es clk T y hblk hkk hents hask
     injection hask with hask; subst hask
     obtain ⟨i1, u, hi1, hu, hsz, hsh⟩ := (hc.tys _ _ ht).info
     have := shape_map hsh; subst this
     have hrun := run_mlen (P := P) hu hblk hents o.type
     simp [execOp, ho, resolve, hcal, ha1, ha2, invoke, builtin, ev_ok hs hp hx, SV.den, hrun]
   rename_i z1 e z2 ht
   obtain ⟨i1, u, hi1, hu, hsz, hsh⟩ := (hc.tys _ _ ht).info
   have := shape_slice hsh; subst this
   split at h <;> (try cases h)
   · rename_i n hx
     intro w
     simp [execOp, ho, resolve, hcal, ha1, ha2, invoke, builtin, Builtin.len_, ev_ok hs hp hx, SV.den, run_underlying hu, goInt]
   · rename_i k off len cap hx
     intro w
     simp [execOp, ho, resolve, hcal, ha1, ha2, invoke, builtin, Builtin.len_, ev_ok hs hp hx, SV.den, run_underlying hu, goInt]
   · rename_i k off len cap hx
     intro w
     simp [execOp, ho, resolve, hcal, ha1, ha2, invoke, builtin, Builtin.len_, ev_ok hs hp hx, SV.den, run_underlying hu, goInt]
   · rename_i k len uu qq hx
     intro w
     simp [execOp, ho, resolve, hcal, ha1, ha2, invoke, builtin, Builtin.len_, ev_ok hs hp hx, SV.den, run_underlying hu, goInt]
   · rename_i hx
     intro w
     simp [execOp, ho, resolve, hcal, ha1, ha2, invoke, builtin, Builtin.len_, ev_ok hs hp hx, SV.den, run_underlying hu, goInt]
 · rename_i hcal
   exact plan_append hc hs hp ho hcal h
 · rename_i hcal
   exact plan_delete hc hs hp ho hcal h0
 · rename_i hcal
   split at h <;> (try cases h)
   rename_i x y hxy
   split at h <;> (try cases h)
   rename_i k n g k' m hh hx hy
   intro w
   have h1 : q.args.map a.eval = #[.int k n, .int k' m] := by
     have := evs_ok hs hp hxy
     rw [← Array.toList_inj]
     simpa [SV.dens, SV.sc_den c.S E hx, SV.sc_den c.S E hy] using this
   simp [execOp, ho, resolve, hcal, h1, invoke, builtin, Builtin.min_, Builtin.min2, told_den]
 · rename_i hcal
   split at h <;> (try cases h)
   rename_i x y hxy
   split at h <;> (try cases h)
   rename_i k n g k' m hh hx hy
   intro w
   have h1 : q.args.map a.eval = #[.int k n, .int k' m] := by
     have := evs_ok hs hp hxy
     rw [← Array.toList_inj]
     simpa [SV.dens, SV.sc_den c.S E hx, SV.sc_den c.S E hy] using this
   simp [execOp, ho, resolve, hcal, h1, invoke, builtin, Builtin.max_, Builtin.max2, told_den]
end
end
end Go.Proofs.YtjemfkoamfnofaaGreat
