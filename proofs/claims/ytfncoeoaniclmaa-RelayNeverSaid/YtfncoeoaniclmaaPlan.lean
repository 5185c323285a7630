/- That what 'plan' tells is what the machine does: operation by operation. -/
import Derived.Test.YtfncoeoaniclmaaTabs
set_option linter.unusedVariables false
namespace Go.Proofs.Ytfncoeoaniclmaa
open Go Go.RowKit

section
variable {P : Program} {c : Ctx} {E : Env} {s : Slots} {a : Act} {p : Path} {o : Oper} {d : Deed}

theorem plan_yield {x : SV} (h : ∀ w, (execOp a.eval o).run P w = .ok (.value (x.den c.S E)) w) : Does P c.S E o a (.yield x) := h

theorem plan_move (hs : SlotsOk c.S E s a) (hp : PathHolds a p) {x : Operand} (ho : o.op = .move x ∨ o.op = .assign x)
    (h : (match ev s p x with | some y => some (Deed.yield y) | none => none) = some d) : Does P c.S E o a d := by
  split at h
  · rename_i y hy
    injection h with h; subst h
    intro w
    have := ev_ok hs hp hy
    rcases ho with ho | ho <;> simp [execOp, ho, this]
  · cases h

theorem pickv_ok {E : Env} {a' : Act} {cv av bv y : SV} (h : pickv cv av bv = some y) (S : Stat) :
    ∃ b, cv.den S E = .bool b ∧ y.den S E = (if b = true then av.den S E else bv.den S E) := by
  unfold pickv at h
  split at h
  · rename_i t
    injection h with h
    subst h
    refine ⟨t, rfl, ?_⟩
    cases t <;> simp
  · rename_i x
    split at h <;> (try cases h)
    · rename_i y; refine ⟨x, rfl, ?_⟩; cases x <;> simp [SV.den]
    · rename_i y; refine ⟨x, rfl, ?_⟩; cases x <;> simp [SV.den]
    · rename_i y z; refine ⟨x, rfl, ?_⟩; cases x <;> simp [SV.den]
    · rename_i y; refine ⟨x, rfl, ?_⟩; cases x <;> simp [SV.den]
    · rename_i y; refine ⟨x, rfl, ?_⟩; cases x <;> simp [SV.den]
    · rename_i y; refine ⟨x, rfl, ?_⟩; cases x <;> simp [SV.den]
    · rename_i y; refine ⟨x, rfl, ?_⟩; cases x <;> simp [SV.den]
  · cases h

theorem holds_cons {t : Nat} {b : Bool} (hp : PathHolds a p) (ht : a.tmps[t]? = some (.bool b)) : PathHolds a ((t, b) :: p) := by
  intro t' b' hm
  rcases List.mem_cons.1 hm with he | hm
  · injection he with h1 h2; subst h1 h2; exact ht
  · exact hp _ _ hm

theorem slot_eval {t : Nat} {v : Value} (h : a.eval (.tmp t) = v) (hne : v ≠ undef) : a.tmps[t]? = some v := by
  simp only [Act.eval, Array.getD_eq_getD_getElem?] at h
  cases hx : a.tmps[t]? with
  | none => rw [hx] at h; exact absurd h.symm hne
  | some x => rw [hx] at h; simp at h; rw [h]

theorem plan_pick (hs : SlotsOk c.S E s a) (hp : PathHolds a p) {t : Nat} {x y : Operand} (ho : o.op = .pick (.tmp t) x y)
    (h : (match ev s p (.tmp t) with
      | some cv => (match ev s ((t, true) :: p) x with
        | some av => (match ev s ((t, false) :: p) y with
          | some bv => (match pickv cv av bv with | some y => some (Deed.yield y) | none => none)
          | none => none)
        | none => none)
      | none => none) = some d) : Does P c.S E o a d := by
  split at h <;> (try cases h)
  rename_i cv hcv
  split at h <;> (try cases h)
  rename_i av hav
  split at h <;> (try cases h)
  rename_i bv hbv
  split at h <;> (try cases h)
  rename_i z hz
  intro w
  obtain ⟨b, hb, hy⟩ := pickv_ok (E := E) (a' := a) hz c.S
  have hc := ev_ok hs hp hcv
  rw [hb] at hc
  have ht := slot_eval hc (by simp [undef])
  cases b with
  | true =>
    have hv := ev_ok hs (holds_cons hp ht) hav
    simp [execOp, ho, hc, asBool, hv, hy]
  | false =>
    have hv := ev_ok hs (holds_cons hp ht) hbv
    simp [execOp, ho, hc, asBool, hv, hy]

theorem plan_alloc (hc : CtxOk P c) {t : TypeId} (ho : o.op = .alloc t)
    (h : (match c.tys t with | some z => some (Deed.new z.zero) | none => none) = some d) : Does P c.S E o a d := by
  split at h <;> (try cases h)
  rename_i z hz
  have hok := hc.tys _ _ hz
  intro w
  have hzero := hok.zero c.S E
  cases hi : P.info? t with
  | none => rw [hi] at hzero; cases hzero
  | some i =>
    rw [hi] at hzero
    have hzz : i.zero = some (z.zero.den c.S E) := hzero
    refine ⟨t, ?_⟩
    have hcells := run_cells_one c.S E hok.one
    simp [execOp, ho, Instr.alloc, zeroValue, typeInfo, hi, hzz, newVar, newRow, hcells]

theorem plan_box (hs : SlotsOk c.S E s a) (hp : PathHolds a p) {t : TypeId} {x : Operand} (ho : o.op = .box t x)
    (h : (match ev s p x with | some y => bif y.one then some (Deed.new y) else none | none => none) = some d) : Does P c.S E o a d := by
  split at h <;> (try cases h)
  rename_i y hy
  cases h1 : y.one with
  | false => rw [h1] at h; cases h
  | true =>
    rw [h1] at h
    injection h with h; subst h
    intro w
    refine ⟨t, ?_⟩
    simp [execOp, ho, Instr.box, newVar, newRow, ev_ok hs hp hy, run_cells_one c.S E h1]

/-- what a place in a chunk is -/
theorem pt_den {q : SV} {k : Nat} {off : Off} (h : q.pt = some (k, off)) (S : Stat) (E : Env) : q.den S E = .pointer (some (E.place k (off.val S))) := by
  unfold SV.pt at h
  split at h
  · injection h with h; injection h with h1 h2; subst h1 h2; rfl
  · injection h with h; injection h with h1 h2; subst h1 h2; rfl
  · cases h

theorem plan_load (hc : CtxOk P c) (hs : SlotsOk c.S E s a) (hp : PathHolds a p) {t : TypeId} {x : Operand} (ho : o.op = .load t x)
    (h : (match ev s p x with
      | some q => (match q.pt with
        | some (k, off) => (match c.tys t with | some z => some (Deed.load k off z.size z.sh.agg) | none => none)
        | none => none)
      | none => none) = some d) : Does P c.S E o a d := by
  split at h <;> (try cases h)
  rename_i q hx
  split at h <;> (try cases h)
  rename_i k off hq
  split at h <;> (try cases h)
  rename_i z hz
  intro w y h1 h2 hone hat
  have hv := ev_ok hs hp hx
  rw [pt_den hq] at hv
  have hr := run_loadVar_at (P := P) (c := c) (hc.tys _ _ hz) h1 h2 hone hat
  simp [execOp, ho, Instr.loadAt, Instr.sureAddr, hv, hr]

theorem plan_store (hc : CtxOk P c) (hs : SlotsOk c.S E s a) (hp : PathHolds a p) {t : TypeId} {x y : Operand} (ho : o.op = .store t x y)
    (h : (match ev s p x with
      | some q => (match q.pt with
        | some (k, off) => (match ev s p y with
          | some y => (match c.tys t with | some z => bif Nat.beq z.size y.size && y.one then some (Deed.store k off y) else none | none => none)
          | none => none)
        | none => none)
      | none => none) = some d) : Does P c.S E o a d := by
  split at h <;> (try cases h)
  rename_i q hx
  split at h <;> (try cases h)
  rename_i k off hq
  split at h <;> (try cases h)
  rename_i yv hy
  split at h <;> (try cases h)
  rename_i z hz
  cases hb : (Nat.beq z.size yv.size && yv.one) with
  | false => rw [hb] at h; cases h
  | true =>
    rw [hb] at h
    injection h with h; subst h
    intro w w' hst
    simp only [Bool.and_eq_true, Nat.beq_eq] at hb
    obtain ⟨i, u, hi, hu, hsz, hsh⟩ := (hc.tys _ _ hz).info
    have hcells := run_cells_one c.S E hb.2
    have hlen : (yv.cells c.S E).length = i.size := by rw [SV.len, hsz, hb.1]
    have hv := ev_ok hs hp hx
    rw [pt_den hq] at hv
    simp [execOp, ho, Instr.storeAt, Instr.sureAddr, hv, ev_ok hs hp hy, storeVar, sizeOf, typeInfo, hi, hcells, hlen, hst]

theorem plan_nilCheck (hs : SlotsOk c.S E s a) (hp : PathHolds a p) {x : Operand} (ho : o.op = .nilCheck x)
    (h : (match ev s p x with
      | some (.ptr k off) => some (Deed.yield (.ptr k off))
      | some (.elt k i z off) => some (Deed.yield (.elt k i z off))
      | some (.fn (.func f) a b) => some (Deed.yield (.fn (.func f) a b))
      | _ => none) = some d) : Does P c.S E o a d := by
  split at h <;> (try cases h)
  · rename_i k off hx
    intro w
    simp [execOp, ho, ev_ok hs hp hx, SV.den]
  · rename_i k i z off hx
    intro w
    simp [execOp, ho, ev_ok hs hp hx, SV.den]
  · rename_i f l r hx
    intro w
    simp [execOp, ho, ev_ok hs hp hx, SV.den]

theorem toldE_den (x : SV) (b : Bool) (S : Stat) (E : Env) : (toldE x b).den S E = .bool b := by
  cases x <;> rfl
theorem binop_ok (hc : CtxOk P c) {op : BinOp} {t : TypeId} {x y z : SV} (h : binop c op t x y = some z) (ox oy : Operand) (w : World) :
    (do eqGuard op t ox oy (x.den c.S E) (y.den c.S E); binOp op t (x.den c.S E) (y.den c.S E)).run P w = .ok (z.den c.S E) w := by
  unfold binop at h
  split at h
  · rename_i k a g k' b hh hx hy
    rw [SV.sc_den c.S E hx, SV.sc_den c.S E hy]
    split at h <;> (try cases h)
    rename_i v hv
    rw [told_den]
    simp [eqGuard_at_int, valOf_run hv]
  · rename_i a g b hh hx hy
    rw [SV.sc_den c.S E hx, SV.sc_den c.S E hy]
    split at h
    · rename_i z1 z2 hz
      obtain ⟨i, u, hi, hu, hsz, hsh⟩ := (hc.tys _ _ hz).info
      have hu' := shape_bool hsh
      subst hu'
      split at h <;> (try cases h)
      · rw [told_den]
        simp [eqGuard_at_bool, binOp, Op.equal, Op.maxDepth, run_equalIn_bool w 9999 t a b hu]
      · rw [told_den]
        simp [eqGuard_at_bool, binOp, Op.equal, Op.maxDepth, run_equalIn_bool w 9999 t a b hu]
    · cases h
  · split at h
    · split at h <;> (try cases h)
      rename_i b hb
      rw [toldE_den]
      exact (hc.eqb _ _ _ _ hb E ox oy w).1
    · split at h <;> (try cases h)
      rename_i b hb
      rw [toldE_den]
      exact (hc.eqb _ _ _ _ hb E ox oy w).2
    · cases h

theorem divs_ok {op : BinOp} {t : TypeId} {x y : SV} {d : Deed} (h : divs c op x y = some d) (ox oy : Operand) : ∃ b z, d = .test b z ∧ (b = true → ∀ w,
    (do eqGuard op t ox oy (x.den c.S E) (y.den c.S E); binOp op t (x.den c.S E) (y.den c.S E)).run P w = .ok (z.den c.S E) w) := by
  unfold divs at h
  split at h <;> (try cases h)
  rename_i k' b
  split at h <;> (try cases h)
  rename_i k a g hx
  rw [SV.sc_den c.S E hx]
  split at h <;> (try cases h)
  · cases hk : (k == k') with
    | false => rw [hk] at h; cases h
    | true =>
      rw [hk] at h
      injection h with h; subst h
      have := beq_iff_eq.1 hk; subst this
      refine ⟨_, _, rfl, fun hb w => ?_⟩
      have hb' : ¬ b = 0 := by simpa using hb
      simp [SV.den, eqGuard_at_int, binOp, Op.intDiv, hb']
  · cases hk : (k == k') with
    | false => rw [hk] at h; cases h
    | true =>
      rw [hk] at h
      injection h with h; subst h
      have := beq_iff_eq.1 hk; subst this
      refine ⟨_, _, rfl, fun hb w => ?_⟩
      have hb' : ¬ b = 0 := by simpa using hb
      simp [SV.den, eqGuard_at_int, binOp, Op.intDiv, hb']
  · refine ⟨_, _, rfl, fun hb w => ?_⟩
    have hb' : ¬ b < 0 := by simpa using hb
    simp [SV.den, eqGuard_at_int, binOp, Op.shift, hb']
  · refine ⟨_, _, rfl, fun hb w => ?_⟩
    have hb' : ¬ b < 0 := by simpa using hb
    simp [SV.den, eqGuard_at_int, binOp, Op.shift, hb']
theorem plan_binOp (hc : CtxOk P c) (hs : SlotsOk c.S E s a) (hp : PathHolds a p) {op : BinOp} {t t' : TypeId} {x y : Operand} (ho : o.op = .binOp op t x y t')
    (h : (match ev s p x with
      | some xv => (match ev s p y with
        | some yv => (match divs c op xv yv with | some d => some d | none => (match binop c op t xv yv with | some z => some (Deed.yield z) | none => none))
        | none => none)
      | none => none) = some d) : Does P c.S E o a d := by
  split at h <;> (try cases h)
  rename_i xv hx
  split at h <;> (try cases h)
  rename_i yv hy
  split at h
  · rename_i d' hd
    injection h with h; subst h
    obtain ⟨b, z, rfl, hz⟩ := divs_ok (P := P) (t := t) (E := E) hd x y
    intro hb w
    have := hz hb w
    rw [← ev_ok hs hp hx, ← ev_ok hs hp hy] at this
    simp only [execOp, ho]
    rw [Sem.run_bind, this]
    simp
  split at h <;> (try cases h)
  rename_i z hz
  intro w
  have := binop_ok (E := E) hc hz x y w
  rw [← ev_ok hs hp hx, ← ev_ok hs hp hy] at this
  simp only [execOp, ho]
  rw [Sem.run_bind, this]
  simp

theorem plan_unOp (hs : SlotsOk c.S E s a) (hp : PathHolds a p) {op : UnOp} {t : TypeId} {x : Operand} (ho : o.op = .unOp op t x)
    (h : (match ev s p x with
      | some xv => (match xv.sc c.S with
        | some (xx, g) => (match valOf (Op.unary op xx) with | some z => some (Deed.yield (told g z)) | none => none)
        | none => none)
      | none => none) = some d) : Does P c.S E o a d := by
  split at h <;> (try cases h)
  rename_i xv hx
  split at h <;> (try cases h)
  rename_i xx g hxx
  split at h <;> (try cases h)
  rename_i z hz
  intro w
  have hv := ev_ok hs hp hx
  rw [SV.sc_den c.S E hxx] at hv
  simp only [execOp, ho, hv]
  rw [Sem.run_bind, valOf_run hz]
  simp [told_den]

theorem plan_convert (hc : CtxOk P c) (hs : SlotsOk c.S E s a) (hp : PathHolds a p) {src dst : TypeId} {x : Operand} (ho : o.op = .convert src dst x)
    (h : (match ev s p x with
      | some xv => (match xv.sc c.S with
        | some (.int k n, g) => (match c.tys dst with
          | some ⟨_, .int k', _⟩ => (match c.tys src with | some _ => some (Deed.yield (told g (.int k' (k'.wrap n)))) | none => none)
          | _ => none)
        | _ => none)
      | none => none) = some d) : Does P c.S E o a d := by
  split at h <;> (try cases h)
  rename_i xv hx
  split at h <;> (try cases h)
  rename_i k n g hxx
  split at h <;> (try cases h)
  rename_i z1 k' z2 hd
  split at h <;> (try cases h)
  rename_i z3 hsrc
  intro w
  obtain ⟨i, u, hi, hu, hsz, hsh⟩ := (hc.tys _ _ hd).info
  obtain ⟨i', u', hi', hu', hsz', hsh'⟩ := (hc.tys _ _ hsrc).info
  have := shape_int hsh
  subst this
  have hv := ev_ok hs hp hx
  rw [SV.sc_den c.S E hxx] at hv
  simp only [execOp, ho, hv]
  have hcv : (convert src dst (.int k n)).run P w = .ok (.int k' (k'.wrap n)) w := by
    unfold convert
    simp [run_underlying hu', run_underlying hu, Conv.intToInt]
  rw [Sem.run_bind, hcv]
  simp [told_den]

theorem plan_fieldAddr (hc : CtxOk P c) (hs : SlotsOk c.S E s a) (hp : PathHolds a p) {t : TypeId} {x : Operand} {f : Nat} (ho : o.op = .fieldAddr t x f)
    (h : (match ev s p x with
      | some (.ptr k off) => (match c.tys t with
        | some ⟨_, .strct fs, _⟩ => (match nthN fs f with
          | some (q, ft) => (match c.tys ft with
            | some e => bif Nat.blt 0 e.size then some (Deed.yield (.ptr k (Nat.add off q))) else none
            | none => none)
          | none => none)
        | _ => none)
      | some (.elt k j z off) => (match c.tys t with
        | some ⟨_, .strct fs, _⟩ => (match nthN fs f with
          | some (q, ft) => (match c.tys ft with
            | some e => bif Nat.blt 0 e.size then some (Deed.yield (.elt k j z (Nat.add off q))) else none
            | none => none)
          | none => none)
        | _ => none)
      | _ => none) = some d) : Does P c.S E o a d := by
  have key : ∀ (k : Nat) (m : Nat) (xv : SV) (g : Nat → SV), ev s p x = some xv → xv.den c.S E = .pointer (some (E.place k m)) → (∀ q, (g q).den c.S E = .pointer (some (E.place k (m + q)))) →
      (match c.tys t with
        | some ⟨_, .strct fs, _⟩ => (match nthN fs f with
          | some (q, ft) => (match c.tys ft with
            | some e => bif Nat.blt 0 e.size then some (Deed.yield (g q)) else none
            | none => none)
          | none => none)
        | _ => none) = some d → Does P c.S E o a d := by
    intro k m xv g hx hxv hg h
    split at h <;> (try cases h)
    rename_i z1 fs z2 ht
    split at h <;> (try cases h)
    rename_i q ft hn
    split at h <;> (try cases h)
    rename_i e he
    cases hb : Nat.blt 0 e.size with
    | false => rw [hb] at h; cases h
    | true =>
      rw [hb] at h
      injection h with h; subst h
      intro w
      obtain ⟨i, u, hi, hu, hsz, hsh⟩ := (hc.tys _ _ ht).info
      obtain ⟨fields, rfl, hf⟩ := shape_struct hsh
      obtain ⟨fx, hfx, rfl, rfl⟩ := field_of hf hn
      obtain ⟨i', u', hi', hu', hsz', hsh'⟩ := (hc.tys _ _ he).info
      have hpos : ¬ i'.size = 0 := by
        have : 0 < e.size := by simpa using hb
        omega
      have hv := ev_ok hs hp hx
      rw [hxv] at hv
      have hadd : (E.place k m).add fx.offset = E.place k (m + fx.offset) := by
        unfold Addr.add Env.place
        split
        · rename_i h0; simp [h0]
        · simp [Nat.add_assoc]
      simp [execOp, ho, hv, hg, Instr.fieldAt, run_underlying hu, hfx, Instr.sureAddr, fieldPlace, sizeOf, typeInfo, hi', hpos, hadd]
  split at h <;> (try cases h)
  · rename_i k off hx
    exact key k off _ (fun q => .ptr k (Nat.add off q)) hx rfl (fun q => rfl) h
  · rename_i k j z off hx
    refine key k (Nat.add (Nat.mul (j.int c.S).toNat z) off) _ (fun q => .elt k j z (Nat.add off q)) hx rfl (fun q => ?_) h
    simp [SV.den, Nat.add_assoc]

theorem plan_extract (hs : SlotsOk c.S E s a) (hp : PathHolds a p) {t : Operand} {i : Nat} (ho : o.op = .extract t i)
    (h : (match ev s p t with
      | some (.tup l) => (match nthS l i with | some y => some (Deed.yield y) | none => none)
      | _ => none) = some d) : Does P c.S E o a d := by
  split at h <;> (try cases h)
  rename_i l hx
  split at h <;> (try cases h)
  rename_i y hy
  intro w
  rw [nthS_eq] at hy
  have hv := ev_ok hs hp hx
  have : (SV.dens c.S E l)[i]? = some (y.den c.S E) := by rw [SV.dens_map, List.getElem?_map, hy]; rfl
  simp [execOp, ho, hv, SV.den, Instr.extract, this]

theorem plan_field (hc : CtxOk P c) (hs : SlotsOk c.S E s a) (hp : PathHolds a p) {t : TypeId} {x : Operand} {f : Nat} (ho : o.op = .field t x f)
    (h : (match ev s p x with
      | some xv => (match c.tys t with
        | some ⟨_, .strct fs, _⟩ => (match nthN fs f with
          | some (q, ft) => (match c.tys ft with
            | some e => bif xv.aggr then (match xv.get q e.size e.sh.agg with | some y => some (Deed.yield y) | none => none) else none
            | none => none)
          | none => none)
        | _ => none)
      | none => none) = some d) : Does P c.S E o a d := by
  split at h <;> (try cases h)
  rename_i xv hx
  split at h <;> (try cases h)
  rename_i z1 fs z2 ht
  split at h <;> (try cases h)
  rename_i q ft hn
  split at h <;> (try cases h)
  rename_i e he
  cases hb : xv.aggr with
  | false => rw [hb] at h; cases h
  | true =>
    rw [hb] at h
    simp only [cond_true] at h
    split at h <;> (try cases h)
    rename_i y hy
    intro w
    obtain ⟨i, u, hi, hu, hsz, hsh⟩ := (hc.tys _ _ ht).info
    obtain ⟨fields, rfl, hf⟩ := shape_struct hsh
    obtain ⟨fx, hfx, rfl, rfl⟩ := field_of hf hn
    have hv := ev_ok hs hp hx
    rw [SV.den_agg c.S E xv hb] at hv
    have hpt := run_part_at (hc.tys _ _ he) w (SV.get_ok c.S E _ _ _ _ _ hy)
    simp [execOp, ho, hv, Instr.field, run_underlying hu, hfx, asAgg, hpt]

theorem run_indexAt_sl {t e : TypeId} {u : TypeDesc} (hu : P.underlying t = some (.slice e)) {i : TypeInfo} (hi : P.info? e = some i) (ad : Addr) (len cap : Nat) (k : IntKind) (m : Int) (h0 : 0 ≤ m) (h1 : m < len) (w : World) :
    (Instr.indexAt t (.slice (some ad) len cap) (.int k m)).run P w = .ok (.pointer (some (ad.add (m.toNat * i.size)))) w := by
  simp [Instr.indexAt, asIntOf, run_underlying hu, h0, h1, sizeOf, typeInfo, hi]

theorem run_indexAt_ar {t e : TypeId} {n : Nat} (hu : P.underlying t = some (.array n e)) {i : TypeInfo} (hi : P.info? e = some i) (ad : Addr) (k : IntKind) (m : Int) (h0 : 0 ≤ m) (h1 : m < n) (w : World) :
    (Instr.indexAt t (.pointer (some ad)) (.int k m)).run P w = .ok (.pointer (some (ad.add (m.toNat * i.size)))) w := by
  simp [Instr.indexAt, asIntOf, run_underlying hu, Instr.sureAddr, h0, h1, sizeOf, typeInfo, hi]

theorem place_add (E : Env) (k o n : Nat) : (E.place k o).add n = E.place k (o + n) := by
  unfold Addr.add Env.place
  split
  · rename_i h0; simp [h0]
  · simp [Nat.add_assoc]

/-- the named elements of named slices lie where they are said to lie -/
def WinOk (S : Stat) (win : List (Nat × Nat × Nat × Nat)) (E : Env) : Prop := ∀ n j k z, (n, j, k, z) ∈ win → ∃ ad len cap, S.sl n = (some ad, len, cap) ∧ 0 ≤ S.ix j ∧ S.ix j < len ∧ ad.add ((S.ix j).toNat * z) = E.place k 0

theorem winOf_mem : ∀ {l : List (Nat × Nat × Nat × Nat)} {n j k z : Nat}, winOf l n j = some (k, z) → (n, j, k, z) ∈ l
  | [], _, _, _, _, h => by simp [winOf] at h
  | (n', j', c', z') :: r, n, j, k, z, h => by
    unfold winOf at h
    cases hb : (Nat.beq n' n && Nat.beq j' j) with
    | true =>
      rw [hb] at h
      simp only [cond_true, Option.some.injEq, Prod.mk.injEq] at h
      simp only [Bool.and_eq_true, Nat.beq_eq] at hb
      obtain ⟨rfl, rfl⟩ := hb
      obtain ⟨rfl, rfl⟩ := h
      exact List.mem_cons_self
    | false => rw [hb] at h; exact List.mem_cons_of_mem _ (winOf_mem h)

theorem plan_indexAddr (hc : CtxOk P c) (hw : WinOk c.S c.win E) (hs : SlotsOk c.S E s a) (hp : PathHolds a p) {t : TypeId} {x i : Operand} (ho : o.op = .indexAddr t x i)
    (h : plan c s p o = some d) : Does P c.S E o a d := by
  simp only [plan, ho] at h
  split at h <;> (try cases h)
  · rename_i n hx
    split at h <;> (try cases h)
    rename_i j hi
    split at h <;> (try cases h)
    rename_i k z hwin
    split at h <;> (try cases h)
    rename_i z1 e z2 ht
    split at h <;> (try cases h)
    rename_i d' he
    cases hb : Nat.beq d'.size z with
    | false => rw [hb] at h; cases h
    | true =>
      rw [hb] at h
      injection h with h; subst h
      intro w
      obtain ⟨i1, u, hi1, hu, hsz, hsh⟩ := (hc.tys _ _ ht).info
      have := shape_slice hsh; subst this
      obtain ⟨i2, u2, hi2, hu2, hsz2, hsh2⟩ := (hc.tys _ _ he).info
      obtain ⟨ad, len, cap, hsl, h0, h1, hpl⟩ := hw _ _ _ _ (winOf_mem hwin)
      have hv := ev_ok hs hp hx
      have hvi := ev_ok hs hp hi
      simp only [SV.den, hsl] at hv hvi
      have hbz : d'.size = z := Nat.eq_of_beq_eq_true hb
      simp [execOp, ho, hv, hvi, run_indexAt_sl (u := u2) hu hi2 ad len cap .i64 _ h0 h1, SV.den, hsz2, hbz, hpl]
  · rename_i k len uu qq hx
    split at h <;> (try cases h)
    rename_i q hi
    split at h <;> (try cases h)
    rename_i j hq
    split at h <;> (try cases h)
    rename_i z1 e z2 ht
    split at h <;> (try cases h)
    rename_i d' he
    intro hb w
    simp only [Bool.and_eq_true, decide_eq_true_eq] at hb
    obtain ⟨h0, h1⟩ := hb
    obtain ⟨i1, u, hi1, hu, hsz, hsh⟩ := (hc.tys _ _ ht).info
    have := shape_slice hsh; subst this
    obtain ⟨i2, u2, hi2, hu2, hsz2, hsh2⟩ := (hc.tys _ _ he).info
    have hv := ev_ok hs hp hx
    have hvi := ev_ok hs hp hi
    have hne : Nat.beq len 0 = false := by
      cases hb : Nat.beq len 0 with
      | false => rfl
      | true => have := Nat.eq_of_beq_eq_true hb; subst this; simp at h1; omega
    obtain ⟨kk, hkk⟩ : ∃ kk, q.den c.S E = .int kk (j.int c.S) := by
      unfold SV.idx at hq
      split at hq
      · injection hq with hq; subst hq; exact ⟨.i64, rfl⟩
      · injection hq with hq; subst hq; exact ⟨_, rfl⟩
      · injection hq with hq; subst hq; exact ⟨_, rfl⟩
      · cases hq
    rw [hkk] at hvi
    simp only [SV.den, hne, Bool.and_false, cond_false] at hv
    have hr := run_indexAt_sl (P := P) (u := u2) hu hi2 (E.place k 0) len (bif qq then len else (E.cp uu).1) kk (j.int c.S) h0 h1 w
    simp only [execOp, ho, hv, hvi]
    rw [Sem.run_bind, hr]
    simp [SV.den, hsz2, place_add]
  · rename_i k off len cap hx
    split at h <;> (try cases h)
    rename_i kk m hi
    split at h <;> (try cases h)
    rename_i z1 e z2 ht
    split at h <;> (try cases h)
    rename_i d' he
    cases hb : Nat.blt m len with
    | false => rw [hb] at h; cases h
    | true =>
      rw [hb] at h
      injection h with h; subst h
      intro w
      obtain ⟨i1, u, hi1, hu, hsz, hsh⟩ := (hc.tys _ _ ht).info
      have := shape_slice hsh; subst this
      obtain ⟨i2, u2, hi2, hu2, hsz2, hsh2⟩ := (hc.tys _ _ he).info
      have hv := ev_ok hs hp hx
      have hvi := ev_ok hs hp hi
      simp only [SV.den] at hv hvi
      have hlt : m < len := by simpa using hb
      have hr := run_indexAt_sl (P := P) (u := u2) hu hi2 (E.place k off) len cap kk (.ofNat m) (Int.natCast_nonneg m) (Int.ofNat_lt.2 hlt) w
      simp only [execOp, ho, hv, hvi]
      rw [Sem.run_bind, hr]
      simp [SV.den, hsz2, place_add]
  · rename_i k off len uu hx
    split at h <;> (try cases h)
    rename_i kk m hi
    split at h <;> (try cases h)
    rename_i z1 e z2 ht
    split at h <;> (try cases h)
    rename_i d' he
    cases hb : Nat.blt m len with
    | false => rw [hb] at h; cases h
    | true =>
      rw [hb] at h
      injection h with h; subst h
      intro w
      obtain ⟨i1, u, hi1, hu, hsz, hsh⟩ := (hc.tys _ _ ht).info
      have := shape_slice hsh; subst this
      obtain ⟨i2, u2, hi2, hu2, hsz2, hsh2⟩ := (hc.tys _ _ he).info
      have hv := ev_ok hs hp hx
      have hvi := ev_ok hs hp hi
      simp only [SV.den] at hv hvi
      have hlt : m < len := by simpa using hb
      have hr := run_indexAt_sl (P := P) (u := u2) hu hi2 (E.place k off) len (E.cp uu).1 kk (.ofNat m) (Int.natCast_nonneg m) (Int.ofNat_lt.2 hlt) w
      simp only [execOp, ho, hv, hvi]
      rw [Sem.run_bind, hr]
      simp [SV.den, hsz2, place_add]
  · rename_i k off hx
    split at h <;> (try cases h)
    rename_i kk m hi
    split at h <;> (try cases h)
    rename_i z1 len e z2 ht
    split at h <;> (try cases h)
    rename_i d' he
    cases hb : Nat.blt m len with
    | false => rw [hb] at h; cases h
    | true =>
      rw [hb] at h
      injection h with h; subst h
      intro w
      obtain ⟨i1, u, hi1, hu, hsz, hsh⟩ := (hc.tys _ _ ht).info
      have := shape_arr hsh; subst this
      obtain ⟨i2, u2, hi2, hu2, hsz2, hsh2⟩ := (hc.tys _ _ he).info
      have hv := ev_ok hs hp hx
      have hvi := ev_ok hs hp hi
      simp only [SV.den] at hv hvi
      have hlt : m < len := by simpa using hb
      have hr := run_indexAt_ar (P := P) hu hi2 (E.place k off) kk (.ofNat m) (Int.natCast_nonneg m) (Int.ofNat_lt.2 hlt) w
      simp only [execOp, ho, hv, hvi]
      rw [Sem.run_bind, hr]
      simp [SV.den, hsz2, place_add]
end
end Go.Proofs.Ytfncoeoaniclmaa
