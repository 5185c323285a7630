/- Symbolic values: what they stand for, their parts, and that reads and writes of parts are right. -/
import Derived.Test.YthhdfidenigcaaaMem
set_option linter.unusedVariables false
namespace Go.Proofs.Ythhdfidenigcaaa
open Go Go.RowKit

inductive SV where
  | v (x : Value)
  | kb (b : Bool)
  | ki (k : IntKind) (n : Int)
  | ptr (c off : Nat)
  | ix (j : Nat)
  | sl (n : Nat)
  | slc (c off len cap : Nat)
  | slu (c off len u : Nat)
  | fn (f : Fn) (first cap : List SV)
  | rcd (r : Rec)
  | agg (l : List SV)
  | tup (l : List SV)

/-- what names stand for: named slices, named numbers; which chunks are only read -/
structure Stat where
  sl : Nat → Option Addr × Nat × Nat
  ix : Nat → Int
  ro : Nat → Bool

/-- where chunks lie, and what capacities are -/
structure Env where
  ad : Nat → Addr
  cp : Nat → Nat

def Env.place (E : Env) (c o : Nat) : Addr := ⟨(E.ad c).block, (E.ad c).off + o, none⟩

section
variable (S : Stat) (E : Env)
mutual
def SV.cells : SV → List Value
  | .v x => [x]
  | .kb b => [.bool b]
  | .ki k n => [.int k n]
  | .ptr c o => [.pointer (some (E.place c o))]
  | .ix j => [.int .i64 (S.ix j)]
  | .sl n => [.slice (S.sl n).1 (S.sl n).2.1 (S.sl n).2.2]
  | .slc c o len cap => [.slice (some (E.place c o)) len cap]
  | .slu c o len u => [.slice (some (E.place c o)) len (E.cp u)]
  | .fn f a b => [.func f (SV.cellss a).toArray (SV.cellss b).toArray]
  | .rcd r => r.cells
  | .agg l => SV.cellss l
  | .tup l => [.tuple (SV.dens l).toArray]
def SV.cellss : List SV → List Value
  | [] => []
  | x :: r => SV.cells x ++ SV.cellss r
def SV.den : SV → Value
  | .v x => x
  | .kb b => .bool b
  | .ki k n => .int k n
  | .ptr c o => .pointer (some (E.place c o))
  | .ix j => .int .i64 (S.ix j)
  | .sl n => .slice (S.sl n).1 (S.sl n).2.1 (S.sl n).2.2
  | .slc c o len cap => .slice (some (E.place c o)) len cap
  | .slu c o len u => .slice (some (E.place c o)) len (E.cp u)
  | .fn f a b => .func f (SV.cellss a).toArray (SV.cellss b).toArray
  | .rcd r => .agg r.cells.toArray
  | .agg l => .agg (SV.cellss l).toArray
  | .tup l => .tuple (SV.dens l).toArray
def SV.dens : List SV → List Value
  | [] => []
  | x :: r => SV.den x :: SV.dens r
end
end

/-- a struct or an array -/
def SV.aggr : SV → Bool
  | .rcd _ | .agg _ => true
  | _ => false

theorem SV.cells_flat (S : Stat) (E : Env) (x : SV) (h : x.aggr = false) : x.cells S E = [x.den S E] := by
  cases x <;> simp_all [SV.aggr, SV.cells, SV.den]
theorem SV.den_agg (S : Stat) (E : Env) (x : SV) (h : x.aggr = true) : x.den S E = .agg (x.cells S E).toArray := by
  cases x <;> simp_all [SV.aggr, SV.cells, SV.den]
theorem SV.dens_map (S : Stat) (E : Env) : ∀ l : List SV, SV.dens S E l = l.map (SV.den S E)
  | [] => by simp [SV.dens]
  | x :: r => by simp [SV.dens, SV.dens_map S E r]

mutual
def SV.size : SV → Nat
  | .rcd r => r.size
  | .agg l => SV.sizes l
  | _ => 1
def SV.sizes : List SV → Nat
  | [] => 0
  | x :: r => Nat.add x.size (SV.sizes r)
end
mutual
theorem SV.len (S : Stat) (E : Env) : ∀ x : SV, (x.cells S E).length = x.size
  | .rcd r => by simp [SV.cells, SV.size, Rec.len]
  | .agg l => by simp [SV.cells, SV.size, SV.lens S E l]
  | .v _ | .kb _ | .ki _ _ | .ptr _ _ | .ix _ | .sl _ | .slc _ _ _ _ | .slu _ _ _ _ | .fn _ _ _ | .tup _ => by simp [SV.cells, SV.size]
theorem SV.lens (S : Stat) (E : Env) : ∀ l : List SV, (SV.cellss S E l).length = SV.sizes l
  | [] => by simp [SV.cellss, SV.sizes]
  | x :: r => by simp [SV.cellss, SV.sizes, SV.len S E x, SV.lens S E r]
end

def RV.sv : RV → SV
  | .val x => .v x
  | .rcd r => .rcd r
theorem RV.sv_cells (S : Stat) (E : Env) (x : RV) : x.sv.cells S E = x.cells := by cases x <;> rfl
def SV.rv : SV → Option RV
  | .v x => some (.val x)
  | .kb b => some (.val (.bool b))
  | .ki k n => some (.val (.int k n))
  | .rcd r => some (.rcd r)
  | _ => none
theorem SV.rv_cells (S : Stat) (E : Env) {x : SV} {y : RV} (h : x.rv = some y) : x.cells S E = y.cells := by
  cases x <;> simp only [SV.rv, Option.some.injEq, reduceCtorEq] at h <;> subst h <;> rfl

-- a part of x
mutual
def SV.get : SV → Nat → Nat → Bool → Option SV
  | .rcd r, o, n, g => match r.get o n with
    | some y => bif y.sv.aggr == g then some y.sv else none
    | none => none
  | .agg l, o, n, g => SV.gets l o n g
  | _, _, _, _ => none
def SV.gets : List SV → Nat → Nat → Bool → Option SV
  | [], _, _, _ => none
  | x :: r, o, n, g =>
    bif Nat.blt o x.size then (bif (Nat.beq o 0 && Nat.beq n x.size) && (x.aggr == g) then some x else x.get o n g) else SV.gets r (Nat.sub o x.size) n g
end
def SV.part (x : SV) (o n : Nat) (g : Bool) : Option SV := bif (Nat.beq o 0 && Nat.beq n x.size) && (x.aggr == g) then some x else x.get o n g

def PartOk (S : Stat) (E : Env) (cs : List Value) (o n : Nat) (g : Bool) (y : SV) : Prop :=
  y.aggr = g ∧ y.cells S E = (cs.drop o).take n ∧ y.size = n ∧ o + n ≤ cs.length

theorem PartOk.all (S : Stat) (E : Env) {x : SV} {o n : Nat} {g : Bool} (h : ((Nat.beq o 0 && Nat.beq n x.size) && (x.aggr == g)) = true) : PartOk S E (x.cells S E) o n g x := by
  simp only [Bool.and_eq_true, Nat.beq_eq, beq_iff_eq] at h
  obtain ⟨⟨rfl, rfl⟩, rfl⟩ := h
  refine ⟨rfl, ?_, rfl, by rw [SV.len]; omega⟩
  rw [List.drop_zero, List.take_of_length_le (by rw [SV.len]; omega)]

mutual
theorem SV.get_ok (S : Stat) (E : Env) : ∀ (x : SV) (o n : Nat) (g : Bool) (y : SV), x.get o n g = some y → PartOk S E (x.cells S E) o n g y
  | .rcd r, o, n, g, y, h => by
    unfold SV.get at h
    split at h
    · rename_i z hz
      obtain ⟨h1, h2, h3⟩ := Rec.get_ok hz
      cases hg : (z.sv.aggr == g) with
      | true =>
        rw [hg] at h
        simp only [cond_true, Option.some.injEq] at h
        subst h
        refine ⟨by simpa using hg, ?_, ?_, ?_⟩
        · rw [RV.sv_cells, h1]; simp [SV.cells]
        · rw [← SV.len S E, RV.sv_cells, h2]
        · simp only [SV.cells, Rec.len]; exact h3
      | false => rw [hg] at h; cases h
    · cases h
  | .agg l, o, n, g, y, h => by
    unfold SV.get at h
    have := SV.gets_ok S E l o n g y h
    simpa [SV.cells] using this
  | .v _, _, _, _, _, h | .kb _, _, _, _, _, h | .ki _ _, _, _, _, _, h | .ptr _ _, _, _, _, _, h | .ix _, _, _, _, _, h | .sl _, _, _, _, _, h | .slc _ _ _ _, _, _, _, _, h | .slu _ _ _ _, _, _, _, _, h | .fn _ _ _, _, _, _, _, h | .tup _, _, _, _, _, h => by
    simp [SV.get] at h
theorem SV.gets_ok (S : Stat) (E : Env) : ∀ (l : List SV) (o n : Nat) (g : Bool) (y : SV), SV.gets l o n g = some y → PartOk S E (SV.cellss S E l) o n g y
  | [], _, _, _, _, h => by simp [SV.gets] at h
  | x :: r, o, n, g, y, h => by
    unfold SV.gets at h
    have hx := SV.len S E x
    cases hb : Nat.blt o x.size with
    | true =>
      rw [hb] at h
      simp only [cond_true] at h
      have hlt : o < x.size := by simpa using hb
      have hin : PartOk S E (x.cells S E) o n g y := by
        cases hc : ((Nat.beq o 0 && Nat.beq n x.size) && (x.aggr == g)) with
        | true =>
          rw [hc] at h
          simp only [cond_true, Option.some.injEq] at h
          subst h
          exact PartOk.all S E hc
        | false =>
          rw [hc] at h
          exact SV.get_ok S E x o n g y h
      obtain ⟨h1, h2, h3, h4⟩ := hin
      refine ⟨h1, ?_, h3, by simp only [SV.cellss, List.length_append]; omega⟩
      rw [h2, SV.cellss, List.drop_append_of_le_length (by omega), List.take_append_of_le_length (by simp; omega)]
    | false =>
      rw [hb] at h
      simp only [cond_false] at h
      have hge : x.size ≤ o := by
        have : ¬ o < x.size := by intro hh; have := (show Nat.blt o x.size = true by simpa using hh); rw [this] at hb; cases hb
        omega
      obtain ⟨h1, h2, h3, h4⟩ := SV.gets_ok S E r (Nat.sub o x.size) n g y h
      have hsub : Nat.sub o x.size = o - x.size := rfl
      rw [hsub] at h2 h4
      refine ⟨h1, ?_, h3, by simp only [SV.cellss, List.length_append]; omega⟩
      rw [h2, SV.cellss, List.drop_append, show List.drop o (SV.cells S E x) = [] from List.drop_of_length_le (by omega), hx]; rfl
end

theorem SV.part_ok (S : Stat) (E : Env) {x : SV} {o n : Nat} {g : Bool} {y : SV} (h : x.part o n g = some y) : PartOk S E (x.cells S E) o n g y := by
  unfold SV.part at h
  cases hc : ((Nat.beq o 0 && Nat.beq n x.size) && (x.aggr == g)) with
  | true =>
    rw [hc] at h
    simp only [cond_true, Option.some.injEq] at h
    subst h
    exact PartOk.all S E hc
  | false => rw [hc] at h; exact SV.get_ok S E x o n g y h

mutual
def SV.set : SV → Nat → SV → Option SV
  | .rcd r, o, y => match y.rv with
    | some z => (match r.set o z with | some q => some (.rcd q) | none => none)
    | none => none
  | .agg l, o, y => match SV.sets l o y with | some l => some (.agg l) | none => none
  | _, _, _ => none
def SV.sets : List SV → Nat → SV → Option (List SV)
  | [], _, _ => none
  | x :: r, o, y =>
    bif Nat.blt o x.size then
      (bif (Nat.beq o 0 && Nat.beq y.size x.size) && (y.aggr == x.aggr) then some (y :: r) else (match x.set o y with | some z => some (z :: r) | none => none))
    else (match SV.sets r (Nat.sub o x.size) y with | some l => some (x :: l) | none => none)
end
def SV.put (x : SV) (o : Nat) (y : SV) : Option SV := bif (Nat.beq o 0 && Nat.beq y.size x.size) && (y.aggr == x.aggr) then some y else x.set o y

def PutOk (S : Stat) (E : Env) (cs : List Value) (o : Nat) (y : SV) (ds : List Value) : Prop :=
  ds = splice cs o (y.cells S E) ∧ o + y.size ≤ cs.length

theorem PutOk.all (S : Stat) (E : Env) {x y : SV} {o : Nat} (h : ((Nat.beq o 0 && Nat.beq y.size x.size) && (y.aggr == x.aggr)) = true) : PutOk S E (x.cells S E) o y (y.cells S E) := by
  simp only [Bool.and_eq_true, Nat.beq_eq, beq_iff_eq] at h
  obtain ⟨⟨rfl, h2⟩, _⟩ := h
  refine ⟨?_, by rw [SV.len]; omega⟩
  unfold splice
  rw [List.take_zero, Nat.zero_add, List.drop_of_length_le (by rw [SV.len, SV.len]; omega)]; simp

mutual
theorem SV.set_ok (S : Stat) (E : Env) : ∀ (x : SV) (o : Nat) (y z : SV), x.set o y = some z → PutOk S E (x.cells S E) o y (z.cells S E) ∧ z.size = x.size
  | .rcd r, o, y, z, h => by
    unfold SV.set at h
    split at h
    · rename_i q hq
      split at h
      · rename_i r' hr
        injection h with h
        subst h
        obtain ⟨⟨h1, h2⟩, h3⟩ := Rec.set_ok hr
        have hc := SV.rv_cells S E hq
        refine ⟨⟨?_, ?_⟩, by simp [SV.size, h3]⟩
        · simp only [SV.cells, hc, h1]
        · rw [← SV.len S E y, hc]; simp only [SV.cells, Rec.len]; exact h2
      · cases h
    · cases h
  | .agg l, o, y, z, h => by
    unfold SV.set at h
    split at h
    · rename_i l' hl
      injection h with h
      subst h
      have := SV.sets_ok S E l o y l' hl
      simpa [SV.cells, SV.size] using this
    · cases h
  | .v _, _, _, _, h | .kb _, _, _, _, h | .ki _ _, _, _, _, h | .ptr _ _, _, _, _, h | .ix _, _, _, _, h | .sl _, _, _, _, h | .slc _ _ _ _, _, _, _, h | .slu _ _ _ _, _, _, _, h | .fn _ _ _, _, _, _, h | .tup _, _, _, _, h => by
    simp [SV.set] at h
theorem SV.sets_ok (S : Stat) (E : Env) : ∀ (l : List SV) (o : Nat) (y : SV) (l' : List SV), SV.sets l o y = some l' → PutOk S E (SV.cellss S E l) o y (SV.cellss S E l') ∧ SV.sizes l' = SV.sizes l
  | [], _, _, _, h => by simp [SV.sets] at h
  | x :: r, o, y, l', h => by
    unfold SV.sets at h
    have hx := SV.len S E x
    have hy := SV.len S E y
    cases hb : Nat.blt o x.size with
    | true =>
      rw [hb] at h
      simp only [cond_true] at h
      have hlt : o < x.size := by simpa using hb
      have hin : ∃ z, l' = z :: r ∧ PutOk S E (x.cells S E) o y (z.cells S E) ∧ z.size = x.size := by
        cases hc : ((Nat.beq o 0 && Nat.beq y.size x.size) && (y.aggr == x.aggr)) with
        | true =>
          rw [hc] at h
          simp only [cond_true, Option.some.injEq] at h
          refine ⟨y, h.symm, PutOk.all S E hc, ?_⟩
          simp only [Bool.and_eq_true, Nat.beq_eq] at hc
          exact hc.1.2
        | false =>
          rw [hc] at h
          simp only [cond_false] at h
          split at h
          · rename_i z hz
            injection h with h
            exact ⟨z, h.symm, SV.set_ok S E x o y z hz⟩
          · cases h
      obtain ⟨z, rfl, ⟨h1, h2⟩, h3⟩ := hin
      refine ⟨⟨?_, by simp only [SV.cellss, List.length_append]; omega⟩, by simp [SV.sizes, h3]⟩
      simp only [SV.cellss, h1]
      have := splice_in [] (x.cells S E) (SV.cellss S E r) (y.cells S E) o (by rw [hy]; exact h2)
      simpa using this.symm
    | false =>
      rw [hb] at h
      simp only [cond_false] at h
      have hge : x.size ≤ o := by
        have : ¬ o < x.size := by intro hh; have := (show Nat.blt o x.size = true by simpa using hh); rw [this] at hb; cases hb
        omega
      split at h
      · rename_i l2 hl2
        injection h with h
        subst h
        obtain ⟨⟨h1, h2⟩, h3⟩ := SV.sets_ok S E r (Nat.sub o x.size) y l2 hl2
        have hsub : Nat.sub o x.size = o - x.size := rfl
        rw [hsub] at h1 h2
        refine ⟨⟨?_, by simp only [SV.cellss, List.length_append]; omega⟩, by simp [SV.sizes, h3]⟩
        simp only [SV.cellss, h1]
        have := splice_in (x.cells S E) (SV.cellss S E r) [] (y.cells S E) (o - x.size) (by rw [hy]; exact h2)
        simp only [List.append_nil] at this
        rw [hx, Nat.add_sub_cancel' hge] at this
        exact this.symm
      · cases h
end

theorem SV.put_ok (S : Stat) (E : Env) {x y z : SV} {o : Nat} (h : x.put o y = some z) : PutOk S E (x.cells S E) o y (z.cells S E) ∧ z.size = x.size := by
  unfold SV.put at h
  cases hc : ((Nat.beq o 0 && Nat.beq y.size x.size) && (y.aggr == x.aggr)) with
  | true =>
    rw [hc] at h
    simp only [cond_true, Option.some.injEq] at h
    subst h
    refine ⟨PutOk.all S E hc, ?_⟩
    simp only [Bool.and_eq_true, Nat.beq_eq] at hc
    exact hc.1.2
  | false => rw [hc] at h; exact SV.set_ok S E x o y z h

-- all cells are values of one cell
mutual
def SV.one : SV → Bool
  | .v x => x.oneCell'
  | .agg l => SV.ones l
  | .tup _ => false
  | _ => true
def SV.ones : List SV → Bool
  | [] => true
  | x :: r => SV.one x && SV.ones r
end
mutual
theorem SV.one_cells (S : Stat) (E : Env) : ∀ x : SV, x.one = true → ∀ q ∈ x.cells S E, q.oneCell' = true
  | .v x, h, q, hq => by
    simp only [SV.cells, List.mem_singleton] at hq
    subst hq
    simpa [SV.one] using h
  | .rcd r, h, q, hq => plainV.one (r.plain q (by simpa [SV.cells] using hq))
  | .agg l, h, q, hq => SV.ones_cells S E l (by simpa [SV.one] using h) q (by simpa [SV.cells] using hq)
  | .kb _, _, q, hq | .ki _ _, _, q, hq | .ptr _ _, _, q, hq | .ix _, _, q, hq | .sl _, _, q, hq | .slc _ _ _ _, _, q, hq | .slu _ _ _ _, _, q, hq | .fn _ _ _, _, q, hq => by
    simp only [SV.cells, List.mem_singleton] at hq
    subst hq
    rfl
  | .tup _, h, _, _ => by simp [SV.one] at h
theorem SV.ones_cells (S : Stat) (E : Env) : ∀ l : List SV, SV.ones l = true → ∀ q ∈ SV.cellss S E l, q.oneCell' = true
  | [], _, q, hq => by simp [SV.cellss] at hq
  | x :: r, h, q, hq => by
    have hb : x.one = true ∧ SV.ones r = true := by simpa [SV.ones] using h
    simp only [SV.cellss, List.mem_append] at hq
    rcases hq with hq | hq
    · exact SV.one_cells S E x hb.1 q hq
    · exact SV.ones_cells S E r hb.2 q hq
end

-- all chunks that are named are such
mutual
def SV.kall (f : Nat → Bool) : SV → Bool
  | .ptr c _ => f c
  | .slc c _ _ _ => f c
  | .slu c _ _ u => f c && f u
  | .fn _ a b => SV.kalls f a && SV.kalls f b
  | .agg l => SV.kalls f l
  | .tup l => SV.kalls f l
  | _ => true
def SV.kalls (f : Nat → Bool) : List SV → Bool
  | [] => true
  | x :: r => SV.kall f x && SV.kalls f r
end
def SV.bnd (n : Nat) (x : SV) : Bool := x.kall fun c => Nat.blt c n
def SV.bnds (n : Nat) (l : List SV) : Bool := SV.kalls (fun c => Nat.blt c n) l
/-- two that place the same, where f holds -/
def Env.agree (f : Nat → Bool) (E E' : Env) : Prop := ∀ c, f c = true → E'.ad c = E.ad c ∧ E'.cp c = E.cp c
theorem Env.agree.place {f : Nat → Bool} {E E' : Env} (h : Env.agree f E E') {c : Nat} (hc : f c = true) (o : Nat) : E'.place c o = E.place c o := by
  simp [Env.place, (h c hc).1]
/-- two that place the same below n -/
def Env.upto (n : Nat) (E E' : Env) : Prop := ∀ c, c < n → E'.ad c = E.ad c ∧ E'.cp c = E.cp c
theorem Env.upto.refl (n : Nat) (E : Env) : Env.upto n E E := fun _ _ => ⟨rfl, rfl⟩
theorem Env.upto.trans {n m : Nat} {E E' E'' : Env} (h : Env.upto n E E') (k : Env.upto m E' E'') (hm : n ≤ m) : Env.upto n E E'' :=
  fun c hc => ⟨(k c (by omega)).1.trans (h c hc).1, (k c (by omega)).2.trans (h c hc).2⟩
theorem Env.upto.place {n : Nat} {E E' : Env} (h : Env.upto n E E') {c : Nat} (hc : c < n) (o : Nat) : E'.place c o = E.place c o := by
  simp [Env.place, (h c hc).1]
theorem Env.upto.agree {n : Nat} {E E' : Env} (h : Env.upto n E E') : Env.agree (fun c => Nat.blt c n) E E' := fun c hc => h c (by simpa using hc)
mutual
theorem SV.cells_agree (S : Stat) {f : Nat → Bool} {E E' : Env} (h : Env.agree f E E') : ∀ x : SV, x.kall f = true → x.cells S E' = x.cells S E
  | .ptr c o, hb => by
    have hc : f c = true := by simpa [SV.kall] using hb
    simp [SV.cells, h.place hc]
  | .slc c o l k, hb => by
    have hc : f c = true := by simpa [SV.kall] using hb
    simp [SV.cells, h.place hc]
  | .slu c o l u, hb => by
    have hc : f c = true ∧ f u = true := by simpa [SV.kall] using hb
    simp [SV.cells, h.place hc.1, (h u hc.2).2]
  | .fn _ a b, hb => by
    have hc : SV.kalls f a = true ∧ SV.kalls f b = true := by simpa [SV.kall] using hb
    simp [SV.cells, SV.cellss_agree S h a hc.1, SV.cellss_agree S h b hc.2]
  | .agg l, hb => by
    have hc : SV.kalls f l = true := by simpa [SV.kall] using hb
    simp [SV.cells, SV.cellss_agree S h l hc]
  | .tup l, hb => by
    have hc : SV.kalls f l = true := by simpa [SV.kall] using hb
    simp [SV.cells, SV.dens_agree S h l hc]
  | .v _, _ | .kb _, _ | .ki _ _, _ | .ix _, _ | .sl _, _ | .rcd _, _ => by simp [SV.cells]
theorem SV.cellss_agree (S : Stat) {f : Nat → Bool} {E E' : Env} (h : Env.agree f E E') : ∀ l : List SV, SV.kalls f l = true → SV.cellss S E' l = SV.cellss S E l
  | [], _ => by simp [SV.cellss]
  | x :: r, hb => by
    have hc : x.kall f = true ∧ SV.kalls f r = true := by simpa [SV.kalls] using hb
    simp [SV.cellss, SV.cells_agree S h x hc.1, SV.cellss_agree S h r hc.2]
theorem SV.den_agree (S : Stat) {f : Nat → Bool} {E E' : Env} (h : Env.agree f E E') : ∀ x : SV, x.kall f = true → x.den S E' = x.den S E
  | .ptr c o, hb => by
    have hc : f c = true := by simpa [SV.kall] using hb
    simp [SV.den, h.place hc]
  | .slc c o l k, hb => by
    have hc : f c = true := by simpa [SV.kall] using hb
    simp [SV.den, h.place hc]
  | .slu c o l u, hb => by
    have hc : f c = true ∧ f u = true := by simpa [SV.kall] using hb
    simp [SV.den, h.place hc.1, (h u hc.2).2]
  | .fn _ a b, hb => by
    have hc : SV.kalls f a = true ∧ SV.kalls f b = true := by simpa [SV.kall] using hb
    simp [SV.den, SV.cellss_agree S h a hc.1, SV.cellss_agree S h b hc.2]
  | .agg l, hb => by
    have hc : SV.kalls f l = true := by simpa [SV.kall] using hb
    simp [SV.den, SV.cellss_agree S h l hc]
  | .tup l, hb => by
    have hc : SV.kalls f l = true := by simpa [SV.kall] using hb
    simp [SV.den, SV.dens_agree S h l hc]
  | .v _, _ | .kb _, _ | .ki _ _, _ | .ix _, _ | .sl _, _ | .rcd _, _ => by simp [SV.den]
theorem SV.dens_agree (S : Stat) {f : Nat → Bool} {E E' : Env} (h : Env.agree f E E') : ∀ l : List SV, SV.kalls f l = true → SV.dens S E' l = SV.dens S E l
  | [], _ => by simp [SV.dens]
  | x :: r, hb => by
    have hc : x.kall f = true ∧ SV.kalls f r = true := by simpa [SV.kalls] using hb
    simp [SV.dens, SV.den_agree S h x hc.1, SV.dens_agree S h r hc.2]
end
theorem SV.cells_upto (S : Stat) {n : Nat} {E E' : Env} (h : Env.upto n E E') (x : SV) (hb : x.bnd n = true) : x.cells S E' = x.cells S E := SV.cells_agree S h.agree x hb
theorem SV.den_upto (S : Stat) {n : Nat} {E E' : Env} (h : Env.upto n E E') (x : SV) (hb : x.bnd n = true) : x.den S E' = x.den S E := SV.den_agree S h.agree x hb
theorem SV.dens_upto (S : Stat) {n : Nat} {E E' : Env} (h : Env.upto n E E') (l : List SV) (hb : SV.bnds n l = true) : SV.dens S E' l = SV.dens S E l := SV.dens_agree S h.agree l hb
end Go.Proofs.Ythhdfidenigcaaa
