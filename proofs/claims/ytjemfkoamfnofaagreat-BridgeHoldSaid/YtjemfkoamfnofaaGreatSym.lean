import Derived.Test.YtjemfkoamfnofaaGreatMem
set_option linter.unusedVariables false
namespace Go.Proofs.YtjemfkoamfnofaaGreat
open Go Go.RowKit
inductive Ix where
 | tok (j : Nat)
 | val (n : Int)
inductive SV where
 | v (x : Value)
 | kb (b : Bool)
 | ki (k : IntKind) (n : Int)
 | ptr (c off : Nat)
 | mp (c : Nat)
 | ix (j : Nat)
 | sl (n : Nat)
 | slc (c off len cap : Nat)
 | slu (c off len u : Nat)
 | fn (f : Fn) (first cap : List SV)
 | rcd (r : Rec)
 | agg (l : List SV)
 | tup (l : List SV)
 | elt (c : Nat) (i : Ix) (z o : Nat)
 | tab (T : Tab)
 | slr (c len u : Nat) (q : Bool)
 | rows (R : Rows)
 | foc (j : Nat) (a : Rows) (x : SV) (b : Rows)
structure Stat where
 sl : Nat → Option Addr × Nat × Nat
 ix : Nat → Int
 ro : Nat → Bool
structure Env where
 ad : Nat → Addr
 cp : Nat → Nat × Bool
def Ix.int (S : Stat) : Ix → Int
 | .tok j => S.ix j
 | .val n => n
def Env.place (E : Env) (c o : Nat) : Addr := ⟨(E.ad c).block, (E.ad c).off + o, none⟩
section
variable (S : Stat) (E : Env)
mutual
def SV.cells : SV → List Value
 | .v x => [x]
 | .kb b => [.bool b]
 | .ki k n => [.int k n]
 | .ptr c o => [.pointer (some (E.place c o))]
 | .mp c => [.map (some (E.ad c).block)]
 | .ix j => [.int .i64 (S.ix j)]
 | .sl n => [.slice (S.sl n).1 (S.sl n).2.1 (S.sl n).2.2]
 | .slc c o len cap => [.slice (some (E.place c o)) len cap]
 | .slu c o len u => [.slice (some (E.place c o)) len (Nat.max len (E.cp u).1)]
 | .fn f a b => [.func f (SV.dens a).toArray (SV.dens b).toArray]
 | .rcd r => r.cells
 | .agg l => SV.cellss l
 | .tup l => [.tuple (SV.dens l).toArray]
 | .tab T => [.tuple T.all.toArray]
 | .elt c i z o => [.pointer (some (E.place c (Nat.add (Nat.mul (i.int S).toNat z) o)))]
 | .slr c len u q => [.slice (bif (E.cp u).2 && Nat.beq len 0 then none else some (E.place c 0)) len (bif q then len else Nat.max len (E.cp u).1)]
 | .rows R => R.cells
 | .foc _ a x b => a.cells ++ (SV.cells x ++ b.cells)
def SV.cellss : List SV → List Value
 | [] => []
 | x :: r => SV.cells x ++ SV.cellss r
def SV.den : SV → Value
 | .v x => x
 | .kb b => .bool b
 | .ki k n => .int k n
 | .ptr c o => .pointer (some (E.place c o))
 | .mp c => .map (some (E.ad c).block)
 | .ix j => .int .i64 (S.ix j)
 | .sl n => .slice (S.sl n).1 (S.sl n).2.1 (S.sl n).2.2
 | .slc c o len cap => .slice (some (E.place c o)) len cap
 | .slu c o len u => .slice (some (E.place c o)) len (Nat.max len (E.cp u).1)
 | .fn f a b => .func f (SV.dens a).toArray (SV.dens b).toArray
 | .rcd r => .agg r.cells.toArray
 | .agg l => .agg (SV.cellss l).toArray
 | .tup l => .tuple (SV.dens l).toArray
 | .tab T => .tuple T.all.toArray
 | .elt c i z o => .pointer (some (E.place c (Nat.add (Nat.mul (i.int S).toNat z) o)))
 | .slr c len u q => .slice (bif (E.cp u).2 && Nat.beq len 0 then none else some (E.place c 0)) len (bif q then len else Nat.max len (E.cp u).1)
 | .rows R => .agg R.cells.toArray
 | .foc _ a x b => .agg (a.cells ++ (SV.cells x ++ b.cells)).toArray
def SV.dens : List SV → List Value
 | [] => []
 | x :: r => SV.den x :: SV.dens r
end
end
def SV.aggr : SV → Bool
 | .rcd _ | .agg _ | .rows _ | .foc _ _ _ _ => true
 | _ => false
theorem SV.cells_flat (S : Stat) (E : Env) (x : SV) (h : x.aggr = false) : x.cells S E = [x.den S E] := by
 cases x <;> simp_all [SV.aggr, SV.cells, SV.den]
theorem SV.den_agg (S : Stat) (E : Env) (x : SV) (h : x.aggr = true) : x.den S E = .agg (x.cells S E).toArray := by
 cases x <;> simp_all [SV.aggr, SV.cells, SV.den]
theorem SV.dens_map (S : Stat) (E : Env) : ∀ l : List SV, SV.dens S E l = l.map (SV.den S E)
 | [] => by simp [SV.dens]
 | x :: r => by simp [SV.dens, SV.dens_map S E r]
mutual
def SV.size : SV → Nat
 | .rcd r => r.size
 | .agg l => SV.sizes l
 | .rows R => Nat.mul R.len R.z
 | .foc _ a x b => Nat.add (Nat.mul a.len a.z) (Nat.add x.size (Nat.mul b.len b.z))
 | _ => 1
def SV.sizes : List SV → Nat
 | [] => 0
 | x :: r => Nat.add x.size (SV.sizes r)
end
mutual
theorem SV.len (S : Stat) (E : Env) : ∀ x : SV, (x.cells S E).length = x.size
 | .rcd r => by simp [SV.cells, SV.size, Rec.len]
 | .agg l => by simp [SV.cells, SV.size, SV.lens S E l]
 | .rows R => by simp [SV.cells, SV.size, R.length]
 | .foc _ a x b => by simp [SV.cells, SV.size, a.length, b.length, SV.len S E x]
 | .tab _ | .mp _ | .v _ | .kb _ | .ki _ _ | .ptr _ _ | .ix _ | .sl _ | .slc _ _ _ _ | .slu _ _ _ _ | .fn _ _ _ | .tup _ | .elt _ _ _ _ | .slr _ _ _ _ => by simp [SV.cells, SV.size]
theorem SV.lens (S : Stat) (E : Env) : ∀ l : List SV, (SV.cellss S E l).length = SV.sizes l
 | [] => by simp [SV.cellss, SV.sizes]
 | x :: r => by simp [SV.cellss, SV.sizes, SV.len S E x, SV.lens S E r]
end
def RV.sv : RV → SV
 | .val x => .v x
 | .rcd r => .rcd r
theorem RV.sv_cells (S : Stat) (E : Env) (x : RV) : x.sv.cells S E = x.cells := by cases x <;> rfl
def SV.rv : SV → Option RV
 | .v x => some (.val x)
 | .kb b => some (.val (.bool b))
 | .ki k n => some (.val (.int k n))
 | .rcd r => some (.rcd r)
 | _ => none
theorem SV.rv_cells (S : Stat) (E : Env) {x : SV} {y : RV} (h : x.rv = some y) : x.cells S E = y.cells := by
 cases x <;> simp only [SV.rv, Option.some.injEq, reduceCtorEq] at h <;> subst h <;> rfl
-- a part of x
mutual
def SV.get : SV → Nat → Nat → Bool → Option SV
 | .rcd r, o, n, g => match r.get o n with
   | some y => bif y.sv.aggr == g then some y.sv else none
   | none => none
 | .agg l, o, n, g => SV.gets l o n g
 | _, _, _, _ => none
def SV.gets : List SV → Nat → Nat → Bool → Option SV
 | [], _, _, _ => none
 | x :: r, o, n, g =>
   bif Nat.blt o x.size then (bif (Nat.beq o 0 && Nat.beq n x.size) && (x.aggr == g) then some x else x.get o n g) else SV.gets r (Nat.sub o x.size) n g
end
def SV.part (x : SV) (o n : Nat) (g : Bool) : Option SV := bif (Nat.beq o 0 && Nat.beq n x.size) && (x.aggr == g) then some x else x.get o n g
def PartOk (S : Stat) (E : Env) (cs : List Value) (o n : Nat) (g : Bool) (y : SV) : Prop :=
 y.aggr = g ∧ y.cells S E = (cs.drop o).take n ∧ y.size = n ∧ o + n ≤ cs.length
theorem PartOk.all (S : Stat) (E : Env) {x : SV} {o n : Nat} {g : Bool} (h : ((Nat.beq o 0 && Nat.beq n x.size) && (x.aggr == g)) = true) : PartOk S E (x.cells S E) o n g x := by
 simp only [Bool.and_eq_true, Nat.beq_eq, beq_iff_eq] at h
 obtain ⟨⟨rfl, rfl⟩, rfl⟩ := h
 refine ⟨rfl, ?_, rfl, by rw [SV.len]; omega⟩
 rw [List.drop_zero, List.take_of_length_le (by rw [SV.len]; omega)]
mutual
theorem SV.get_ok (S : Stat) (E : Env) : ∀ (x : SV) (o n : Nat) (g : Bool) (y : SV), x.get o n g = some y → PartOk S E (x.cells S E) o n g y
 | .rcd r, o, n, g, y, h => by
   unfold SV.get at h
   split at h
   · rename_i z hz
     obtain ⟨h1, h2, h3⟩ := Rec.get_ok hz
     cases hg : (z.sv.aggr == g) with
     | true =>
       rw [hg] at h
       simp only [cond_true, Option.some.injEq] at h
       subst h
       refine ⟨by simpa using hg, ?_, ?_, ?_⟩
       · rw [RV.sv_cells, h1]; simp [SV.cells]
       · rw [← SV.len S E, RV.sv_cells, h2]
       · simp only [SV.cells, Rec.len]; exact h3
     | false => rw [hg] at h; cases h
   · cases h
 | .agg l, o, n, g, y, h => by
   unfold SV.get at h
   have := SV.gets_ok S E l o n g y h
   simpa [SV.cells] using this
 | .tab _, _, _, _, _, h | .mp _, _, _, _, _, h | .v _, _, _, _, _, h | .kb _, _, _, _, _, h | .ki _ _, _, _, _, _, h | .ptr _ _, _, _, _, _, h | .ix _, _, _, _, _, h | .sl _, _, _, _, _, h | .slc _ _ _ _, _, _, _, _, h | .slu _ _ _ _, _, _, _, _, h | .fn _ _ _, _, _, _, _, h | .tup _, _, _, _, _, h | .elt _ _ _ _, _, _, _, _, h | .slr _ _ _ _, _, _, _, _, h | .rows _, _, _, _, _, h | .foc _ _ _ _, _, _, _, _, h => by
   simp [SV.get] at h
theorem SV.gets_ok (S : Stat) (E : Env) : ∀ (l : List SV) (o n : Nat) (g : Bool) (y : SV), SV.gets l o n g = some y → PartOk S E (SV.cellss S E l) o n g y
 | [], _, _, _, _, h => by simp [SV.gets] at h
 | x :: r, o, n, g, y, h => by
   unfold SV.gets at h
   have hx := SV.len S E x
   cases hb : Nat.blt o x.size with
   | true =>
     rw [hb] at h
     simp only [cond_true] at h
     have hlt : o < x.size := by simpa using hb
     have hin : PartOk S E (x.cells S E) o n g y := by
       cases hc : ((Nat.beq o 0 && Nat.beq n x.size) && (x.aggr == g)) with
       | true =>
         rw [hc] at h
         simp only [cond_true, Option.some.injEq] at h
         subst h
         exact PartOk.all S E hc
       | false =>
         rw [hc] at h
         exact SV.get_ok S E x o n g y h
     obtain ⟨h1, h2, h3, h4⟩ := hin
     refine ⟨h1, ?_, h3, by simp only [SV.cellss, List.length_append]; omega⟩
     rw [h2, SV.cellss, List.drop_append_of_le_length (by omega), List.take_append_of_le_length (by simp; omega)]
   | false =>
     rw [hb] at h
     simp only [cond_false] at h
     have hge : x.size ≤ o := by
       have : ¬ o < x.size := by intro hh; have := (show Nat.blt o x.size = true by simpa using hh); rw [this] at hb; cases hb
       omega
     obtain ⟨h1, h2, h3, h4⟩ := SV.gets_ok S E r (Nat.sub o x.size) n g y h
     have hsub : Nat.sub o x.size = o - x.size := rfl
     rw [hsub] at h2 h4
     refine ⟨h1, ?_, h3, by simp only [SV.cellss, List.length_append]; omega⟩
     rw [h2, SV.cellss, List.drop_append, show List.drop o (SV.cells S E x) = [] from List.drop_of_length_le (by omega), hx]; rfl
end
theorem SV.part_ok (S : Stat) (E : Env) {x : SV} {o n : Nat} {g : Bool} {y : SV} (h : x.part o n g = some y) : PartOk S E (x.cells S E) o n g y := by
 unfold SV.part at h
 cases hc : ((Nat.beq o 0 && Nat.beq n x.size) && (x.aggr == g)) with
 | true =>
   rw [hc] at h
   simp only [cond_true, Option.some.injEq] at h
   subst h
   exact PartOk.all S E hc
 | false => rw [hc] at h; exact SV.get_ok S E x o n g y h
mutual
def SV.set : SV → Nat → SV → Option SV
 | .rcd r, o, y => match y.rv with
   | some z => (match r.set o z with | some q => some (.rcd q) | none => none)
   | none => none
 | .agg l, o, y => match SV.sets l o y with | some l => some (.agg l) | none => none
 | _, _, _ => none
def SV.sets : List SV → Nat → SV → Option (List SV)
 | [], _, _ => none
 | x :: r, o, y =>
   bif Nat.blt o x.size then
     (bif (Nat.beq o 0 && Nat.beq y.size x.size) && (y.aggr == x.aggr) then some (y :: r) else (match x.set o y with | some z => some (z :: r) | none => none))
   else (match SV.sets r (Nat.sub o x.size) y with | some l => some (x :: l) | none => none)
end
def SV.put (x : SV) (o : Nat) (y : SV) : Option SV := bif (Nat.beq o 0 && Nat.beq y.size x.size) && (y.aggr == x.aggr) then some y else x.set o y
def PutOk (S : Stat) (E : Env) (cs : List Value) (o : Nat) (y : SV) (ds : List Value) : Prop :=
 ds = splice cs o (y.cells S E) ∧ o + y.size ≤ cs.length
theorem PutOk.all (S : Stat) (E : Env) {x y : SV} {o : Nat} (h : ((Nat.beq o 0 && Nat.beq y.size x.size) && (y.aggr == x.aggr)) = true) : PutOk S E (x.cells S E) o y (y.cells S E) := by
 simp only [Bool.and_eq_true, Nat.beq_eq, beq_iff_eq] at h
 obtain ⟨⟨rfl, h2⟩, _⟩ := h
 refine ⟨?_, by rw [SV.len]; omega⟩
 unfold splice
 rw [List.take_zero, Nat.zero_add, List.drop_of_length_le (by rw [SV.len, SV.len]; omega)]; simp
mutual
theorem SV.set_ok (S : Stat) (E : Env) : ∀ (x : SV) (o : Nat) (y z : SV), x.set o y = some z → PutOk S E (x.cells S E) o y (z.cells S E) ∧ z.size = x.size
 | .rcd r, o, y, z, h => by
   unfold SV.set at h
   split at h
   · rename_i q hq
     split at h
     · rename_i r' hr
       injection h with h
       subst h
       obtain ⟨⟨h1, h2⟩, h3⟩ := Rec.set_ok hr
       have hc := SV.rv_cells S E hq
       refine ⟨⟨?_, ?_⟩, by simp [SV.size, h3]⟩
       · simp only [SV.cells, hc, h1]
       · rw [← SV.len S E y, hc]; simp only [SV.cells, Rec.len]; exact h2
     · cases h
   · cases h
 | .agg l, o, y, z, h => by
   unfold SV.set at h
   split at h
   · rename_i l' hl
     injection h with h
     subst h
     have := SV.sets_ok S E l o y l' hl
     simpa [SV.cells, SV.size] using this
   · cases h
 | .tab _, _, _, _, h | .mp _, _, _, _, h | .v _, _, _, _, h | .kb _, _, _, _, h | .ki _ _, _, _, _, h | .ptr _ _, _, _, _, h | .ix _, _, _, _, h | .sl _, _, _, _, h | .slc _ _ _ _, _, _, _, h | .slu _ _ _ _, _, _, _, h | .fn _ _ _, _, _, _, h | .tup _, _, _, _, h | .elt _ _ _ _, _, _, _, h | .slr _ _ _ _, _, _, _, h | .rows _, _, _, _, h | .foc _ _ _ _, _, _, _, h => by
   simp [SV.set] at h
theorem SV.sets_ok (S : Stat) (E : Env) : ∀ (l : List SV) (o : Nat) (y : SV) (l' : List SV), SV.sets l o y = some l' → PutOk S E (SV.cellss S E l) o y (SV.cellss S E l') ∧ SV.sizes l' = SV.sizes l
 | [], _, _, _, h => by simp [SV.sets] at h
 | x :: r, o, y, l', h => by
   unfold SV.sets at h
   have hx := SV.len S E x
   have hy := SV.len S E y
   cases hb : Nat.blt o x.size with
   | true =>
     rw [hb] at h
     simp only [cond_true] at h
     have hlt : o < x.size := by simpa using hb
     have hin : ∃ z, l' = z :: r ∧ PutOk S E (x.cells S E) o y (z.cells S E) ∧ z.size = x.size := by
       cases hc : ((Nat.beq o 0 && Nat.beq y.size x.size) && (y.aggr == x.aggr)) with
       | true =>
         rw [hc] at h
         simp only [cond_true, Option.some.injEq] at h
         refine ⟨y, h.symm, PutOk.all S E hc, ?_⟩
         simp only [Bool.and_eq_true, Nat.beq_eq] at hc
         exact hc.1.2
       | false =>
         rw [hc] at h
         simp only [cond_false] at h
         split at h
         · rename_i z hz
           injection h with h
           exact ⟨z, h.symm, SV.set_ok S E x o y z hz⟩
         · cases h
     obtain ⟨z, rfl, ⟨h1, h2⟩, h3⟩ := hin
     refine ⟨⟨?_, by simp only [SV.cellss, List.length_append]; omega⟩, by simp [SV.sizes, h3]⟩
     simp only [SV.cellss, h1]
     have := splice_in [] (x.cells S E) (SV.cellss S E r) (y.cells S E) o (by rw [hy]; exact h2)
     simpa using this.symm
   | false =>
     rw [hb] at h
     simp only [cond_false] at h
     have hge : x.size ≤ o := by
       have : ¬ o < x.size := by intro hh; have := (show Nat.blt o x.size = true by simpa using hh); rw [this] at hb; cases hb
       omega
     split at h
     · rename_i l2 hl2
       injection h with h
       subst h
       obtain ⟨⟨h1, h2⟩, h3⟩ := SV.sets_ok S E r (Nat.sub o x.size) y l2 hl2
       have hsub : Nat.sub o x.size = o - x.size := rfl
       rw [hsub] at h1 h2
       refine ⟨⟨?_, by simp only [SV.cellss, List.length_append]; omega⟩, by simp [SV.sizes, h3]⟩
       simp only [SV.cellss, h1]
       have := splice_in (x.cells S E) (SV.cellss S E r) [] (y.cells S E) (o - x.size) (by rw [hy]; exact h2)
       simp only [List.append_nil] at this
       rw [hx, Nat.add_sub_cancel' hge] at this
       exact this.symm
     · cases h
end
theorem SV.put_ok (S : Stat) (E : Env) {x y z : SV} {o : Nat} (h : x.put o y = some z) : PutOk S E (x.cells S E) o y (z.cells S E) ∧ z.size = x.size := by
 unfold SV.put at h
 cases hc : ((Nat.beq o 0 && Nat.beq y.size x.size) && (y.aggr == x.aggr)) with
 | true =>
   rw [hc] at h
   simp only [cond_true, Option.some.injEq] at h
   subst h
   refine ⟨PutOk.all S E hc, ?_⟩
   simp only [Bool.and_eq_true, Nat.beq_eq] at hc
   exact hc.1.2
 | false => rw [hc] at h; exact SV.set_ok S E x o y z h
-- all cells are values of one cell
mutual
def SV.one : SV → Bool
 | .v x => x.oneCell'
 | .agg l => SV.ones l
 | .tup _ => false
 | .tab _ => false
 | .foc _ _ _ _ => false
 | _ => true
def SV.ones : List SV → Bool
 | [] => true
 | x :: r => SV.one x && SV.ones r
end
mutual
theorem SV.one_cells (S : Stat) (E : Env) : ∀ x : SV, x.one = true → ∀ q ∈ x.cells S E, q.oneCell' = true
 | .v x, h, q, hq => by
   simp only [SV.cells, List.mem_singleton] at hq
   subst hq
   simpa [SV.one] using h
 | .rcd r, h, q, hq => plainV.one (r.plain q (by simpa [SV.cells] using hq))
 | .agg l, h, q, hq => SV.ones_cells S E l (by simpa [SV.one] using h) q (by simpa [SV.cells] using hq)
 | .rows R, _, q, hq => plainV.one (R.plain q (by simpa [SV.cells] using hq))
 | .foc _ _ _ _, h, _, _ => by simp [SV.one] at h
 | .mp _, _, q, hq | .kb _, _, q, hq | .ki _ _, _, q, hq | .ptr _ _, _, q, hq | .ix _, _, q, hq | .sl _, _, q, hq | .slc _ _ _ _, _, q, hq | .slu _ _ _ _, _, q, hq | .fn _ _ _, _, q, hq | .elt _ _ _ _, _, q, hq | .slr _ _ _ _, _, q, hq => by
   simp only [SV.cells, List.mem_singleton] at hq
   subst hq
   rfl
 | .tup _, h, _, _ | .tab _, h, _, _ => by simp [SV.one] at h
theorem SV.ones_cells (S : Stat) (E : Env) : ∀ l : List SV, SV.ones l = true → ∀ q ∈ SV.cellss S E l, q.oneCell' = true
 | [], _, q, hq => by simp [SV.cellss] at hq
 | x :: r, h, q, hq => by
   have hb : x.one = true ∧ SV.ones r = true := by simpa [SV.ones] using h
   simp only [SV.cellss, List.mem_append] at hq
   rcases hq with hq | hq
   · exact SV.one_cells S E x hb.1 q hq
   · exact SV.ones_cells S E r hb.2 q hq
end
-- all chunks that are named are such
mutual
def SV.kall (f : Nat → Bool) : SV → Bool
 | .ptr c _ => f c
 | .mp c => f c
 | .slc c _ _ _ => f c
 | .slu c _ _ u => f c && f u
 | .fn _ a b => SV.kalls f a && SV.kalls f b
 | .agg l => SV.kalls f l
 | .tup l => SV.kalls f l
 | .elt c _ _ _ => f c
 | .slr c _ u _ => f c && f u
 | .foc _ _ x _ => SV.kall f x
 | _ => true
def SV.kalls (f : Nat → Bool) : List SV → Bool
 | [] => true
 | x :: r => SV.kall f x && SV.kalls f r
end
def SV.bnd (n : Nat) (x : SV) : Bool := x.kall fun c => Nat.blt c n
def SV.bnds (n : Nat) (l : List SV) : Bool := SV.kalls (fun c => Nat.blt c n) l
def Env.agree (f : Nat → Bool) (E E' : Env) : Prop := ∀ c, f c = true → E'.ad c = E.ad c ∧ E'.cp c = E.cp c
theorem Env.agree.place {f : Nat → Bool} {E E' : Env} (h : Env.agree f E E') {c : Nat} (hc : f c = true) (o : Nat) : E'.place c o = E.place c o := by
 simp [Env.place, (h c hc).1]
def Env.upto (n : Nat) (E E' : Env) : Prop := ∀ c, c < n → E'.ad c = E.ad c ∧ E'.cp c = E.cp c
theorem Env.upto.refl (n : Nat) (E : Env) : Env.upto n E E := fun _ _ => ⟨rfl, rfl⟩
theorem Env.upto.trans {n m : Nat} {E E' E'' : Env} (h : Env.upto n E E') (k : Env.upto m E' E'') (hm : n ≤ m) : Env.upto n E E'' :=
 fun c hc => ⟨(k c (by omega)).1.trans (h c hc).1, (k c (by omega)).2.trans (h c hc).2⟩
theorem Env.upto.place {n : Nat} {E E' : Env} (h : Env.upto n E E') {c : Nat} (hc : c < n) (o : Nat) : E'.place c o = E.place c o := by
 simp [Env.place, (h c hc).1]
theorem Env.upto.agree {n : Nat} {E E' : Env} (h : Env.upto n E E') : Env.agree (fun c => Nat.blt c n) E E' := fun c hc => h c (by simpa using hc)
mutual
theorem SV.cells_agree (S : Stat) {f : Nat → Bool} {E E' : Env} (h : Env.agree f E E') : ∀ x : SV, x.kall f = true → x.cells S E' = x.cells S E
 | .ptr c o, hb => by
   have hc : f c = true := by simpa [SV.kall] using hb
   simp [SV.cells, h.place hc]
 | .mp c, hb => by
   have hc : f c = true := by simpa [SV.kall] using hb
   simp [SV.cells, (h c hc).1]
 | .slc c o l k, hb => by
   have hc : f c = true := by simpa [SV.kall] using hb
   simp [SV.cells, h.place hc]
 | .slu c o l u, hb => by
   have hc : f c = true ∧ f u = true := by simpa [SV.kall] using hb
   simp [SV.cells, h.place hc.1, (h u hc.2).2]
 | .fn _ a b, hb => by
   have hc : SV.kalls f a = true ∧ SV.kalls f b = true := by simpa [SV.kall] using hb
   simp [SV.cells, SV.dens_agree S h a hc.1, SV.dens_agree S h b hc.2]
 | .agg l, hb => by
   have hc : SV.kalls f l = true := by simpa [SV.kall] using hb
   simp [SV.cells, SV.cellss_agree S h l hc]
 | .tup l, hb => by
   have hc : SV.kalls f l = true := by simpa [SV.kall] using hb
   simp [SV.cells, SV.dens_agree S h l hc]
 | .elt c i z o, hb => by
   have hc : f c = true := by simpa [SV.kall] using hb
   simp [SV.cells, h.place hc]
 | .slr c o u _, hb => by
   have hc : f c = true ∧ f u = true := by simpa [SV.kall] using hb
   simp [SV.cells, h.place hc.1, (h u hc.2).2]
 | .foc _ a x b, hb => by
   have hc : x.kall f = true := by simpa [SV.kall] using hb
   simp [SV.cells, SV.cells_agree S h x hc]
 | .tab _, _ | .v _, _ | .kb _, _ | .ki _ _, _ | .ix _, _ | .sl _, _ | .rcd _, _ | .rows _, _ => by simp [SV.cells]
theorem SV.cellss_agree (S : Stat) {f : Nat → Bool} {E E' : Env} (h : Env.agree f E E') : ∀ l : List SV, SV.kalls f l = true → SV.cellss S E' l = SV.cellss S E l
 | [], _ => by simp [SV.cellss]
 | x :: r, hb => by
   have hc : x.kall f = true ∧ SV.kalls f r = true := by simpa [SV.kalls] using hb
   simp [SV.cellss, SV.cells_agree S h x hc.1, SV.cellss_agree S h r hc.2]
theorem SV.den_agree (S : Stat) {f : Nat → Bool} {E E' : Env} (h : Env.agree f E E') : ∀ x : SV, x.kall f = true → x.den S E' = x.den S E
 | .ptr c o, hb => by
   have hc : f c = true := by simpa [SV.kall] using hb
   simp [SV.den, h.place hc]
 | .mp c, hb => by
   have hc : f c = true := by simpa [SV.kall] using hb
   simp [SV.den, (h c hc).1]
 | .slc c o l k, hb => by
   have hc : f c = true := by simpa [SV.kall] using hb
   simp [SV.den, h.place hc]
 | .slu c o l u, hb => by
   have hc : f c = true ∧ f u = true := by simpa [SV.kall] using hb
   simp [SV.den, h.place hc.1, (h u hc.2).2]
 | .fn _ a b, hb => by
   have hc : SV.kalls f a = true ∧ SV.kalls f b = true := by simpa [SV.kall] using hb
   simp [SV.den, SV.dens_agree S h a hc.1, SV.dens_agree S h b hc.2]
 | .agg l, hb => by
   have hc : SV.kalls f l = true := by simpa [SV.kall] using hb
   simp [SV.den, SV.cellss_agree S h l hc]
 | .tup l, hb => by
   have hc : SV.kalls f l = true := by simpa [SV.kall] using hb
   simp [SV.den, SV.dens_agree S h l hc]
 | .elt c i z o, hb => by
   have hc : f c = true := by simpa [SV.kall] using hb
   simp [SV.den, h.place hc]
 | .slr c o u _, hb => by
   have hc : f c = true ∧ f u = true := by simpa [SV.kall] using hb
   simp [SV.den, h.place hc.1, (h u hc.2).2]
 | .foc _ a x b, hb => by
   have hc : x.kall f = true := by simpa [SV.kall] using hb
   simp [SV.den, SV.cells_agree S h x hc]
 | .tab _, _ | .v _, _ | .kb _, _ | .ki _ _, _ | .ix _, _ | .sl _, _ | .rcd _, _ | .rows _, _ => by simp [SV.den]
theorem SV.dens_agree (S : Stat) {f : Nat → Bool} {E E' : Env} (h : Env.agree f E E') : ∀ l : List SV, SV.kalls f l = true → SV.dens S E' l = SV.dens S E l
 | [], _ => by simp [SV.dens]
 | x :: r, hb => by
   have hc : x.kall f = true ∧ SV.kalls f r = true := by simpa [SV.kalls] using hb
   simp [SV.dens, SV.den_agree S h x hc.1, SV.dens_agree S h r hc.2]
end
theorem SV.cells_upto (S : Stat) {n : Nat} {E E' : Env} (h : Env.upto n E E') (x : SV) (hb : x.bnd n = true) : x.cells S E' = x.cells S E := SV.cells_agree S h.agree x hb
theorem SV.den_upto (S : Stat) {n : Nat} {E E' : Env} (h : Env.upto n E E') (x : SV) (hb : x.bnd n = true) : x.den S E' = x.den S E := SV.den_agree S h.agree x hb
inductive Off where
 | at (o : Nat)
 | row (i : Ix) (z o : Nat)
def Off.val (S : Stat) : Off → Nat
 | .at o => o
 | .row i z o => Nat.add (Nat.mul (i.int S).toNat z) o
def okC : Option Bool → Bool
 | none => true
 | some b => b
def SV.partQ (S : Stat) (x : SV) (o : Off) (n : Nat) (g : Bool) : Option (Option Bool × SV) :=
 bif Nat.blt 0 n then
   (match o with
   | .at o => (match x with
     | .rows _ => none
     | .foc _ _ _ _ => none
     | x => (match x.part o n g with | some y => some (none, y) | none => none))
   | .row i z o => (match x with
     | .rows R => bif Nat.beq R.z z then (match ((R.rv (i.int S).toNat).sv).part o n g with | some y => some (some (decide ((i.int S).toNat < R.len)), y) | none => none) else none
     | .foc j a x _ => (match i with
       | .tok j' => bif Nat.beq j j' && (Nat.beq a.z z && Nat.beq x.size z) then (match x.part o n g with | some y => some (none, y) | none => none) else none
       | .val _ => none)
     | _ => none))
 else none
def SV.partO (S : Stat) (x : SV) (o : Off) (n : Nat) (g : Bool) : Option (Option Bool × SV) := match x.partQ S o n g with
 | some q => bif q.2.one then some q else none
 | none => none
theorem SV.partO_one {S : Stat} {x : SV} {o : Off} {n : Nat} {g : Bool} {q : Option Bool × SV} (h : x.partO S o n g = some q) : x.partQ S o n g = some q ∧ q.2.one = true := by
 unfold SV.partO at h
 split at h
 · rename_i q' hq
   cases ho : q'.2.one with
   | false => rw [ho] at h; cases h
   | true => rw [ho] at h; injection h with h; subst h; exact ⟨hq, ho⟩
 · cases h
def SV.noTup : SV → Bool
 | .tup _ => false
 | .tab _ => false
 | .rows _ => true
 | .foc _ _ x _ => bif Nat.beq x.size 1 then x.one else true
 | x => bif Nat.beq x.size 1 then x.one else true
def NoTup (vs : List Value) : Prop := ∀ t, vs ≠ [.tuple t]
theorem NoTup.one {vs : List Value} (h : ∀ v ∈ vs, v.oneCell' = true) : NoTup vs := by
 intro t he
 subst he
 have := h _ List.mem_cons_self
 cases this
theorem SV.noTup_ok (S : Stat) (E : Env) {x : SV} (h : x.noTup = true) : NoTup (x.cells S E) := by
 have key : ∀ x : SV, (bif Nat.beq x.size 1 then x.one else true) = true → NoTup (x.cells S E) := by
   intro x h t he
   have hl := SV.len S E x
   rw [he] at hl
   have h1 : Nat.beq x.size 1 = true := by rw [← hl]; rfl
   rw [h1] at h
   exact NoTup.one (SV.one_cells S E x h) t he
 cases x with
 | tup l => cases h
 | tab T => cases h
 | rows R => exact NoTup.one (SV.one_cells S E (.rows R) rfl)
 | foc j a x b =>
   intro t he
   have h' : (bif Nat.beq x.size 1 then x.one else true) = true := h
   simp only [SV.cells] at he
   rcases hA : a.cells with _ | ⟨v, r⟩
   · rw [hA, List.nil_append] at he
     rcases hX : x.cells S E with _ | ⟨v, r⟩
     · rw [hX, List.nil_append] at he
       have := plainV.one (b.plain _ (by rw [he]; exact List.mem_cons_self))
       cases this
     · rw [hX] at he
       simp only [List.cons_append, List.cons.injEq, List.append_eq_nil_iff] at he
       obtain ⟨rfl, rfl, _⟩ := he
       exact key x h' t hX
   · rw [hA] at he
     simp only [List.cons_append, List.cons.injEq] at he
     have := plainV.one (a.plain v (by rw [hA]; exact List.mem_cons_self))
     rw [he.1] at this
     cases this
 | _ => exact key _ h
def SV.putO (S : Stat) (x : SV) (o : Off) (y : SV) : Option (Option Bool × SV) :=
 bif Nat.blt 0 y.size && x.noTup then
   (match o with
   | .at o => (match x with
     | .rows _ => none
     | .foc _ _ _ _ => none
     | x => (match x.put o y with | some z => some (none, z) | none => none))
   | .row i z o => (match x with
     | .rows R => bif Nat.beq R.z z then (match ((R.rv (i.int S).toNat).sv).put o y with
       | some w => (match w.rv with
         | some u => (match R.setAt (i.int S).toNat u with | some Q => some (some (decide ((i.int S).toNat < R.len)), .rows Q) | none => none)
         | none => none)
       | none => none) else none
     | .foc j a x b => (match i with
       | .tok j' => bif Nat.beq j j' && (Nat.beq a.z z && Nat.beq x.size z) then (match x.put o y with | some w => some (none, .foc j a w b) | none => none) else none
       | .val _ => none)
     | _ => none))
 else none
def SV.foOk (S : Stat) : SV → Prop
 | .foc j a _ _ => (S.ix j).toNat = a.len
 | _ => True
theorem SV.foOk_one {S : Stat} {x : SV} (h : x.one = true) : x.foOk S := by
 cases x <;> simp_all [SV.foOk, SV.one]
theorem SV.partO_ok (S : Stat) (E : Env) {x : SV} (hfo : x.foOk S) {o : Off} {n : Nat} {g : Bool} {cd : Option Bool} {y : SV} (h : x.partO S o n g = some (cd, y)) (hc : okC cd = true) : PartOk S E (x.cells S E) (o.val S) n g y ∧ 0 < n := by
 replace h := (SV.partO_one h).1
 unfold SV.partQ at h
 cases hn : Nat.blt 0 n with
 | false => rw [hn] at h; cases h
 | true =>
   rw [hn] at h
   simp only [cond_true] at h
   refine ⟨?_, by simpa using hn⟩
   split at h
   · split at h
     · cases h
     · cases h
     · split at h
       · rename_i y' hy
         injection h with h; injection h with h1 h2; subst h1 h2
         exact SV.part_ok S E hy
       · cases h
   · rename_i i z o
     split at h
     · rename_i R
       cases hz : Nat.beq R.z z with
       | false => rw [hz] at h; cases h
       | true =>
         rw [hz] at h
         simp only [cond_true] at h
         have hz := Nat.eq_of_beq_eq_true hz
         subst hz
         split at h
         · rename_i y' hy
           injection h with h; injection h with h1 h2; subst h1 h2
           have hlt : (i.int S).toNat < R.len := by simpa [okC] using hc
           obtain ⟨p1, p2, p3, p4⟩ := SV.part_ok S E hy
           rw [RV.sv_cells] at p2 p4
           have hg := R.get_ok hlt
           have hs := R.rv_size (i.int S).toNat
           have hl := R.length
           have hmul : (i.int S).toNat * R.z + R.z ≤ R.len * R.z := by
             rw [← Nat.succ_mul]; exact Nat.mul_le_mul_right _ hlt
           refine ⟨p1, ?_, p3, ?_⟩
           · rw [p2, hg]
             show _ = ((R.cells.drop ((i.int S).toNat * R.z + o)).take n)
             rw [List.drop_take, List.take_take, List.drop_drop, Nat.min_eq_left (by omega)]
           · show (i.int S).toNat * R.z + o + n ≤ R.cells.length
             omega
         · cases h
     · rename_i j a x b
       split at h
       · rename_i j'
         cases hz : (Nat.beq j j' && (Nat.beq a.z z && Nat.beq x.size z)) with
         | false => rw [hz] at h; cases h
         | true =>
           rw [hz] at h
           simp only [Bool.and_eq_true, Nat.beq_eq] at hz
           simp only [cond_true] at h
           obtain ⟨rfl, rfl, hxz⟩ := hz
           split at h
           · rename_i y' hy
             injection h with h; injection h with h1 h2; subst h1 h2
             have hlt : (S.ix j).toNat = a.len := hfo
             obtain ⟨p1, p2, p3, p4⟩ := SV.part_ok S E hy
             have hl := a.length
             have hv : (Off.row (Ix.tok j) a.z o).val S = a.cells.length + o := by
               show (S.ix j).toNat * a.z + o = _
               rw [hlt, hl]
             refine ⟨p1, ?_, p3, ?_⟩
             · rw [hv, p2]
               show _ = ((a.cells ++ (x.cells S E ++ b.cells)).drop (a.cells.length + o)).take n
               rw [show (a.cells ++ (x.cells S E ++ b.cells)).drop (a.cells.length + o) = (x.cells S E ++ b.cells).drop o from by rw [← List.drop_drop, List.drop_left], List.drop_append_of_le_length (by omega), List.take_append_of_le_length (by simp; omega)]
             · rw [hv]
               show _ ≤ (a.cells ++ (x.cells S E ++ b.cells)).length
               simp only [List.length_append]
               omega
           · cases h
       · cases h
     · cases h
theorem SV.putO_ok (S : Stat) (E : Env) {x z : SV} (hfo : x.foOk S) {o : Off} {y : SV} {cd : Option Bool} (h : x.putO S o y = some (cd, z)) (hc : okC cd = true) : PutOk S E (x.cells S E) (o.val S) y (z.cells S E) ∧ z.size = x.size ∧ 0 < y.size := by
 unfold SV.putO at h
 cases hn : (Nat.blt 0 y.size && x.noTup) with
 | false => rw [hn] at h; cases h
 | true =>
   rw [hn] at h
   simp only [cond_true] at h
   simp only [Bool.and_eq_true] at hn
   rw [← and_assoc]
   refine ⟨?_, by simpa using hn.1⟩
   split at h
   · split at h
     · cases h
     · cases h
     · split at h
       · rename_i y' hy
         injection h with h; injection h with h1 h2; subst h1 h2
         exact SV.put_ok S E hy
       · cases h
   · rename_i i zz o
     split at h
     · rename_i R
       cases hz : Nat.beq R.z zz with
       | false => rw [hz] at h; cases h
       | true =>
         rw [hz] at h
         simp only [cond_true] at h
         have hz := Nat.eq_of_beq_eq_true hz
         subst hz
         split at h
         · rename_i w hw
           split at h
           · rename_i v hv
             split at h
             · rename_i Q hQ
               injection h with h; injection h with h1 h2; subst h1 h2
               have hlt : (i.int S).toNat < R.len := by simpa [okC] using hc
               obtain ⟨⟨p1, p2⟩, p3⟩ := SV.put_ok S E hw
               rw [RV.sv_cells] at p1 p2
               obtain ⟨q1, q2, q3, q4⟩ := Rows.setAt_ok hQ
               have hg := R.get_ok hlt
               have hs := R.rv_size (i.int S).toNat
               have hl := R.length
               have hmul : (i.int S).toNat * R.z + R.z ≤ R.len * R.z := by
                 rw [← Nat.succ_mul]; exact Nat.mul_le_mul_right _ hlt
               have hcell : v.cells = w.cells S E := (SV.rv_cells S E hv).symm
               have hyl := SV.len S E y
               refine ⟨⟨?_, ?_⟩, ?_⟩
               · show Q.cells = splice R.cells ((i.int S).toNat * R.z + o) (y.cells S E)
                 rw [q1 hlt, hcell, p1, hg]
                 have e1 : R.cells = R.cells.take ((i.int S).toNat * R.z) ++ ((R.cells.drop ((i.int S).toNat * R.z)).take R.z ++ R.cells.drop ((i.int S).toNat * R.z + R.z)) := by
                   rw [← List.drop_drop, List.take_append_drop, List.take_append_drop]
                 have hc1 : ((R.cells.drop ((i.int S).toNat * R.z)).take R.z).length = R.z := by simp; omega
                 have hc0 : (R.cells.take ((i.int S).toNat * R.z)).length = (i.int S).toNat * R.z := by simp; omega
                 have h3 := splice_in (R.cells.take ((i.int S).toNat * R.z)) ((R.cells.drop ((i.int S).toNat * R.z)).take R.z) (R.cells.drop ((i.int S).toNat * R.z + R.z)) (y.cells S E) o (by rw [hc1, hyl]; omega)
                 have h4 := splice_in (R.cells.take ((i.int S).toNat * R.z)) ((R.cells.drop ((i.int S).toNat * R.z)).take R.z) (R.cells.drop ((i.int S).toNat * R.z + R.z)) (splice ((R.cells.drop ((i.int S).toNat * R.z)).take R.z) o (y.cells S E)) 0 (by rw [splice_len (by rw [hc1, hyl]; omega)]; omega)
                 rw [← e1, hc0] at h3 h4
                 rw [h3, ← Nat.add_zero ((i.int S).toNat * R.z)]
                 rw [Nat.add_zero] at h4 ⊢
                 rw [h4]
                 congr 2
                 unfold splice
                 simp
                 omega
               · show (i.int S).toNat * R.z + o + y.size ≤ R.cells.length
                 omega
               · show Q.len * Q.z = R.len * R.z
                 rw [q2, q3]
             · cases h
           · cases h
         · cases h
     · rename_i j a x b
       split at h
       · rename_i j'
         cases hz : (Nat.beq j j' && (Nat.beq a.z zz && Nat.beq x.size zz)) with
         | false => rw [hz] at h; cases h
         | true =>
           rw [hz] at h
           simp only [Bool.and_eq_true, Nat.beq_eq] at hz
           simp only [cond_true] at h
           obtain ⟨rfl, rfl, hxz⟩ := hz
           split at h
           · rename_i w hw
             injection h with h; injection h with h1 h2; subst h1 h2
             have hlt : (S.ix j).toNat = a.len := hfo
             obtain ⟨⟨p1, p2⟩, p3⟩ := SV.put_ok S E hw
             have hl := a.length
             have hyl := SV.len S E y
             have hv : (Off.row (Ix.tok j) a.z o).val S = a.cells.length + o := by
               show (S.ix j).toNat * a.z + o = _
               rw [hlt, hl]
             refine ⟨⟨?_, ?_⟩, ?_⟩
             · rw [hv]
               show a.cells ++ (w.cells S E ++ b.cells) = splice (a.cells ++ (x.cells S E ++ b.cells)) (a.cells.length + o) (y.cells S E)
               rw [splice_in _ _ _ _ _ (by rw [hyl]; exact p2), p1]
             · rw [hv]
               show _ ≤ (a.cells ++ (x.cells S E ++ b.cells)).length
               simp only [List.length_append]
               omega
             · show a.len * a.z + (w.size + b.len * b.z) = a.len * a.z + (x.size + b.len * b.z)
               rw [p3]
           · cases h
       · cases h
     · cases h
theorem SV.putO_noTup {S : Stat} {x : SV} {o : Off} {y : SV} {q : Option Bool × SV} (h : x.putO S o y = some q) : x.noTup = true := by
 unfold SV.putO at h
 cases hn : (Nat.blt 0 y.size && x.noTup) with
 | false => rw [hn] at h; cases h
 | true => simp only [Bool.and_eq_true] at hn; exact hn.2
theorem SV.put_foOk {S : Stat} {x z y : SV} {o : Nat} (h : x.put o y = some z) (hx : x.foOk S) (hy : y.foOk S) : z.foOk S := by
 unfold SV.put at h
 cases hb : (Nat.beq o 0 && Nat.beq y.size x.size) && (y.aggr == x.aggr) with
 | true => rw [hb] at h; simp only [cond_true, Option.some.injEq] at h; subst h; exact hy
 | false =>
   rw [hb] at h
   simp only [cond_false] at h
   cases x <;> simp only [SV.set] at h <;> (try cases h)
   · split at h
     · split at h <;> first | (injection h with h; subst h; trivial) | cases h
     · cases h
   · split at h <;> first | (injection h with h; subst h; trivial) | cases h
theorem SV.putO_foOk {S : Stat} {x z y : SV} {o : Off} {cd : Option Bool} (h : x.putO S o y = some (cd, z)) (hx : x.foOk S) (hy : y.foOk S) : z.foOk S := by
 unfold SV.putO at h
 cases hn : (Nat.blt 0 y.size && x.noTup) with
 | false => rw [hn] at h; cases h
 | true =>
   rw [hn] at h
   simp only [cond_true] at h
   split at h
   · split at h
     · cases h
     · cases h
     · split at h
       · rename_i hz
         injection h with h; injection h with h1 h2; subst h1 h2
         exact SV.put_foOk hz hx hy
       · cases h
   · split at h
     · rename_i R
       have key : ∀ (b : Bool) (q : Option (Option Bool × SV)), (∀ c w, q = some (c, w) → w.foOk S) → (bif b then q else none) = some (cd, z) → z.foOk S := by
         intro b q hq hh
         cases b with
         | true => exact hq _ _ hh
         | false => cases hh
       refine key _ _ (fun c w hq => ?_) h
       split at hq
       · split at hq
         · split at hq
           · injection hq with hq; injection hq with h1 h2; subst h1 h2; trivial
           · cases hq
         · cases hq
       · cases hq
     · rename_i j a x b
       split at h
       · rename_i j'
         cases hz : (Nat.beq j j' && (Nat.beq a.z _ && Nat.beq x.size _)) with
         | false => rw [hz] at h; cases h
         | true =>
           rw [hz] at h
           simp only [cond_true] at h
           split at h
           · injection h with h; injection h with h1 h2; subst h1 h2; exact hx
           · cases h
       · cases h
     · cases h
end Go.Proofs.YtjemfkoamfnofaaGreat
