import Derived.Test.YtjemfkoamfnofaaGreatSym
import Derived.WalkKit
import Derived.Orders
set_option linter.unusedVariables false
namespace Go.Proofs.YtjemfkoamfnofaaGreat
open Go Go.RowKit
inductive Out (α : Type) where
 | ret (x : α)
 | ite (b : Bool) (t e : Out α)
 | bad
def Out.bind {α β : Type} (x : Out α) (f : α → Out β) : Out β :=
 match x with
 | .ret a => f a
 | .ite b t e => .ite b (t.bind f) (e.bind f)
 | .bad => .bad
def Out.sel {α : Type} : Out α → Option α
 | .ret x => some x
 | .ite b t e => if b = true then t.sel else e.sel
 | .bad => none
theorem Out.sel_bind {α β : Type} (x : Out α) (f : α → Out β) : (x.bind f).sel = x.sel.bind fun a => (f a).sel := by
 induction x with
 | ret a => rfl
 | ite b t e h1 h2 =>
   cases b
   · simpa [Out.bind, Out.sel] using h2
   · simpa [Out.bind, Out.sel] using h1
 | bad => rfl
inductive Sh where
 | int (k : IntKind) | bool | str | func | other
 | slice (e : TypeId) | arr (n : Nat) (e : TypeId) | ptr (e : TypeId)
 | strct (fs : List (Nat × TypeId))
 | map (k e : TypeId)
 | flt (k : FloatKind) | cpx (k : FloatKind)
def shapeOf : TypeDesc → Sh
 | .int k => .int k
 | .bool => .bool
 | .string => .str
 | .func _ _ _ => .func
 | .slice e => .slice e
 | .array n e => .arr n e
 | .pointer e => .ptr e
 | .struct fs => .strct (fs.toList.map fun f => (f.offset, f.type))
 | .map k e => .map k e
 | .float k => .flt k
 | .complex k => .cpx k
 | _ => .other
def Sh.agg : Sh → Bool
 | .strct _ | .arr _ _ => true
 | _ => false
structure TD where
 size : Nat
 sh : Sh
 zero : SV
abbrev Heap := List (Nat × SV)
abbrev Path := List (Nat × Bool)
abbrev Slots := List (Nat × Path × SV)
structure St where
 slots : Slots
 heap : Heap
 next : Nat
def Heap.get : Heap → Nat → Option SV
 | [], _ => none
 | (k, x) :: r, c => bif Nat.beq k c then some x else Heap.get r c
def Heap.put : Heap → Nat → SV → Heap
 | [], c, y => [(c, y)]
 | (k, x) :: r, c, y => bif Nat.beq k c then (k, y) :: r else (k, x) :: Heap.put r c y
def Slots.get : Slots → Nat → Option (Path × SV)
 | [], _ => none
 | (k, x) :: r, c => bif Nat.beq k c then some x else Slots.get r c
inductive Ex where
 | nrm | exit (id : Nat) | ret | goto (l : Nat)
structure Ctx where
 S : Stat
 win : List (Nat × Nat × Nat × Nat)
 tys : TypeId → Option TD
 eqb : TypeId → SV → SV → Option Bool
 read : FuncId → List SV → Heap → Nat → Option (SV × List Nat × Option Bool)
 spec : FuncId → List SV → Heap → Nat → Out (SV × Heap × Nat)
 loop : Nat → St → Option (Out (Ex × St))
 sure : List (Nat × Bool) := []
 make : FuncId → List SV → Heap → Nat → Out (SV × Heap × Nat) := fun _ _ _ _ => .bad
 tail : Nat → List Oper → List Oper → St → Option (Out St) := fun _ _ _ _ => none
inductive Ask where
 | get (n : Int) (z : Rec)
 | len
inductive Upd where
 | put (n : Int) (r : Rec)
 | del (n : Int)
def askT (T : Tab) : Ask → Option SV
 | .get n z => (match T.get n z with | some r => some (.tup [.rcd r, .v (.bool (T.has n))]) | none => none)
 | .len => some (.v (.int .i64 T.len))
def updT (T : Tab) : Upd → Option Tab
 | .put n r => T.put n r
 | .del n => some (T.del n)
def zrows : SV → Nat → Option Rows
 | .ki k m, n => some (.int k (List.replicate n m))
 | .kb b, n => some (.bool (List.replicate n b))
 | _, _ => none
def mapOf : Option (IntKind × Rec) → SV
 | some (k, z) => .tab (Tab.none k z)
 | none => .tup [.ki .i64 (.ofNat 0)]
inductive Deed where
 | yield (x : SV)
 | test (b : Bool) (x : SV)
 | load (k : Nat) (o : Off) (n : Nat) (g : Bool)
 | store (k : Nat) (o : Off) (y : SV)
 | new (y : SV)
 | newSlice (y : SV) (len : Nat)
 | emp
 | copy (b : Option (Nat × Nat)) (k m z : Nat)
 | join (b : Option (Nat × Nat)) (k m z : Nat)
 | newMap (z : Option (IntKind × Rec))
 | newRow (R : Rows) (len : Nat) (t : Bool)
 | insert (k : Nat) (kk : IntKind) (n : Int) (y : SV)
 | look (k : Nat) (kk : IntKind) (q : SV)
 | ask (k : Nat) (kk : IntKind) (q : Ask)
 | amend (k : Nat) (kk : IntKind) (u : Upd)
 | call (f : FuncId) (args : List SV)
 | act (f : FuncId) (args : List SV) (rs ks : List Nat) (outs : Heap) (hi : Nat)
 | read (f : FuncId) (args : List SV) (ks : List Nat)
def SV.pt : SV → Option (Nat × Off)
 | .ptr k o => some (k, .at o)
 | .elt k i z o => some (k, .row i z o)
 | _ => none
def SV.idx : SV → Option Ix
 | .ix j => some (.tok j)
 | .v (.int _ n) => some (.val n)
 | .ki _ n => some (.val n)
 | _ => none
def Out.when {α : Type} (c : Option Bool) (x : α) : Out α := match c with | none => .ret x | some b => .ite b (.ret x) .bad
theorem Out.when_sel {α : Type} {c : Option Bool} {x y : α} (h : (Out.when c x).sel = some y) : okC c = true ∧ x = y := by
 cases c with
 | none => injection h with h; exact ⟨rfl, h⟩
 | some b =>
   cases b with
   | true => simp only [Out.when, Out.sel, if_true, Option.some.injEq] at h; exact ⟨rfl, h⟩
   | false => simp [Out.when, Out.sel] at h
def Out.one {α : Type} : Out α → Option (Option Bool × α)
 | .ret x => some (none, x)
 | .ite b t e => match t, e with
   | .ret x, .bad => some (some b, x)
   | _, _ => none
 | .bad => none
theorem Out.one_ok {α : Type} {o : Out α} {c : Option Bool} {x : α} (h : o.one = some (c, x)) : o = Out.when c x := by
 unfold Out.one at h
 split at h
 · injection h with h; injection h with h1 h2; subst h1 h2; rfl
 · split at h
   · injection h with h; injection h with h1 h2; subst h1 h2; rfl
   · cases h
 · cases h
def Out.flat {α : Type} : Out α → Option (Option Bool × α)
 | .ret x => some (none, x)
 | .ite b t e => match e with
   | .bad => (match t.flat with
     | some (none, x) => some (some b, x)
     | some (some c, x) => some (some (b && c), x)
     | none => none)
   | _ => none
 | .bad => none
theorem Out.flat_sel {α : Type} : ∀ {o : Out α} {c : Option Bool} {x : α}, o.flat = some (c, x) → okC c = true → o.sel = some x
 | .ret y, c, x, h, _ => by
   injection h with h; injection h with h1 h2; subst h2; rfl
 | .ite b t e, c, x, h, hc => by
   unfold Out.flat at h
   split at h
   · split at h
     · rename_i y hy
       injection h with h; injection h with h1 h2; subst h1 h2
       have hb : b = true := hc
       subst hb
       simpa [Out.sel] using Out.flat_sel hy rfl
     · rename_i c' y hy
       injection h with h; injection h with h1 h2; subst h1 h2
       have hb : (b && c') = true := hc
       simp only [Bool.and_eq_true] at hb
       rw [hb.1]
       simpa [Out.sel] using Out.flat_sel hy (show okC (some c') = true from hb.2)
     · cases h
   · cases h
 | .bad, c, x, h, _ => by cases h
theorem Out.one_sel {α : Type} {o : Out α} {c : Option Bool} {x : α} (h : o.one = some (c, x)) (hc : okC c = true) : o.sel = some x := by
 rw [Out.one_ok h]
 cases c with
 | none => rfl
 | some b => cases b with
   | true => rfl
   | false => cases hc
def konst : Value → SV
 | .bool b => .kb b
 | .int k n => .ki k n
 | x => .v x
def SV.sc (S : Stat) : SV → Option (Value × Bool)
 | .kb b => some (.bool b, true)
 | .ki k n => some (.int k n, true)
 | .v x => some (x, false)
 | .ix j => some (.int .i64 (S.ix j), false)
 | _ => none
def valOf : Sem Value → Option Value
 | .pure v => some v
 | _ => none
def told (known : Bool) (x : Value) : SV := match known with | true => konst x | false => .v x
def within (p q : Path) : Bool := p.all fun a => q.any fun b => Nat.beq a.1 b.1 && (a.2 == b.2)
def ev (s : Slots) (p : Path) : Operand → Option SV
 | .tmp t => match s.get t with
   | some (q, x) => bif within q p then some x else none
   | none => none
 | .const v => some (konst v)
 | .func f => some (.fn (.func f) [] [])
 | .global _ => none
def evs (s : Slots) (p : Path) : List Operand → Option (List SV)
 | [] => some []
 | x :: r => match ev s p x with
   | some y => (match evs s p r with | some ys => some (y :: ys) | none => none)
   | none => none
def nthN : List (Nat × TypeId) → Nat → Option (Nat × TypeId)
 | [], _ => none
 | x :: r, n => match n with | 0 => some x | n + 1 => nthN r n
def nthS : List SV → Nat → Option SV
 | [], _ => none
 | x :: r, n => match n with | 0 => some x | n + 1 => nthS r n
def winOf : List (Nat × Nat × Nat × Nat) → Nat → Nat → Option (Nat × Nat)
 | [], _, _ => none
 | (n, j, c, z) :: r, n', j' => bif Nat.beq n n' && Nat.beq j j' then some (c, z) else winOf r n' j'
def toldE (x : SV) (b : Bool) : SV := match x with
 | .rcd _ => .v (.bool b)
 | _ => .kb b
def binop (c : Ctx) (op : BinOp) (t : TypeId) (x y : SV) : Option SV :=
 match x.sc c.S, y.sc c.S with
 | some (.int k a, g), some (.int k' b, h) => (match valOf (binOp op t (.int k a) (.int k' b)) with | some v => some (told (g && h) v) | none => none)
 | some (.bool a, g), some (.bool b, h) =>
   (match c.tys t with
   | some ⟨_, .bool, _⟩ => (match op with
     | .eql => some (told (g && h) (.bool (a == b)))
     | .neq => some (told (g && h) (.bool (!(a == b))))
     | _ => none)
   | _ => none)
 | _, _ => match op with
   | .eql => (match c.eqb t x y with | some b => some (toldE x b) | none => none)
   | .neq => (match c.eqb t x y with | some b => some (toldE x !b) | none => none)
   | _ => none
def divs (c : Ctx) (op : BinOp) (x y : SV) : Option Deed :=
 match y with
 | .v (.int k' b) => (match x.sc c.S with
   | some (.int k a, _) => (match op with
     | .quo => bif k == k' then some (.test (!(b == 0)) (.v (.int k (k.wrap (a.tdiv b))))) else none
     | .rem => bif k == k' then some (.test (!(b == 0)) (.v (.int k (a.tmod b)))) else none
     | .shl => some (.test (decide (0 ≤ b)) (.v (.int k (k.wrap (a * 2 ^ (min b.toNat k.bits))))))
     | .shr => some (.test (decide (0 ≤ b)) (.v (.int k (a.fdiv (2 ^ (min b.toNat k.bits))))))
     | _ => none)
   | _ => none)
 | _ => none
def pickv (c a b : SV) : Option SV :=
 match c with
 | .kb t => some (match t with | true => a | false => b)
 | .v (.bool x) => match a, b with
   | .kb true, .v (.bool y) => some (.v (.bool (x || y)))
   | .v (.bool y), .kb false => some (.v (.bool (x && y)))
   | .v (.bool y), .v (.bool z) => some (.v (.bool (cond x y z)))
   | .kb true, .kb y => some (.v (.bool (x || y)))
   | .kb false, .kb y => some (.v (.bool (!x && y)))
   | .kb false, .v (.bool y) => some (.v (.bool (!x && y)))
   | .v (.bool y), .kb true => some (.v (.bool (cond x y true)))
   | _, _ => none
 | _ => none
def evZ (c : Ctx) (s : Slots) (p : Path) (z : SV) (x : Operand) : Option SV := match z with
 | .rcd _ => (match ev s p x with | some (.ix j) => some (.v (.int .i64 (c.S.ix j))) | o => o)
 | _ => ev s p x
def fills (c : Ctx) (fl : List (Nat × TypeId)) (s : Slots) (p : Path) : List (Nat × Operand) → SV → Option SV
 | [], z => some z
 | (i, x) :: r, z => match nthN fl i with
   | some (o, ft) => (match evZ c s p z x with
     | some y => (match c.tys ft with
       | some e => bif Nat.beq e.size y.size && y.one then (match z.put o y with
         | some z' => fills c fl s p r z'
         | none => none) else none
       | none => none)
     | none => none)
   | none => none
def fillsAt (c : Ctx) (e : TypeId) (z : TD) (s : Slots) (p : Path) : List (Nat × Operand) → SV → Option SV
 | [], y => some y
 | (i, x) :: r, y => match ev s p x with
   | some v => bif Nat.beq z.size v.size && v.one then (match y.put (Nat.mul i z.size) v with
     | some y' => fillsAt c e z s p r y'
     | none => none) else none
   | none => none
def repl : Nat → SV → List SV
 | 0, _ => []
 | n + 1, x => x :: repl n x
def lacks (kk : IntKind) (n : Int) : List SV → Bool
 | [] => true
 | .tup [.ki kk' m, _, _] :: r => bif kk == kk' then bif m == n then false else lacks kk n r else false
 | _ => false
def findK (kk : IntKind) (n : Int) : List SV → Option SV
 | [] => none
 | .tup [.ki kk' m, y, _] :: r => bif kk == kk' then bif m == n then some y else findK kk n r else none
 | _ => none
def tabFn (kk : IntKind) (base i : Nat) : List SV → Bool
 | [] => true
 | .tup [.ki kk' (.ofNat m), .fn (.func f) [] [], _] :: r => bif kk == kk' then bif Nat.beq m i then bif Nat.beq f (Nat.add i base) then tabFn kk base (Nat.add i 1) r else false else false else false
 | _ => false
def lookK (S : Stat) (kk : IntKind) (q : SV) (l : List SV) : Option (Option Bool × SV) :=
 match q with
 | .ki kk' n => bif kk == kk' then (match findK kk n l with | some y => some (none, y) | none => none) else none
 | q => match q.sc S with
   | some (.int kk' n, _) => bif kk == kk' then (match l with
     | .tup [_, .fn (.func base) [] [], _] :: _ => bif tabFn kk base 0 l then some (some (decide (0 ≤ n) && decide (n < l.length)), .fn (.func (Nat.add n.toNat base)) [] []) else none
     | _ => none) else none
   | _ => none
def joinOnto (x : SV) (k m z : Nat) : Option Deed := match x with
 | .v (.slice none 0 0) => some (.join none k m z)
 | .slr q n _ true => some (.join (some (q, n)) k m z)
 | .slc q 0 n n' => bif Nat.beq n n' then some (.join (some (q, n)) k m z) else none
 | _ => none
def kiIs (x : Option SV) (n : Nat) : Bool := match x with
 | some (.ki _ (.ofNat m)) => Nat.beq m n
 | _ => false
def sliceAll (x : SV) (h m : Option SV) : Option SV := match x with
 | .v (.slice none 0 0) => bif kiIs h 0 && kiIs m 0 then some (.v (.slice none 0 0)) else none
 | .slc c 0 n n' => bif (kiIs h n && kiIs m n) && Nat.ble n n' then some (.slc c 0 n n) else none
 | .slu c 0 n _ => bif kiIs h n && kiIs m n then some (.slc c 0 n n) else none
 | _ => none
def sliceD (x : SV) (h m : Option SV) : Option Deed := match x with
 | .slr c n u q => (match h, m with
   | some (.v (.int _ a)), some (.v (.int _ b)) => some (.test (decide (a = n) && decide (b = n)) (.slr c n u true))
   | _, _ => none)
 | x => (match sliceAll x h m with | some q => some (.yield q) | none => none)
def plan0 (c : Ctx) (s : Slots) (p : Path) (o : Oper) : Option Deed :=
 match o.op with
 | .move x | .assign x => match ev s p x with | some y => some (.yield y) | none => none
 | .pick cc a b =>
   (match cc with
   | .tmp t => (match ev s p cc with
     | some cv => (match ev s ((t, true) :: p) a with
       | some av => (match ev s ((t, false) :: p) b with
         | some bv => (match pickv cv av bv with | some y => some (.yield y) | none => none)
         | none => none)
       | none => none)
     | none => none)
   | _ => none)
 | .alloc t => match c.tys t with | some d => some (.new d.zero) | none => none
 | .box _ x => match ev s p x with | some y => bif y.one then some (.new y) else none | none => none
 | .load t a =>
   (match ev s p a with
   | some q => (match q.pt with
     | some (k, off) => (match c.tys t with | some d => some (.load k off d.size d.sh.agg) | none => none)
     | none => none)
   | none => none)
 | .store t a x =>
   (match ev s p a with
   | some q => (match q.pt with
     | some (k, off) => (match ev s p x with
       | some y => (match c.tys t with | some d => bif Nat.beq d.size y.size && y.one then some (.store k off y) else none | none => none)
       | none => none)
     | none => none)
   | none => none)
 | .nilCheck x =>
   (match ev s p x with
   | some (.ptr k off) => some (.yield (.ptr k off))
   | some (.elt k i z off) => some (.yield (.elt k i z off))
   | some (.fn (.func f) a b) => some (.yield (.fn (.func f) a b))
   | _ => none)
 | .binOp op t x y _ =>
   (match ev s p x with
   | some xv => (match ev s p y with
     | some yv => (match divs c op xv yv with | some d => some d | none => (match binop c op t xv yv with | some z => some (.yield z) | none => none))
     | none => none)
   | none => none)
 | .unOp op t x =>
   (match ev s p x with
   | some xv => (match xv.sc c.S with
     | some (xx, g) => (match valOf (Op.unary op xx) with | some z => some (.yield (told g z)) | none => none)
     | none => none)
   | none => none)
 | .convert src dst x =>
   (match ev s p x with
   | some xv => (match xv.sc c.S with
     | some (.int k n, g) => (match c.tys dst with
       | some ⟨_, .int k', _⟩ => (match c.tys src with | some _ => some (.yield (told g (.int k' (k'.wrap n)))) | none => none)
       | _ => none)
     | _ => none)
   | none => none)
 | .fieldAddr t x f =>
   (match ev s p x with
   | some (.ptr k off) => (match c.tys t with
     | some ⟨_, .strct fs, _⟩ => (match nthN fs f with
       | some (d, ft) => (match c.tys ft with
         | some e => bif Nat.blt 0 e.size then some (.yield (.ptr k (Nat.add off d))) else none
         | none => none)
       | none => none)
     | _ => none)
   | some (.elt k i z off) => (match c.tys t with
     | some ⟨_, .strct fs, _⟩ => (match nthN fs f with
       | some (d, ft) => (match c.tys ft with
         | some e => bif Nat.blt 0 e.size then some (.yield (.elt k i z (Nat.add off d))) else none
         | none => none)
       | none => none)
     | _ => none)
   | _ => none)
 | .field t x f =>
   (match ev s p x with
   | some xv => (match c.tys t with
     | some ⟨_, .strct fs, _⟩ => (match nthN fs f with
       | some (d, ft) => (match c.tys ft with
         | some e => bif xv.aggr then (match xv.get d e.size e.sh.agg with | some y => some (.yield y) | none => none) else none
         | none => none)
       | none => none)
     | _ => none)
   | none => none)
 | .indexAddr t x i =>
   (match ev s p x with
   | some (.sl n) => (match ev s p i with
     | some (.ix j) => (match winOf c.win n j with
       | some (k, z) => (match c.tys t with
         | some ⟨_, .slice e, _⟩ => (match c.tys e with | some d => bif Nat.beq d.size z then some (.yield (.ptr k 0)) else none | none => none)
         | _ => none)
       | none => none)
     | _ => none)
   | some (.slr k len _ _) => (match ev s p i with
     | some q => (match q.idx with
       | some j => (match c.tys t with
         | some ⟨_, .slice e, _⟩ => (match c.tys e with | some d => some (.test (decide (0 ≤ j.int c.S) && decide (j.int c.S < len)) (.elt k j d.size 0)) | none => none)
         | _ => none)
       | none => none)
     | none => none)
   | some (.slc k off len cap) => (match ev s p i with
     | some (.ki _ (.ofNat m)) => (match c.tys t with
       | some ⟨_, .slice e, _⟩ => (match c.tys e with | some d => bif Nat.blt m len then some (.yield (.ptr k (Nat.add off (Nat.mul m d.size)))) else none | none => none)
       | _ => none)
     | _ => none)
   | some (.slu k off len u) => (match ev s p i with
     | some (.ki _ (.ofNat m)) => (match c.tys t with
       | some ⟨_, .slice e, _⟩ => (match c.tys e with | some d => bif Nat.blt m len then some (.yield (.ptr k (Nat.add off (Nat.mul m d.size)))) else none | none => none)
       | _ => none)
     | _ => none)
   | some (.ptr k off) => (match ev s p i with
     | some (.ki _ (.ofNat m)) => (match c.tys t with
       | some ⟨_, .arr len e, _⟩ => (match c.tys e with | some d => bif Nat.blt m len then some (.yield (.ptr k (Nat.add off (Nat.mul m d.size)))) else none | none => none)
       | _ => none)
     | _ => none)
   | _ => none)
 | .index t x i =>
   (match ev s p x with
   | some (.agg l) => (match ev s p i with
     | some (.ki _ (.ofNat m)) => (match c.tys t with
       | some ⟨_, .arr len e, _⟩ => (match c.tys e with
         | some d => bif Nat.blt m len then (match (SV.agg l).get (Nat.mul m d.size) d.size d.sh.agg with | some y => some (.yield y) | none => none) else none
         | none => none)
       | _ => none)
     | _ => none)
   | _ => none)
 | .slice t x none (some h) (some m) =>
   (match ev s p x with
   | some y => (match c.tys t with
     | some ⟨_, .slice e, _⟩ => (match c.tys e with
       | some _ => sliceD y (ev s p h) (ev s p m)
       | none => none)
     | _ => none)
   | none => none)
 | .extract t i =>
   (match ev s p t with
   | some (.tup l) => (match nthS l i with | some y => some (.yield y) | none => none)
   | _ => none)
 | .build t parts =>
   (match c.tys t with
   | some ⟨_, .strct fs, z⟩ => (match fills c fs s p parts.toList z with | some y => bif y.aggr then some (.yield y) else none | none => none)
   | some ⟨_, .arr _ e, z⟩ => (match c.tys e with
     | some d => (match fillsAt c e d s p parts.toList z with | some y => bif y.aggr then some (.yield y) else none | none => none)
     | none => none)
   | _ => none)
 | .buildSlice t len parts =>
   (match c.tys t with
   | some ⟨_, .slice e, _⟩ => (match c.tys e with
     | some z => bif Nat.beq len 0 && parts.toList.isEmpty then some .emp else bif Nat.ble (Nat.mul len z.size) 16777216 && Nat.blt 0 (Nat.mul len z.size) then (match fillsAt c e z s p parts.toList (.agg (repl len z.zero)) with | some y => bif y.one then some (.newSlice y len) else none | none => none) else none
     | none => none)
   | _ => none)
 | .makeSlice t l k =>
   (match c.tys t, ev s p l, ev s p k with
   | some ⟨_, .slice e, _⟩, some (.v (.int .i64 x)), some (.v (.int .i64 y)) => (match c.tys e with
     | some d => (match zrows d.zero x.toNat with | some R => some (.newRow R x.toNat (decide (0 ≤ x ∧ x ≤ 100000 ∧ y = x))) | none => none)
     | none => none)
   | _, _, _ => none)
 | .makeMap t none => some (.newMap (match c.tys t with
   | some ⟨_, .map kt et, _⟩ => (match c.tys kt, c.tys et with
     | some ⟨_, .int kk, _⟩, some ⟨_, _, .rcd z⟩ => some (kk, z)
     | _, _ => none)
   | _ => none))
 | .insert t m k x =>
   (match ev s p m with
   | some (.mp c0) => (match c.tys t with
     | some ⟨_, .map kt _, _⟩ => (match c.tys kt with
       | some ⟨_, .int kk, _⟩ => (match ev s p k with
         | some (.ki kk' n) => (match ev s p x with
           | some y => bif kk == kk' then some (.insert c0 kk n y) else none
           | none => none)
         | _ => none)
       | _ => none)
     | _ => none)
   | _ => none)
 | .lookup t m k false =>
   (match ev s p m with
   | some (.mp c0) => (match c.tys t with
     | some ⟨_, .map kt _, _⟩ => (match c.tys kt with
       | some ⟨_, .int kk, _⟩ => (match ev s p k with
         | some q => some (.look c0 kk q)
         | none => none)
       | _ => none)
     | _ => none)
   | _ => none)
 | .lookup t m k true =>
   (match ev s p m with
   | some (.mp c0) => (match c.tys t with
     | some ⟨_, .map kt et, _⟩ => (match c.tys kt, c.tys et with
       | some ⟨_, .int kk, _⟩, some ⟨_, _, .rcd z⟩ => (match ev s p k with
         | some q => (match q.sc c.S with
           | some (.int kk' n, _) => bif kk == kk' then some (.ask c0 kk (.get n z)) else none
           | _ => none)
         | none => none)
       | _, _ => none)
     | _ => none)
   | _ => none)
 | .mapUpdate t m k x =>
   (match ev s p m with
   | some (.mp c0) => (match c.tys t with
     | some ⟨_, .map kt _, _⟩ => (match c.tys kt with
       | some ⟨_, .int kk, _⟩ => (match ev s p k with
         | some q => (match q.sc c.S with
           | some (.int kk' n, _) => (match ev s p x with
             | some (.rcd r) => bif kk == kk' then some (.amend c0 kk (.put n r)) else none
             | _ => none)
           | _ => none)
         | none => none)
       | _ => none)
     | _ => none)
   | _ => none)
 | .makeFunc fn first cap =>
   (match evs s p first.toList with
   | some a => (match evs s p cap.toList with
     | some b => some (.yield (.fn fn a b))
     | none => none)
   | none => none)
 | .call d =>
   (match d.callee with
   | .value f => (match ev s p f with
     | some (.fn (.func n) first cap) => (match evs s p d.args.toList with
       | some args => some (.call n (first ++ (args ++ cap)))
       | none => none)
     | _ => none)
   | .builtin .len => (match d.args.toList, d.argTypes.toList with
     | [x], [t] => (match c.tys t with
       | some ⟨_, .slice _, _⟩ => (match ev s p x with
         | some (.sl n) => some (.yield (.v (.int .i64 (c.S.sl n).2.1)))
         | some (.slc _ _ len _) => some (.yield (.ki .i64 len))
         | some (.slu _ _ len _) => some (.yield (.ki .i64 len))
         | some (.slr _ len _ _) => some (.yield (.v (.int .i64 len)))
         | some (.v (.slice none 0 0)) => some (.yield (.ki .i64 0))
         | _ => none)
       | some ⟨_, .map kt _, _⟩ => (match c.tys kt, ev s p x with
         | some ⟨_, .int kk, _⟩, some (.mp c0) => some (.ask c0 kk .len)
         | _, _ => none)
       | _ => none)
     | _, _ => none)
   | .builtin .append => (match evs s p d.args.toList, d.argTypes.toList with
     | some [x, .slr k m _ _], [t, t'] => (match c.tys t, c.tys t' with
       | some ⟨_, .slice e, _⟩, some ⟨_, .slice _, _⟩ => (match c.tys e with
         | some z => bif Nat.blt 0 z.size then (match x with
           | .v (.slice none 0 0) => some (.copy none k m z.size)
           | .slr q 0 u true => some (.copy (some (q, u)) k m z.size)
           | _ => none) else none
         | none => none)
       | _, _ => none)
     | some [x, .slc k 0 m _], [t, t'] => (match c.tys t, c.tys t' with
       | some ⟨_, .slice e, _⟩, some ⟨_, .slice _, _⟩ => (match c.tys e with
         | some z => bif Nat.blt 0 z.size && Nat.blt 0 m then joinOnto x k m z.size else none
         | none => none)
       | _, _ => none)
     | some [x, .slu k 0 m _], [t, t'] => (match c.tys t, c.tys t' with
       | some ⟨_, .slice e, _⟩, some ⟨_, .slice _, _⟩ => (match c.tys e with
         | some z => bif Nat.blt 0 z.size && Nat.blt 0 m then joinOnto x k m z.size else none
         | none => none)
       | _, _ => none)
     | some [.slc q 0 n n', .v (.slice none 0 0)], [t, t'] => (match c.tys t, c.tys t' with
       | some ⟨_, .slice e, _⟩, some ⟨_, .slice _, _⟩ => (match c.tys e with
         | some _ => bif Nat.ble n n' then some (.yield (.slc q 0 n n')) else none
         | none => none)
       | _, _ => none)
     | _, _ => none)
   | .builtin .delete => (match d.args.toList, d.argTypes.toList with
     | [m, k], [t, _] => (match o.dst, ev s p m with
       | none, some (.mp c0) => (match c.tys t with
         | some ⟨_, .map kt _, _⟩ => (match c.tys kt with
           | some ⟨_, .int kk, _⟩ => (match ev s p k with
             | some q => (match q.sc c.S with
               | some (.int kk' n, _) => bif kk == kk' then some (.amend c0 kk (.del n)) else none
               | _ => none)
             | none => none)
           | _ => none)
         | _ => none)
       | _, _ => none)
     | _, _ => none)
   | .builtin .min => (match evs s p d.args.toList with
     | some [x, y] => (match x.sc c.S, y.sc c.S with
       | some (.int k a, g), some (.int k' b, h) => some (.yield (told (g && h) (.int k (if b < a then b else a))))
       | _, _ => none)
     | _ => none)
   | .builtin .max => (match evs s p d.args.toList with
     | some [x, y] => (match x.sc c.S, y.sc c.S with
       | some (.int k a, g), some (.int k' b, h) => some (.yield (told (g && h) (.int k (if b > a then b else a))))
       | _, _ => none)
     | _ => none)
   | _ => none)
 | _ => none
def sureIn : List (Nat × Bool) → Option Nat → Option Bool
 | [], _ => none
 | (t, b) :: r, d => match d with
   | some k => bif Nat.beq t k then some b else sureIn r d
   | none => none
def sureY (l : List (Nat × Bool)) (d : Option Nat) : Deed → Deed
 | .yield (.v (.bool b)) => (match sureIn l d with
   | some t => .test (b == t) (.kb t)
   | none => .yield (.v (.bool b)))
 | x => x
def sureD (l : List (Nat × Bool)) (d : Option Nat) (x : Deed) : Deed := match l with
 | [] => x
 | _ :: _ => sureY l d x
def plan (c : Ctx) (s : Slots) (p : Path) (o : Oper) : Option Deed := match plan0 c s p o with
 | some d => some (sureD c.sure o.dst d)
 | none => none
def St.bnd (st : St) : Bool :=
 (st.slots.all fun x => x.2.2.bnd st.next) && (st.heap.all fun x => Nat.blt x.1 st.next && x.2.bnd st.next)
def baseBnd (n : Nat) : Option (Nat × Nat) → Bool
 | some (q, u) => Nat.blt q n && Nat.blt u n
 | none => true
def joinLen : Option (Nat × Nat) → Nat
 | some (_, n) => n
 | none => 0
def joinPart (H : Heap) (b : Option (Nat × Nat)) (m z : Nat) : Option (Option Bool × List SV) := match b with
 | none => some (none, [])
 | some (q, n) => (match H.get q with
   | some (.agg l) => bif Nat.beq (SV.sizes l) (Nat.mul n z) then some (none, l) else none
   | some (.rows R) => bif Nat.beq R.z z then some (some (decide (n = R.len ∧ n + m ≤ 134217728)), [.rows R]) else none
   | none => bif Nat.beq n 0 then some (none, []) else none
   | _ => none)
def partsOf : SV → Option (List SV)
 | .agg l => some l
 | .rcd r => some [.rcd r]
 | _ => none
def joinFits (cd : Option Bool) (n : Nat) : Bool := match cd with
 | none => Nat.ble n 134217728
 | some _ => true
def perform (c : Ctx) (st : St) (quiet : Bool) : Deed → Out (Option SV × Heap × Nat)
 | .yield x => .ret (some x, st.heap, st.next)
 | .test b x => .when (some b) (some x, st.heap, st.next)
 | .load k o n g => match st.heap.get k with
   | some x => (match x.partO c.S o n g with | some y => .when y.1 (some y.2, st.heap, st.next) | none => .bad)
   | none => .bad
 | .store k o y => bif quiet || (c.S.ro k || !y.one) then .bad else (match st.heap.get k with
   | some x => (match x.putO c.S o y with | some z => .when z.1 (none, st.heap.put k z.2, st.next) | none => .bad)
   | none => .bad)
 | .new y => bif quiet then .bad else bif st.bnd && (y.bnd st.next && y.one) && !(c.S.ro st.next) then .ret (some (.ptr st.next 0), (st.next, y) :: st.heap, Nat.add st.next 1) else .bad
 | .newSlice y len => bif quiet then .bad else bif st.bnd && (y.bnd st.next && y.one) && !(c.S.ro st.next) then .ret (some (.slc st.next 0 len len), (st.next, y) :: st.heap, Nat.add st.next 1) else .bad
 | .emp => bif quiet then .bad else bif st.bnd then .ret (some (.slr st.next 0 st.next true), st.heap, Nat.add st.next 1) else .bad
 | .copy b k m z => bif quiet then .bad else (match st.heap.get k with
   | some (.rows R) => bif Nat.beq R.z z && (st.bnd && (!(c.S.ro st.next) && baseBnd st.next b)) then
       .when (some (decide (m = R.len ∧ m ≤ 134217728))) (some (.slr st.next m st.next false), (st.next, .rows R) :: st.heap, Nat.add st.next 1) else .bad
   | _ => .bad)
 | .join b k m z => bif quiet then .bad else (match joinPart st.heap b m z, (st.heap.get k).bind partsOf with
   | some (cd, lx), some ly => bif Nat.beq (SV.sizes ly) (Nat.mul m z) && ((SV.ones lx && SV.ones ly) && (st.bnd && (!(c.S.ro st.next) && (Nat.blt 0 z && (Nat.blt 0 m && joinFits cd (Nat.add (joinLen b) m)))))) then
       .when cd (some (.slu st.next 0 (Nat.add (joinLen b) m) st.next), (st.next, .agg (lx ++ ly)) :: st.heap, Nat.add st.next 1) else .bad
   | _, _ => .bad)
 | .newRow R len t => bif quiet then .bad else bif st.bnd && !(c.S.ro st.next) then .when (some t) (some (.slr st.next len st.next true), (st.next, .rows R) :: st.heap, Nat.add st.next 1) else .bad
 | .newMap z => bif quiet then .bad else bif st.bnd && !(c.S.ro st.next) then .ret (some (.mp st.next), (st.next, mapOf z) :: st.heap, Nat.add st.next 1) else .bad
 | .insert k kk n y => bif quiet || c.S.ro k then .bad else (match st.heap.get k with
   | some (.tup (.ki .i64 (.ofNat clk) :: l)) => bif lacks kk n l then .ret (none, st.heap.put k (.tup (.ki .i64 (.ofNat (Nat.add clk 1)) :: (l ++ [.tup [.ki kk n, y, .ki .i64 (.ofNat clk)]]))), st.next) else .bad
   | _ => .bad)
 | .look k kk q => match st.heap.get k with
   | some (.tup (_ :: l)) => (match lookK c.S kk q l with | some y => .when y.1 (some y.2, st.heap, st.next) | none => .bad)
   | _ => .bad
 | .ask k kk q => match st.heap.get k with
   | some (.tab T) => bif T.kk == kk then (match askT T q with | some y => .ret (some y, st.heap, st.next) | none => .bad) else .bad
   | _ => .bad
 | .amend k kk u => bif quiet || c.S.ro k then .bad else (match st.heap.get k with
   | some (.tab T) => bif T.kk == kk then (match updT T u with | some Q => .ret (none, st.heap.put k (.tab Q), st.next) | none => .bad) else .bad
   | _ => .bad)
 | .read _ _ _ => .bad
 | .act _ _ _ _ _ _ => .bad
 | .call f args => match c.read f args st.heap st.next with
   | some y => .when y.2.2 (some y.1, st.heap, st.next)
   | none => bif quiet then .bad else bif st.bnd && SV.bnds st.next args then (c.spec f args st.heap st.next).bind fun r => .ret (some r.1, r.2) else .bad
def guarded (s : Slots) (ops : List Oper) (o : Oper) : Option (Option Path) :=
 match o.guard with
 | none => some (some [])
 | some (j, b) => match (ops[j]?).bind (·.dst) with
   | none => none
   | some d => match s.get d with
     | some (q, .kb t) => bif t == b then some (some q) else some none
     | some (q, .v (.bool _)) => some (some ((d, b) :: q))
     | some (_, .v (.tuple _)) => some none
     | _ => none
def Path.free (p : Path) (d : Nat) : Bool := p.all fun a => !(Nat.beq a.1 d)
def svOf : Option SV → SV
 | some y => y
 | none => .v undef
def putSlot (s : Slots) (n : Nat) (d : Option Nat) (p : Path) (x : Option SV) : Option Slots :=
 match d with
 | none => some s
 | some d => bif Nat.blt d n && (s.all fun e => Path.free e.2.1 d) && Path.free p d then some ((d, p, svOf x) :: s) else none
def isNilP : Path → Bool
 | [] => true
 | _ => false
def hasN : List Nat → Nat → Bool
 | [], _ => false
 | x :: r, n => bif Nat.beq x n then true else hasN r n
theorem hasN_mem : ∀ (l : List Nat) (t : Nat), hasN l t = true → t ∈ l
 | [], t, h => by simp [hasN] at h
 | x :: r, t, h => by
   unfold hasN at h
   cases hb : Nat.beq x t with
   | true => have := Nat.eq_of_beq_eq_true hb; subst this; exact List.mem_cons_self
   | false => rw [hb] at h; exact List.mem_cons_of_mem _ (hasN_mem r t h)
def guardedSlots : Slots → List Nat
 | [] => []
 | (d, p, _) :: r => bif isNilP p then guardedSlots r else d :: guardedSlots r
def keepSlots (g : List Nat) : Slots → Slots
 | [] => []
 | (d, p, x) :: r => bif hasN g d then keepSlots g r else (d, p, x) :: keepSlots g r
def dropGuarded (s : Slots) : Slots := match guardedSlots s with | [] => s | g => keepSlots g s
def loud (c : Ctx) (st : St) : Deed → Bool
 | .store _ _ _ | .new _ | .newSlice _ _ | .emp | .copy _ _ _ _ | .join _ _ _ _ | .newMap _ | .newRow _ _ _ | .insert _ _ _ _ | .amend _ _ _ => true
 | .call f args => match c.read f args st.heap st.next with | some _ => false | none => true
 | _ => false
def cleanP (g : Nat) (b : Bool) : Path → Option Path
 | [] => some []
 | (t, b') :: r => match cleanP g b r with
   | none => none
   | some q => bif Nat.beq t g then (bif b' == b then some q else none) else some ((t, b') :: q)
def knowS (g : Nat) (b : Bool) : Slots → Slots
 | [] => []
 | (d, p, x) :: r => bif Nat.beq d g then (d, p, .kb b) :: knowS g b r else (match cleanP g b p with
   | some q => (d, q, x) :: knowS g b r
   | none => (d, [], .v undef) :: knowS g b r)
def St.know (st : St) (g : Nat) (b : Bool) : St := { st with slots := knowS g b st.slots }
def needs (c : Ctx) (st : St) (p : Path) (d : Deed) : Option (Nat × Bool × Bool) := match p with
 | [(g, b)] => bif loud c st d then (match st.slots.get g with | some ([], .v (.bool x)) => some (g, b, x) | _ => none) else none
 | _ => none
def region (c : Ctx) (n : Nat) (ops : List Oper) : List Oper → St → Out St
 | [], st => .ret st
 | o :: rest, st => match c.tail n ops (o :: rest) st with
   | some r => r
   | none => match guarded st.slots ops o with
   | none => .bad
   | some none => (match putSlot st.slots n o.dst [] none with | some s => region c n ops rest { st with slots := s } | none => .bad)
   | some (some p) => match plan c st.slots p o with
     | none => .bad
     | some d => match needs c st p d with
       | some (g, b, x) => .ite (x == b)
         (match plan c (st.know g b).slots [] o with
         | none => .bad
         | some d => (perform c (st.know g b) false d).bind fun r => match putSlot (st.know g b).slots n o.dst [] r.1 with
           | some s => region c n ops rest { slots := s, heap := r.2.1, next := r.2.2 }
           | none => .bad)
         (match putSlot (st.know g (!b)).slots n o.dst [] none with
         | some s => region c n ops rest { (st.know g (!b)) with slots := s }
         | none => .bad)
       | none => (perform c st (!(isNilP p)) d).bind fun r => match putSlot st.slots n o.dst p r.1 with
         | some s => region c n ops rest { slots := s, heap := r.2.1, next := r.2.2 }
         | none => .bad
mutual
def SV.keys : SV → List Nat
 | .ptr c _ => [c]
 | .mp c => [c]
 | .slc c _ _ _ => [c]
 | .slu c _ _ u => [c, u]
 | .elt c _ _ _ => [c]
 | .slr c _ u _ => [c, u]
 | .foc _ _ x _ => x.keys
 | .fn _ a b => SV.keyss a ++ SV.keyss b
 | .agg l => SV.keyss l
 | .tup l => SV.keyss l
 | _ => []
def SV.keyss : List SV → List Nat
 | [] => []
 | x :: r => x.keys ++ SV.keyss r
end
def heapOf (ks : List Nat) : Heap → Heap
 | [] => []
 | (k, x) :: r => bif hasN ks k then (k, x) :: heapOf ks r else heapOf ks r
def keysIn (H : Heap) : List (Nat × SV) → List Nat
 | [] => []
 | (_, x) :: r => x.keys ++ keysIn H r
def closure (H : Heap) : Nat → List Nat → List Nat
 | 0, ks => ks
 | n + 1, ks => closure H n (ks ++ keysIn H (heapOf ks H))
def SV.isTup : SV → Bool
 | .tup _ => true
 | .tab _ => true
 | _ => false
def SV.notFoc : SV → Bool
 | .foc _ _ _ _ => false
 | _ => true
def keepW (ro : Nat → Bool) (nx : Nat) : Heap → Heap
 | [] => []
 | (k, x) :: r => bif Nat.ble nx k || !(ro k) then (k, x) :: keepW ro nx r else keepW ro nx r
def foLikeB (y x : SV) : Bool := match x with
 | .foc j a _ _ => (match y with | .foc j' a' _ _ => Nat.beq j j' && Nat.beq a'.len a.len | _ => false)
 | _ => true
def sizesT (sub : Heap) (nx : Nat) : Heap → Bool
 | [] => true
 | (k, x) :: r => (bif Nat.blt k nx then (match sub.get k with | some y => foLikeB y x && Nat.beq y.size x.size | none => false) else true) && sizesT sub nx r
def actOk (ro : Nat → Bool) (sub : Heap) (nx hi : Nat) (outs : Heap) : Bool :=
 Nat.ble nx hi && ((outs.all fun e => (Nat.blt e.1 hi && e.2.bnd hi) && (bif Nat.blt e.1 nx then (match sub.get e.1 with | some x => x.noTup || e.2.isTup | none => false) else e.2.notFoc && (e.2.noTup && !(ro e.1)))) &&
   (sub.all fun e => ro e.1 || (outs.get e.1).isSome))
def putsA (H : Heap) : Heap → Heap
 | [] => H
 | (k, x) :: r => (putsA H r).put k x
structure ActR where
 cd : Option Bool
 v : SV
 rs : List Nat
 ks : List Nat
 outs : Heap
 hi : Nat
def andC (cd : Option Bool) (b : Bool) : Option Bool := match cd with | none => some b | some q => some (q && b)
def andK (ks : List Nat) (cd : Option Bool) (b : Bool) : Option Bool := match ks with | [] => cd | _ :: _ => andC cd b
def actTry (c : Ctx) (st : St) (f : FuncId) (args : List SV) (ks : List Nat) : Option ActR :=
 let sub := heapOf ks st.heap
 bif st.bnd && SV.bnds st.next args then
   (match (c.spec f args sub st.next).flat with
   | some (cd, r) => let outs := keepW c.S.ro st.next r.2.1
     bif r.1.bnd r.2.2 && actOk c.S.ro sub st.next r.2.2 outs then some ⟨andK ks cd (sizesT sub st.next outs), r.1, ks, ks, outs, r.2.2⟩ else none
   | none => none)
 else none
def actRes (c : Ctx) (st : St) (f : FuncId) (args : List SV) : Option ActR := match actTry c st f args [] with
 | some a => some a
 | none => actTry c st f args (closure st.heap 3 (SV.keyss args))
def makeRes (c : Ctx) (st : St) (f : FuncId) (args : List SV) : Option ActR :=
 let ks := closure st.heap 3 (SV.keyss args)
 bif st.bnd && SV.bnds st.next args then
   (match (c.make f args (heapOf ks st.heap) st.next).flat with
   | some (cd, r) => let outs := keepW (fun k => Nat.blt k st.next) st.next r.2.1
     bif r.1.bnd r.2.2 && actOk c.S.ro [] st.next r.2.2 outs then some ⟨cd, r.1, ks, [], outs, r.2.2⟩ else none
   | none => none)
 else none
structure Item where
 o : Oper
 act : Option (Path × Deed × Option SV)
 key : Nat
 cnd : Option Bool
def calm (c : Ctx) (st : St) : Deed → Bool
 | .emp => false
 | .copy _ _ _ _ => false
 | .join _ _ _ _ => false
 | .newMap _ => false
 | .newRow _ _ _ => false
 | .insert _ _ _ _ => false
 | .amend _ _ _ => false
 | .call f args => match c.read f args st.heap st.next with | some _ => true | none => false
 | _ => true
def settle (c : Ctx) (st : St) : Deed → Deed
 | .call f args => (match c.read f args st.heap st.next with | some r => .read f args r.2.1 | none => .call f args)
 | .look k _ q => .read 0 [q] [k]
 | .ask k _ _ => .read 0 [] [k]
 | d => d
def joinKs : Option (Nat × Nat) → Nat → List Nat
 | some (q, _), k => [q, k]
 | none, k => [k]
def joinRes (c : Ctx) (st : St) (b : Option (Nat × Nat)) (k m z : Nat) : Option ActR :=
 let ks := joinKs b k
 let sub := heapOf ks st.heap
 bif st.bnd then
   (match (perform c ⟨[], sub, st.next⟩ false (.join b k m z)).flat with
   | some (cd, some v, r) => let outs := keepW c.S.ro st.next r.1
     bif v.bnd r.2 && actOk c.S.ro sub st.next r.2 outs then some ⟨andC cd (sizesT sub st.next outs), v, ks, ks, outs, r.2⟩ else none
   | _ => none)
 else none
def stepD (c : Ctx) (st : St) (quiet : Bool) (d : Deed) : Option (Deed × Option Bool × (Option SV × Heap × Nat)) :=
 bif calm c st d then (match (perform c st quiet d).one with | some (cd, r) => some (settle c st d, cd, r) | none => none)
 else bif quiet then none else (match d with
   | .call f args => (match makeRes c st f args with
     | some a => some (.act f args a.rs a.ks a.outs a.hi, a.cd, (some a.v, putsA st.heap a.outs, a.hi))
     | none => (match actRes c st f args with
       | some a => some (.act f args a.rs a.ks a.outs a.hi, a.cd, (some a.v, putsA st.heap a.outs, a.hi))
       | none => none))
   | .join b k m z => (match joinRes c st b k m z with
     | some a => some (.act 0 [] a.rs a.ks a.outs a.hi, a.cd, (some a.v, putsA st.heap a.outs, a.hi))
     | none => none)
   | _ => none)
def stepItem (c : Ctx) (n : Nat) (ops : List Oper) (st : St) (o : Oper) : Option (Item × St) :=
 match guarded st.slots ops o with
 | none => none
 | some none => (match putSlot st.slots n o.dst [] none with | some s => some (⟨o, none, st.next, none⟩, { st with slots := s }) | none => none)
 | some (some p) => match plan c st.slots p o with
   | none => none
   | some d => match stepD c st (!(isNilP p)) d with
     | some (sd, cd, r) => (match putSlot st.slots n o.dst p r.1 with
       | some s => some (⟨o, some (p, sd, r.1), st.next, cd⟩, { slots := s, heap := r.2.1, next := r.2.2 })
       | none => none)
     | none => none
def trace (c : Ctx) (n : Nat) (ops : List Oper) : List Oper → St → Option (List Item × St)
 | [], st => some ([], st)
 | o :: rest, st => match stepItem c n ops st o with
   | none => none
   | some r => match trace c n ops rest r.2 with
     | none => none
     | some q => some (r.1 :: q.1, q.2)
def maskOf (tab : List Nat) : List Edge → Nat
 | [] => 0
 | e :: r => bif Region.binds .any e then Nat.lor (Nat.lor (Nat.pow 2 e.on) (tab.getD e.on 0)) (maskOf tab r) else maskOf tab r
def masks : List Oper → List Nat → List Nat
 | [], tab => tab
 | o :: r, tab => masks r (tab ++ [maskOf tab o.after.toList])
def edgesBack : List Oper → Nat → Bool
 | [], _ => true
 | o :: r, i => (o.after.toList.all fun e => !(Region.binds .any e) || Nat.blt e.on i) && edgesBack r (Nat.add i 1)
def Operand.tmp? : Operand → Option Nat
 | .tmp t => some t
 | _ => none
def namesOf (ops : List Oper) (o : Oper) : List Nat :=
 (o.op.operands.toList.filterMap Operand.tmp?) ++ (match o.guard with | none => [] | some (j, _) => match (ops[j]?).bind (·.dst) with | some d => [d] | none => [])
def isDst (d : Option Nat) (t : Nat) : Bool := match d with | some x => Nat.beq x t | none => false
def pathOf (it : Item) : Path := match it.act with | some (p, _, _) => p | none => []
def Off.far : Off → Nat → Off → Nat → Bool
 | .at o, n, .at o', n' => Nat.ble (Nat.add o n) o' || Nat.ble (Nat.add o' n') o
 | .row (.tok j) z o, n, .row (.tok j') z' o', n' => (Nat.beq j j' && Nat.beq z z') && (Nat.ble (Nat.add o n) o' || Nat.ble (Nat.add o' n') o)
 | _, _, _, _ => false
def far (k : Nat) (o : Off) (n k' : Nat) (o' : Off) (n' : Nat) : Bool := !(Nat.beq k k') || o.far n o' n'
def clash : Deed → Deed → Bool
 | .store k o y, .store k' o' y' => !(far k o y.size k' o' y'.size)
 | .store k o y, .load k' o' n _ => !(far k o y.size k' o' n)
 | .load k o n _, .store k' o' y => !(far k o n k' o' y.size)
 | .store k _ _, .read _ _ ks => hasN ks k
 | .read _ _ ks, .store k _ _ => hasN ks k
 | .act _ _ rs ks _ _, .store k _ _ => hasN rs k || hasN ks k
 | .store k _ _, .act _ _ rs ks _ _ => hasN rs k || hasN ks k
 | .act _ _ _ ks _ _, .load k _ _ _ => hasN ks k
 | .load k _ _ _, .act _ _ _ ks _ _ => hasN ks k
 | .act _ _ _ ks _ _, .read _ _ ks' => ks'.any (hasN ks)
 | .read _ _ ks', .act _ _ _ ks _ _ => ks'.any (hasN ks)
 | .act _ _ _ _ _ _, .act _ _ _ _ _ _ => true
 | _, _ => false
def optKall (f : Nat → Bool) : Option SV → Bool
 | some x => x.kall f
 | none => true
def Deed.kall (f : Nat → Bool) : Deed → Bool
 | .yield x => x.kall f
 | .test _ x => x.kall f
 | .load k _ _ _ => f k
 | .store k _ y => f k && y.kall f
 | .new y => y.kall f
 | .newSlice y _ => y.kall f
 | .emp => true
 | .copy _ k _ _ => f k
 | .join b k _ _ => f k && (match b with | some (q, _) => f q | none => true)
 | .newMap _ => true
 | .newRow _ _ _ => true
 | .ask k _ _ => f k
 | .amend k _ _ => f k
 | .insert k _ _ y => f k && y.kall f
 | .look k _ q => f k && q.kall f
 | .call _ args => SV.kalls f args
 | .act _ args rs ks outs _ => rs.all f && (ks.all f && (SV.kalls f args && outs.all fun e => e.2.kall f))
 | .read _ args ks => ks.all f && SV.kalls f args
def Item.span (it : Item) : Option (Nat × Nat) := match it.act with
 | some (_, .new _, _) => some (it.key, Nat.add it.key 1)
 | some (_, .newSlice _ _, _) => some (it.key, Nat.add it.key 1)
 | some (_, .act _ _ _ _ _ hi, _) => some (it.key, hi)
 | _ => none
def inR (a b k : Nat) : Bool := Nat.ble a k && Nat.blt k b
def Item.makes (it : Item) (k : Nat) : Bool := match it.span with | some (a, b) => inR a b k | none => false
def Item.keysNot (it : Item) (k : Nat) : Bool := match it.act with
 | some (_, e, r) => e.kall (fun j => !(Nat.beq j k)) && optKall (fun j => !(Nat.beq j k)) r
 | none => true
def Item.keysOut (it : Item) (a b : Nat) : Bool := match it.act with
 | some (_, e, r) => e.kall (fun j => !(inR a b j)) && optKall (fun j => !(inR a b j)) r
 | none => true
def Item.shuns (it : Item) (other : Item) : Bool := match other.span with | some (a, b) => it.keysOut a b | none => true
def loose (ops : List Oper) (x y : Item) : Bool :=
 ((namesOf ops y.o).all fun t => !(isDst x.o.dst t)) && (((namesOf ops x.o).all fun t => !(isDst y.o.dst t)) &&
 (((pathOf y).all fun a => !(isDst x.o.dst a.1)) &&
 ((match x.act, y.act with | some (_, d, _), some (_, e, _) => !(clash d e) | _, _ => true) && y.shuns x)))
def sameDst (x y : Oper) : Bool := match x.dst with | some d => isDst y.dst d | none => false
def sameKey (x y : Item) : Bool := match x.span, y.span with | some (a, b), some (c, d) => !(Nat.ble b c || Nat.ble d a) | _, _ => false
def ahead (x y : Item) : Bool := !(sameDst x.o y.o) && (!(sameKey x y) && (x.shuns y && ((pathOf x).all fun a => !(isDst y.o.dst a.1))))
def pairs (ops : List Oper) (x : Item) (i : Nat) : List Item → List Nat → Bool
 | [], _ => true
 | y :: r, ms => match ms with
   | [] => false
   | m :: ms => ahead x y && ((Nat.testBit m i || loose ops x y) && pairs ops x i r ms)
def allPairs (ops : List Oper) (nx : Nat) : List Item → List Nat → Nat → Bool
 | [], _, _ => true
 | x :: r, ms, i => match ms with
   | [] => false
   | _ :: ms => (match x.span with | some (a, _) => Nat.ble nx a | none => true) && (pairs ops x i r ms && allPairs ops nx r ms (Nat.add i 1))
def cnds : List Item → Option Bool
 | [] => none
 | it :: r => match it.cnd with
   | none => cnds r
   | some b => (match cnds r with | none => some b | some q => some (b && q))
theorem cnds_ok : ∀ {l : List Item}, okC (cnds l) = true → ∀ it ∈ l, okC it.cnd = true
 | [], _, it, h => by cases h
 | x :: r, hk, it, h => by
   unfold cnds at hk
   split at hk
   · rename_i hx
     rcases List.mem_cons.1 h with he | he
     · subst he; rw [hx]; rfl
     · exact cnds_ok hk it he
   · rename_i b hx
     split at hk
     · rename_i hr
       rcases List.mem_cons.1 h with he | he
       · subst he; rw [hx]; exact hk
       · exact cnds_ok (by rw [hr]; rfl) it he
     · rename_i q hr
       simp only [okC, Bool.and_eq_true] at hk
       rcases List.mem_cons.1 h with he | he
       · subst he; rw [hx]; exact hk.1
       · exact cnds_ok (by rw [hr]; exact hk.2) it he
def lowBits (m : Nat) : Nat → Bool
 | 0 => true
 | i + 1 => Nat.testBit m i && lowBits m i
def lastBits (ms : List Nat) (k : Nat) : Bool := match ms.getLast? with | some m => lowBits m k | none => false
def drawLast (c : Ctx) (n : Nat) (ops : List Oper) (st : St) : Out St :=
 match ops.getLast? with
 | none => .bad
 | some o => match trace c n ops ops.dropLast st with
   | none => .bad
   | some (items, st') =>
     bif edgesBack ops 0 && (guardedSlots st.slots).isEmpty && allPairs ops st.next items (masks ops []) 0 && st.bnd && (o.guard.isNone && lastBits (masks ops []) ops.dropLast.length) then
       (match plan c st'.slots [] o with
       | none => .bad
       | some d => (Out.when (cnds items) ()).bind fun _ => (perform c st' false d).bind fun r => match putSlot st'.slots n o.dst [] r.1 with
         | some s => .ret { slots := s, heap := r.2.1, next := r.2.2 }
         | none => .bad)
     else .bad
def drawAny (c : Ctx) (n : Nat) (ops : List Oper) (st : St) : Out St :=
 match trace c n ops ops st with
 | none => drawLast c n ops st
 | some (items, st') =>
   bif edgesBack ops 0 && (guardedSlots st.slots).isEmpty && allPairs ops st.next items (masks ops []) 0 && st.bnd then .when (cnds items) st' else .bad
def callsLast (ops : List Oper) : Bool := match ops.getLast? with
 | some o => (match o.op with | .call _ => true | _ => false)
 | none => false
def drawRegion (c : Ctx) (n : Nat) (ops : List Oper) (st : St) : Out St :=
 bif callsLast ops then (match drawLast c n ops st with | .bad => drawAny c n ops st | o => o) else drawAny c n ops st
def setSlot : Slots → Nat → SV → Slots
 | [], _, _ => []
 | (k, p, x) :: r, t, y => bif Nat.beq k t then (k, p, y) :: r else (k, p, x) :: setSlot r t y
def St.learn (st : St) (x : Operand) (b : Bool) : St := match x with
 | .tmp t => { st with slots := setSlot st.slots t (.kb b) }
 | _ => st
def loopN (f : St → Out (Ex × St)) : Nat → St → Out (Ex × St)
 | 0, _ => .bad
 | k + 1, st => (f st).bind fun r => match r.1 with | .nrm => loopN f k r.2 | x => .ret (x, r.2)
noncomputable def firstId (code : Code) : Nat :=
 Code.rec (motive := fun _ => Nat) 0 (fun id _ _ => id) (fun _ _ a _ => a) (fun _ _ _ a _ => a) (fun _ _ a => a) (fun _ a => a) (fun _ _ _ _ _ _ => 0) (fun _ => 0) (fun _ a => a) (fun _ => 0) (fun _ => 0) 0 (fun _ => 0) code
noncomputable def exec (c : Ctx) (n fuel : Nat) (code : Code) : St → Out (Ex × St) :=
 Code.rec (motive := fun _ => St → Out (Ex × St))
   (fun st => .ret (.nrm, st))
   (fun _ ops dr st => (match dr with | false => region c n ops.toList ops.toList st | true => drawRegion c n ops.toList st).bind fun st => .ret (.nrm, { st with slots := dropGuarded st.slots }))
   (fun _ _ ea eb st => (ea st).bind fun r => match r.1 with | .nrm => eb r.2 | x => .ret (x, r.2))
   (fun x _ _ et ee st => match ev st.slots [] x with
     | some (.kb true) => et st
     | some (.kb false) => ee st
     | some (.v (.bool b)) => .ite b (et (st.learn x true)) (ee (st.learn x false))
     | _ => .bad)
   (fun id _ eb st => (eb st).bind fun r => match r.1 with | .exit i => (bif Nat.beq i id then .ret (.nrm, r.2) else .ret r) | _ => .ret r)
   (fun b eb st => match c.loop (firstId b) st with | some o => o | none => loopN eb fuel st)
   (fun _ _ _ _ _ _ _ => .bad)
   (fun id st => .ret (.exit id, st))
   (fun _ eb st => (eb st).bind fun r => match r.1 with | .goto _ => .bad | _ => .ret r)
   (fun _ st => .ret (.nrm, st))
   (fun l st => .ret (.goto l, st))
   (fun st => .ret (.ret, st))
   (fun _ _ => .bad)
   code
noncomputable def execL (c : Ctx) (n fuel : Nat) : Code → Nat → Option (St → Out (Ex × St))
 | .seq a b, l => match execL c n fuel a l with
   | some f => some fun st => (f st).bind fun r => match r.1 with | .nrm => exec c n fuel b r.2 | z => .ret (z, r.2)
   | none => execL c n fuel b l
 | .label l', l => bif Nat.beq l' l then some fun st => .ret (.nrm, st) else none
 | _, _ => none
def hops (g : Nat → Option (St → Out (Ex × St))) : Nat → (St → Out (Ex × St)) → St → Out (Ex × St)
 | 0, _, _ => .bad
 | k + 1, f, st => (f st).bind fun r => match r.1 with
   | .goto l => (match g l with | some f' => hops g k f' r.2 | none => .bad)
   | x => .ret (x, r.2)
noncomputable def execG (c : Ctx) (n fuel : Nat) : Code → St → Out (Ex × St)
 | .seq a b, st => (exec c n fuel a st).bind fun r => match r.1 with | .nrm => execG c n fuel b r.2 | z => .ret (z, r.2)
 | .scope b, st => hops (execL c n fuel b) fuel (exec c n fuel b) st
 | x, st => exec c n fuel x st
def argSlots : List SV → Nat → Slots
 | [], _ => []
 | x :: r, k => (k, [], x) :: argSlots r (Nat.add k 1)
def resOne (c : Ctx) (st : St) : ResultVar → Option SV
 | .tmp t => ev st.slots [] (.tmp t)
 | .cell p ty => match ev st.slots [] (.tmp p) with
   | some (.ptr k o) => (match c.tys ty with
     | some d => (match st.heap.get k with | some x => bif Nat.blt 0 d.size then (match x.part o d.size d.sh.agg with | some y => bif y.one then some y else none | none => none) else none | none => none)
     | none => none)
   | _ => none
def resMany (c : Ctx) (st : St) : List ResultVar → Option (List SV)
 | [] => some []
 | x :: r => match resOne c st x with
   | some y => (match resMany c st r with | some ys => some (y :: ys) | none => none)
   | none => none
def resOf (c : Ctx) (st : St) (rs : List ResultVar) : Option SV :=
 match rs with
 | [x] => resOne c st x
 | l => match resMany c st l with | some ys => some (.tup ys) | none => none
noncomputable def inline (c : Ctx) (fuel : Nat) (fn : Func) (args : List SV) (H : Heap) (nx : Nat) : Out (SV × Heap × Nat) :=
 match fn.body with
 | none => .bad
 | some code => bif Nat.ble args.length fn.ntmps then
     (execG c fn.ntmps fuel code ⟨argSlots args 0, H, nx⟩).bind fun r => match r.1 with
       | .nrm | .ret => (match resOf c r.2 fn.results.toList with | some v => .ret (v, r.2.heap, r.2.next) | none => .bad)
       | _ => .bad
   else .bad
end Go.Proofs.YtjemfkoamfnofaaGreat
