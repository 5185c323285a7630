import Derived.Test.YtjemfkoamfnofaaGreatProg
import Derived.KernelRfl
import Derived.Laws.Sem
set_option linter.unusedVariables false
namespace Go.Proofs.YtjemfkoamfnofaaGreat
open Go
structure Vec where
 root : Int
 cost : Int
 bridge : Int
 port : Int
 rx : Int
 deriving DecidableEq
structure Times where
 age : Int
 max : Int
 hello : Int
 delay : Int
 deriving DecidableEq
structure Clocks where
 edgeDelay : Int
 fd : Int
 hello : Int
 mdelay : Int
 rb : Int
 rcvdInfo : Int
 rr : Int
 tc : Int
 txCount : Int
 deriving DecidableEq
structure States where
 rx : Int
 mig : Int
 edge : Int
 info : Int
 trans : Int
 pass : Int
 topo : Int
 deriving DecidableEq
structure Flags where
 agree : Bool
 agreed : Bool
 disputed : Bool
 flush : Bool
 forward : Bool
 forwarding : Bool
 learn : Bool
 learning : Bool
 mcheck : Bool
 newInfo : Bool
 operEdge : Bool
 proposed : Bool
 proposing : Bool
 rcvdBpdu : Bool
 rcvdMsg : Bool
 rcvdRst : Bool
 rcvdStp : Bool
 rcvdTc : Bool
 rcvdTcAck : Bool
 rcvdTcn : Bool
 reRoot : Bool
 reselect : Bool
 selected : Bool
 sendRst : Bool
 sync : Bool
 synced : Bool
 tcAck : Bool
 tcProp : Bool
 updtInfo : Bool
 deriving DecidableEq
structure Msg where
 kind : Int
 change : Bool
 ack : Bool
 proposal : Bool
 agreement : Bool
 learning : Bool
 forwarding : Bool
 role : Int
 vec : Vec
 times : Times
 deriving DecidableEq
structure Port where
 id : Int
 cost : Int
 enabled : Bool
 shared : Bool
 admin : Bool
 auto : Bool
 clocks : Clocks
 states : States
 flags : Flags
 msg : Msg
 vec : Vec
 designated : Vec
 times : Times
 desTimes : Times
 is_ : Int
 role : Int
 selected : Int
 deriving DecidableEq
structure Sent where
 port : Int
 msg : Msg
 deriving DecidableEq
structure Conf where
 id : Int
 cost : Int
 shared : Bool
 admin : Bool
 auto : Bool
 deriving DecidableEq
structure Todo where
 kind : Int
 port : Int
 on : Bool
 msg : Msg
 deriving DecidableEq
inductive Rec where
 | vec (x : Vec)
 | times (x : Times)
 | clocks (x : Clocks)
 | states (x : States)
 | flags (x : Flags)
 | msg (x : Msg)
 | port (x : Port)
 | sent (x : Sent)
 | conf (x : Conf)
 | todo (x : Todo)
inductive RV where
 | val (x : Value)
 | rcd (r : Rec)
def Vec.cells (x : Vec) : List Value := [.int .u64 x.root, .int .u32 x.cost, .int .u64 x.bridge, .int .u16 x.port, .int .u16 x.rx]
def Vec.subs (x : Vec) : List (Nat × Nat × Rec) := []
def Times.cells (x : Times) : List Value := [.int .i64 x.age, .int .i64 x.max, .int .i64 x.hello, .int .i64 x.delay]
def Times.subs (x : Times) : List (Nat × Nat × Rec) := []
def Clocks.cells (x : Clocks) : List Value := [.int .i64 x.edgeDelay, .int .i64 x.fd, .int .i64 x.hello, .int .i64 x.mdelay, .int .i64 x.rb, .int .i64 x.rcvdInfo, .int .i64 x.rr, .int .i64 x.tc, .int .i64 x.txCount]
def Clocks.subs (x : Clocks) : List (Nat × Nat × Rec) := []
def States.cells (x : States) : List Value := [.int .i64 x.rx, .int .i64 x.mig, .int .i64 x.edge, .int .i64 x.info, .int .i64 x.trans, .int .i64 x.pass, .int .i64 x.topo]
def States.subs (x : States) : List (Nat × Nat × Rec) := []
def Flags.cells (x : Flags) : List Value := [.bool x.agree, .bool x.agreed, .bool x.disputed, .bool x.flush, .bool x.forward, .bool x.forwarding, .bool x.learn, .bool x.learning, .bool x.mcheck, .bool x.newInfo, .bool x.operEdge, .bool x.proposed, .bool x.proposing, .bool x.rcvdBpdu, .bool x.rcvdMsg, .bool x.rcvdRst, .bool x.rcvdStp, .bool x.rcvdTc, .bool x.rcvdTcAck, .bool x.rcvdTcn, .bool x.reRoot, .bool x.reselect, .bool x.selected, .bool x.sendRst, .bool x.sync, .bool x.synced, .bool x.tcAck, .bool x.tcProp, .bool x.updtInfo]
def Flags.subs (x : Flags) : List (Nat × Nat × Rec) := []
def Msg.cells (x : Msg) : List Value := [.int .i64 x.kind, .bool x.change, .bool x.ack, .bool x.proposal, .bool x.agreement, .bool x.learning, .bool x.forwarding, .int .i64 x.role, .int .u64 x.vec.root, .int .u32 x.vec.cost, .int .u64 x.vec.bridge, .int .u16 x.vec.port, .int .u16 x.vec.rx, .int .i64 x.times.age, .int .i64 x.times.max, .int .i64 x.times.hello, .int .i64 x.times.delay]
def Msg.subs (x : Msg) : List (Nat × Nat × Rec) := [(8, 5, .vec x.vec), (13, 4, .times x.times)]
def Port.cells (x : Port) : List Value := [.int .u16 x.id, .int .u32 x.cost, .bool x.enabled, .bool x.shared, .bool x.admin, .bool x.auto, .int .i64 x.clocks.edgeDelay, .int .i64 x.clocks.fd, .int .i64 x.clocks.hello, .int .i64 x.clocks.mdelay, .int .i64 x.clocks.rb, .int .i64 x.clocks.rcvdInfo, .int .i64 x.clocks.rr, .int .i64 x.clocks.tc, .int .i64 x.clocks.txCount, .int .i64 x.states.rx, .int .i64 x.states.mig, .int .i64 x.states.edge, .int .i64 x.states.info, .int .i64 x.states.trans, .int .i64 x.states.pass, .int .i64 x.states.topo, .bool x.flags.agree, .bool x.flags.agreed, .bool x.flags.disputed, .bool x.flags.flush, .bool x.flags.forward, .bool x.flags.forwarding, .bool x.flags.learn, .bool x.flags.learning, .bool x.flags.mcheck, .bool x.flags.newInfo, .bool x.flags.operEdge, .bool x.flags.proposed, .bool x.flags.proposing, .bool x.flags.rcvdBpdu, .bool x.flags.rcvdMsg, .bool x.flags.rcvdRst, .bool x.flags.rcvdStp, .bool x.flags.rcvdTc, .bool x.flags.rcvdTcAck, .bool x.flags.rcvdTcn, .bool x.flags.reRoot, .bool x.flags.reselect, .bool x.flags.selected, .bool x.flags.sendRst, .bool x.flags.sync, .bool x.flags.synced, .bool x.flags.tcAck, .bool x.flags.tcProp, .bool x.flags.updtInfo, .int .i64 x.msg.kind, .bool x.msg.change, .bool x.msg.ack, .bool x.msg.proposal, .bool x.msg.agreement, .bool x.msg.learning, .bool x.msg.forwarding, .int .i64 x.msg.role, .int .u64 x.msg.vec.root, .int .u32 x.msg.vec.cost, .int .u64 x.msg.vec.bridge, .int .u16 x.msg.vec.port, .int .u16 x.msg.vec.rx, .int .i64 x.msg.times.age, .int .i64 x.msg.times.max, .int .i64 x.msg.times.hello, .int .i64 x.msg.times.delay, .int .u64 x.vec.root, .int .u32 x.vec.cost, .int .u64 x.vec.bridge, .int .u16 x.vec.port, .int .u16 x.vec.rx, .int .u64 x.designated.root, .int .u32 x.designated.cost, .int .u64 x.designated.bridge, .int .u16 x.designated.port, .int .u16 x.designated.rx, .int .i64 x.times.age, .int .i64 x.times.max, .int .i64 x.times.hello, .int .i64 x.times.delay, .int .i64 x.desTimes.age, .int .i64 x.desTimes.max, .int .i64 x.desTimes.hello, .int .i64 x.desTimes.delay, .int .i64 x.is_, .int .i64 x.role, .int .i64 x.selected]
def Port.subs (x : Port) : List (Nat × Nat × Rec) := [(6, 9, .clocks x.clocks), (15, 7, .states x.states), (22, 29, .flags x.flags), (51, 17, .msg x.msg), (59, 5, .vec x.msg.vec), (64, 4, .times x.msg.times), (68, 5, .vec x.vec), (73, 5, .vec x.designated), (78, 4, .times x.times), (82, 4, .times x.desTimes)]
def Sent.cells (x : Sent) : List Value := [.int .i64 x.port, .int .i64 x.msg.kind, .bool x.msg.change, .bool x.msg.ack, .bool x.msg.proposal, .bool x.msg.agreement, .bool x.msg.learning, .bool x.msg.forwarding, .int .i64 x.msg.role, .int .u64 x.msg.vec.root, .int .u32 x.msg.vec.cost, .int .u64 x.msg.vec.bridge, .int .u16 x.msg.vec.port, .int .u16 x.msg.vec.rx, .int .i64 x.msg.times.age, .int .i64 x.msg.times.max, .int .i64 x.msg.times.hello, .int .i64 x.msg.times.delay]
def Sent.subs (x : Sent) : List (Nat × Nat × Rec) := [(1, 17, .msg x.msg), (9, 5, .vec x.msg.vec), (14, 4, .times x.msg.times)]
def Conf.cells (x : Conf) : List Value := [.int .u16 x.id, .int .u32 x.cost, .bool x.shared, .bool x.admin, .bool x.auto]
def Conf.subs (x : Conf) : List (Nat × Nat × Rec) := []
def Todo.cells (x : Todo) : List Value := [.int .u8 x.kind, .int .u8 x.port, .bool x.on, .int .i64 x.msg.kind, .bool x.msg.change, .bool x.msg.ack, .bool x.msg.proposal, .bool x.msg.agreement, .bool x.msg.learning, .bool x.msg.forwarding, .int .i64 x.msg.role, .int .u64 x.msg.vec.root, .int .u32 x.msg.vec.cost, .int .u64 x.msg.vec.bridge, .int .u16 x.msg.vec.port, .int .u16 x.msg.vec.rx, .int .i64 x.msg.times.age, .int .i64 x.msg.times.max, .int .i64 x.msg.times.hello, .int .i64 x.msg.times.delay]
def Todo.subs (x : Todo) : List (Nat × Nat × Rec) := [(3, 17, .msg x.msg), (11, 5, .vec x.msg.vec), (16, 4, .times x.msg.times)]
def Rec.cells : Rec → List Value
 | .vec x => x.cells
 | .times x => x.cells
 | .clocks x => x.cells
 | .states x => x.cells
 | .flags x => x.cells
 | .msg x => x.cells
 | .port x => x.cells
 | .sent x => x.cells
 | .conf x => x.cells
 | .todo x => x.cells
def Rec.subs : Rec → List (Nat × Nat × Rec)
 | .vec x => x.subs
 | .times x => x.subs
 | .clocks x => x.subs
 | .states x => x.subs
 | .flags x => x.subs
 | .msg x => x.subs
 | .port x => x.subs
 | .sent x => x.subs
 | .conf x => x.subs
 | .todo x => x.subs
def Rec.size : Rec → Nat
 | .vec _ => 5
 | .times _ => 4
 | .clocks _ => 9
 | .states _ => 7
 | .flags _ => 29
 | .msg _ => 17
 | .port _ => 89
 | .sent _ => 18
 | .conf _ => 5
 | .todo _ => 20
theorem Rec.len (r : Rec) : r.cells.length = r.size := by cases r <;> rfl
def plainV : Value → Bool
 | .int _ _ | .bool _ => true
 | _ => false
theorem Rec.plain (r : Rec) : ∀ v ∈ r.cells, plainV v = true := by
 intro v hv
 have h : r.cells.all plainV = true := by cases r <;> rfl
 exact List.all_eq_true.1 h v hv
theorem plainV.one {v : Value} (h : plainV v = true) : v.oneCell' = true := by cases v <;> simp_all [plainV, Value.oneCell']
def RV.cells : RV → List Value
 | .val x => [x]
 | .rcd r => r.cells
def nthV : List Value → Nat → Option Value
 | [], _ => none
 | x :: r, n => match n with | 0 => some x | n + 1 => nthV r n
theorem nthV_eq : ∀ (l : List Value) (n : Nat), nthV l n = l[n]?
 | [], _ => by simp [nthV]
 | x :: r, 0 => by simp [nthV]
 | x :: r, n + 1 => by simp [nthV, nthV_eq r n]
def subOf : List (Nat × Nat × Rec) → Nat → Nat → Option Rec
 | [], _, _ => none
 | (a, b, r) :: l, o, n => bif Nat.beq a o && Nat.beq b n then some r else subOf l o n
theorem subOf_mem : ∀ (l : List (Nat × Nat × Rec)) (o n : Nat) (r : Rec), subOf l o n = some r → (o, n, r) ∈ l
 | [], _, _, _, h => by simp [subOf] at h
 | (a, b, q) :: l, o, n, r, h => by
   unfold subOf at h
   cases hb : (Nat.beq a o && Nat.beq b n) with
   | true =>
     rw [hb] at h
     simp only [cond_true, Option.some.injEq] at h
     simp only [Bool.and_eq_true, Nat.beq_eq] at hb
     simp [hb.1, hb.2, h]
   | false =>
     rw [hb] at h
     exact List.mem_cons_of_mem _ (subOf_mem l o n r h)
def Rec.get (r : Rec) (o n : Nat) : Option RV :=
 bif Nat.beq n 1 then (match nthV r.cells o with | some v => some (.val v) | none => none) else (match subOf r.subs o n with | some q => some (.rcd q) | none => none)
theorem subs_ok (r : Rec) : ∀ p ∈ r.subs, p.2.2.cells = (r.cells.drop p.1).take p.2.1 ∧ p.2.2.size = p.2.1 ∧ p.1 + p.2.1 ≤ r.size := by
 cases r <;> intro p hp <;> simp only [Rec.subs, Vec.subs, Times.subs, Clocks.subs, States.subs, Flags.subs, Msg.subs, Port.subs, Sent.subs, Conf.subs, Todo.subs, List.mem_cons, List.not_mem_nil, or_false] at hp
 <;> (try rcases hp with hp | hp | hp | hp | hp | hp | hp | hp | hp | hp)
 <;> (try exact hp.elim) <;> (try subst hp) <;> (try exact ⟨rfl, rfl, Nat.le_of_ble_eq_true rfl⟩)
theorem Rec.get_ok {r : Rec} {o n : Nat} {v : RV} (h : r.get o n = some v) :
   v.cells = (r.cells.drop o).take n ∧ v.cells.length = n ∧ o + n ≤ r.size := by
 unfold Rec.get at h
 cases hn : Nat.beq n 1 with
 | true =>
   obtain rfl := Nat.eq_of_beq_eq_true hn
   rw [hn] at h
   simp only [cond_true, nthV_eq] at h
   split at h
   · rename_i x hx
     injection h with h
     subst h
     obtain ⟨hlt, he⟩ := List.getElem?_eq_some_iff.1 hx
     refine ⟨?_, rfl, ?_⟩
     · rw [List.drop_eq_getElem_cons hlt]; simp [RV.cells, he]
     · rw [← Rec.len]; omega
   · cases h
 | false =>
   rw [hn] at h
   simp only [cond_false] at h
   split at h
   · rename_i q hq
     injection h with h
     subst h
     obtain ⟨h1, h2, h3⟩ := subs_ok r _ (subOf_mem _ _ _ _ hq)
     exact ⟨h1, q.len.trans h2, h3⟩
   · cases h
def splice (l : List Value) (o : Nat) (v : List Value) : List Value := l.take o ++ (v ++ l.drop (o + v.length))
theorem splice_len {l : List Value} {o : Nat} {v : List Value} (h : o + v.length ≤ l.length) : (splice l o v).length = l.length := by
 simp [splice]; omega
theorem splice_in (a c b v : List Value) (o : Nat) (h : o + v.length ≤ c.length) :
   splice (a ++ (c ++ b)) (a.length + o) v = a ++ (splice c o v ++ b) := by
 unfold splice
 have h1 : (a ++ (c ++ b)).take (a.length + o) = a ++ c.take o := by
   rw [List.take_append, List.take_of_length_le (by omega), Nat.add_sub_cancel_left, List.take_append_of_le_length (by omega)]
 have h2 : (a ++ (c ++ b)).drop (a.length + o + v.length) = c.drop (o + v.length) ++ b := by
   rw [Nat.add_assoc, List.drop_append, List.drop_of_length_le (by omega), Nat.add_sub_cancel_left, List.drop_append_of_le_length (by omega)]; rfl
 rw [h1, h2]; simp
theorem splice_all (a c b v : List Value) (h : v.length = c.length) : splice (a ++ (c ++ b)) a.length v = a ++ (v ++ b) := by
 have := splice_in a c b v 0 (by omega)
 rw [Nat.add_zero] at this
 rw [this]
 unfold splice
 simp [h]
theorem bifS {α : Type} {o k : Nat} {a b : Option α} {y : α} (h : (bif Nat.beq o k then a else b) = some y) : (o = k ∧ a = some y) ∨ b = some y := by
 cases hb : Nat.beq o k with
 | true => rw [hb] at h; exact .inl ⟨Nat.eq_of_beq_eq_true hb, h⟩
 | false => rw [hb] at h; exact .inr h
def SetOk (size o : Nat) (v : RV) (old new : List Value) : Prop := new = splice old o v.cells ∧ o + v.cells.length ≤ size
theorem SetOk.inner {sz o o' : Nat} {v : RV} {old new a c c' b : List Value} {n : Nat} (h : SetOk n o' v c c') (ho : o = a.length + o') (hc : c.length = n) (hold : old = a ++ (c ++ b)) (hnew : new = a ++ (c' ++ b)) (hs : sz = old.length) : SetOk sz o v old new := by
 obtain ⟨h1, h2⟩ := h
 subst hold hnew ho hs
 exact ⟨by rw [splice_in _ _ _ _ _ (by omega), ← h1], by simp; omega⟩
theorem SetOk.whole {sz o : Nat} {v : RV} {old new a c b : List Value} (ho : o = a.length) (hc : v.cells.length = c.length) (hold : old = a ++ (c ++ b)) (hnew : new = a ++ (v.cells ++ b)) (hs : sz = old.length) : SetOk sz o v old new := by
 subst hold hnew ho hs
 exact ⟨by rw [splice_all _ _ _ _ hc], by simp; omega⟩
def Vec.set1 (x : Vec) (o : Nat) (v : Value) : Option Vec :=
 match v with
 | .int .u16 b => bif Nat.beq o 3 then some { x with port := b } else bif Nat.beq o 4 then some { x with rx := b } else none
 | .int .u32 b => bif Nat.beq o 1 then some { x with cost := b } else none
 | .int .u64 b => bif Nat.beq o 0 then some { x with root := b } else bif Nat.beq o 2 then some { x with bridge := b } else none
 | _ => none
theorem Vec.set1_ok {x y : Vec} {o : Nat} {v : Value} (h : x.set1 o v = some y) : SetOk 5 o (.val v) x.cells y.cells := by
 unfold Vec.set1 at h
 split at h
 all_goals (repeat (rcases bifS h with ⟨rfl, h⟩ | h; (injection h with h; subst h; exact ⟨rfl, by simp [RV.cells]⟩)))
 all_goals cases h
def Vec.set (x : Vec) (o : Nat) (v : RV) : Option Vec :=
 match v with | .val v => x.set1 o v | .rcd _ => none
theorem Vec.set_ok {x y : Vec} {o : Nat} {v : RV} (h : x.set o v = some y) : SetOk 5 o v x.cells y.cells := by
 unfold Vec.set at h
 split at h
 · exact Vec.set1_ok h
 · cases h
def Times.set1 (x : Times) (o : Nat) (v : Value) : Option Times :=
 match v with
 | .int .i64 b => bif Nat.beq o 0 then some { x with age := b } else bif Nat.beq o 1 then some { x with max := b } else bif Nat.beq o 2 then some { x with hello := b } else bif Nat.beq o 3 then some { x with delay := b } else none
 | _ => none
theorem Times.set1_ok {x y : Times} {o : Nat} {v : Value} (h : x.set1 o v = some y) : SetOk 4 o (.val v) x.cells y.cells := by
 unfold Times.set1 at h
 split at h
 all_goals (repeat (rcases bifS h with ⟨rfl, h⟩ | h; (injection h with h; subst h; exact ⟨rfl, by simp [RV.cells]⟩)))
 all_goals cases h
def Times.set (x : Times) (o : Nat) (v : RV) : Option Times :=
 match v with | .val v => x.set1 o v | .rcd _ => none
theorem Times.set_ok {x y : Times} {o : Nat} {v : RV} (h : x.set o v = some y) : SetOk 4 o v x.cells y.cells := by
 unfold Times.set at h
 split at h
 · exact Times.set1_ok h
 · cases h
def Clocks.set1 (x : Clocks) (o : Nat) (v : Value) : Option Clocks :=
 match v with
 | .int .i64 b => bif Nat.beq o 0 then some { x with edgeDelay := b } else bif Nat.beq o 1 then some { x with fd := b } else bif Nat.beq o 2 then some { x with hello := b } else bif Nat.beq o 3 then some { x with mdelay := b } else bif Nat.beq o 4 then some { x with rb := b } else bif Nat.beq o 5 then some { x with rcvdInfo := b } else bif Nat.beq o 6 then some { x with rr := b } else bif Nat.beq o 7 then some { x with tc := b } else bif Nat.beq o 8 then some { x with txCount := b } else none
 | _ => none
theorem Clocks.set1_ok {x y : Clocks} {o : Nat} {v : Value} (h : x.set1 o v = some y) : SetOk 9 o (.val v) x.cells y.cells := by
 unfold Clocks.set1 at h
 split at h
 all_goals (repeat (rcases bifS h with ⟨rfl, h⟩ | h; (injection h with h; subst h; exact ⟨rfl, by simp [RV.cells]⟩)))
 all_goals cases h
def Clocks.set (x : Clocks) (o : Nat) (v : RV) : Option Clocks :=
 match v with | .val v => x.set1 o v | .rcd _ => none
theorem Clocks.set_ok {x y : Clocks} {o : Nat} {v : RV} (h : x.set o v = some y) : SetOk 9 o v x.cells y.cells := by
 unfold Clocks.set at h
 split at h
 · exact Clocks.set1_ok h
 · cases h
def States.set1 (x : States) (o : Nat) (v : Value) : Option States :=
 match v with
 | .int .i64 b => bif Nat.beq o 0 then some { x with rx := b } else bif Nat.beq o 1 then some { x with mig := b } else bif Nat.beq o 2 then some { x with edge := b } else bif Nat.beq o 3 then some { x with info := b } else bif Nat.beq o 4 then some { x with trans := b } else bif Nat.beq o 5 then some { x with pass := b } else bif Nat.beq o 6 then some { x with topo := b } else none
 | _ => none
theorem States.set1_ok {x y : States} {o : Nat} {v : Value} (h : x.set1 o v = some y) : SetOk 7 o (.val v) x.cells y.cells := by
 unfold States.set1 at h
 split at h
 all_goals (repeat (rcases bifS h with ⟨rfl, h⟩ | h; (injection h with h; subst h; exact ⟨rfl, by simp [RV.cells]⟩)))
 all_goals cases h
def States.set (x : States) (o : Nat) (v : RV) : Option States :=
 match v with | .val v => x.set1 o v | .rcd _ => none
theorem States.set_ok {x y : States} {o : Nat} {v : RV} (h : x.set o v = some y) : SetOk 7 o v x.cells y.cells := by
 unfold States.set at h
 split at h
 · exact States.set1_ok h
 · cases h
def Flags.set1 (x : Flags) (o : Nat) (v : Value) : Option Flags :=
 match v with
 | .bool b => bif Nat.beq o 0 then some { x with agree := b } else bif Nat.beq o 1 then some { x with agreed := b } else bif Nat.beq o 2 then some { x with disputed := b } else bif Nat.beq o 3 then some { x with flush := b } else bif Nat.beq o 4 then some { x with forward := b } else bif Nat.beq o 5 then some { x with forwarding := b } else bif Nat.beq o 6 then some { x with learn := b } else bif Nat.beq o 7 then some { x with learning := b } else bif Nat.beq o 8 then some { x with mcheck := b } else bif Nat.beq o 9 then some { x with newInfo := b } else bif Nat.beq o 10 then some { x with operEdge := b } else bif Nat.beq o 11 then some { x with proposed := b } else bif Nat.beq o 12 then some { x with proposing := b } else bif Nat.beq o 13 then some { x with rcvdBpdu := b } else bif Nat.beq o 14 then some { x with rcvdMsg := b } else bif Nat.beq o 15 then some { x with rcvdRst := b } else bif Nat.beq o 16 then some { x with rcvdStp := b } else bif Nat.beq o 17 then some { x with rcvdTc := b } else bif Nat.beq o 18 then some { x with rcvdTcAck := b } else bif Nat.beq o 19 then some { x with rcvdTcn := b } else bif Nat.beq o 20 then some { x with reRoot := b } else bif Nat.beq o 21 then some { x with reselect := b } else bif Nat.beq o 22 then some { x with selected := b } else bif Nat.beq o 23 then some { x with sendRst := b } else bif Nat.beq o 24 then some { x with sync := b } else bif Nat.beq o 25 then some { x with synced := b } else bif Nat.beq o 26 then some { x with tcAck := b } else bif Nat.beq o 27 then some { x with tcProp := b } else bif Nat.beq o 28 then some { x with updtInfo := b } else none
 | _ => none
theorem Flags.set1_ok {x y : Flags} {o : Nat} {v : Value} (h : x.set1 o v = some y) : SetOk 29 o (.val v) x.cells y.cells := by
 unfold Flags.set1 at h
 split at h
 all_goals (repeat (rcases bifS h with ⟨rfl, h⟩ | h; (injection h with h; subst h; exact ⟨rfl, by simp [RV.cells]⟩)))
 all_goals cases h
def Flags.set (x : Flags) (o : Nat) (v : RV) : Option Flags :=
 match v with | .val v => x.set1 o v | .rcd _ => none
theorem Flags.set_ok {x y : Flags} {o : Nat} {v : RV} (h : x.set o v = some y) : SetOk 29 o v x.cells y.cells := by
 unfold Flags.set at h
 split at h
 · exact Flags.set1_ok h
 · cases h
def Msg.set1 (x : Msg) (o : Nat) (v : Value) : Option Msg :=
 match v with
 | .bool b => bif Nat.beq o 1 then some { x with change := b } else bif Nat.beq o 2 then some { x with ack := b } else bif Nat.beq o 3 then some { x with proposal := b } else bif Nat.beq o 4 then some { x with agreement := b } else bif Nat.beq o 5 then some { x with learning := b } else bif Nat.beq o 6 then some { x with forwarding := b } else none
 | .int .i64 b => bif Nat.beq o 0 then some { x with kind := b } else bif Nat.beq o 7 then some { x with role := b } else none
 | _ => none
theorem Msg.set1_ok {x y : Msg} {o : Nat} {v : Value} (h : x.set1 o v = some y) : SetOk 17 o (.val v) x.cells y.cells := by
 unfold Msg.set1 at h
 split at h
 all_goals (repeat (rcases bifS h with ⟨rfl, h⟩ | h; (injection h with h; subst h; exact ⟨rfl, by simp [RV.cells]⟩)))
 all_goals cases h
def Msg.set (x : Msg) (o : Nat) (v : RV) : Option Msg :=
 bif Nat.ble 8 o && Nat.blt o 13 then (match v with
   | .rcd (.vec y) => (bif Nat.beq o 8 then some { x with vec := y } else (match x.vec.set (Nat.sub o 8) v with | some y => some { x with vec := y } | none => none))
   | v => (match x.vec.set (Nat.sub o 8) v with | some y => some { x with vec := y } | none => none))
 else bif Nat.ble 13 o && Nat.blt o 17 then (match v with
   | .rcd (.times y) => (bif Nat.beq o 13 then some { x with times := y } else (match x.times.set (Nat.sub o 13) v with | some y => some { x with times := y } | none => none))
   | v => (match x.times.set (Nat.sub o 13) v with | some y => some { x with times := y } | none => none))
 else match v with | .val v => x.set1 o v | .rcd _ => none
theorem Msg.set_ok {x y : Msg} {o : Nat} {v : RV} (h : x.set o v = some y) : SetOk 17 o v x.cells y.cells := by
 unfold Msg.set at h
 cases hr : (Nat.ble 8 o && Nat.blt o 13) with
 | true =>
   rw [hr] at h; simp only [cond_true] at h
   have hlo : 8 ≤ o := Nat.le_of_ble_eq_true (Bool.and_eq_true_iff.1 hr).1
   have inn : ∀ (v : RV), (match x.vec.set (Nat.sub o 8) v with | some y => some { x with vec := y } | none => none) = some y → SetOk 17 o v x.cells y.cells := by
     intro v h
     split at h
     · rename_i q hq
       injection h with h; subst h
       exact SetOk.inner (a := (x.cells.take 8)) (b := (x.cells.drop 13)) (Vec.set_ok hq) (Nat.add_sub_cancel' hlo).symm rfl rfl rfl rfl
     · cases h
   split at h
   · cases ho : Nat.beq o 8 with
     | true =>
       rw [ho] at h; obtain rfl := Nat.eq_of_beq_eq_true ho
       injection h with h; subst h
       exact SetOk.whole (a := (x.cells.take 8)) (b := (x.cells.drop 13)) (c := x.vec.cells) rfl rfl rfl rfl rfl
     | false => rw [ho] at h; exact inn _ h
   · exact inn _ h
 | false =>
 rw [hr] at h; dsimp only [cond] at h; clear hr
 cases hr : (Nat.ble 13 o && Nat.blt o 17) with
 | true =>
   rw [hr] at h; simp only [cond_true] at h
   have hlo : 13 ≤ o := Nat.le_of_ble_eq_true (Bool.and_eq_true_iff.1 hr).1
   have inn : ∀ (v : RV), (match x.times.set (Nat.sub o 13) v with | some y => some { x with times := y } | none => none) = some y → SetOk 17 o v x.cells y.cells := by
     intro v h
     split at h
     · rename_i q hq
       injection h with h; subst h
       exact SetOk.inner (a := (x.cells.take 13)) (b := (x.cells.drop 17)) (Times.set_ok hq) (Nat.add_sub_cancel' hlo).symm rfl rfl rfl rfl
     · cases h
   split at h
   · cases ho : Nat.beq o 13 with
     | true =>
       rw [ho] at h; obtain rfl := Nat.eq_of_beq_eq_true ho
       injection h with h; subst h
       exact SetOk.whole (a := (x.cells.take 13)) (b := (x.cells.drop 17)) (c := x.times.cells) rfl rfl rfl rfl rfl
     | false => rw [ho] at h; exact inn _ h
   · exact inn _ h
 | false =>
 rw [hr] at h; dsimp only [cond] at h; clear hr
 split at h
 · exact Msg.set1_ok h
 · cases h
def Port.set1 (x : Port) (o : Nat) (v : Value) : Option Port :=
 match v with
 | .bool b => bif Nat.beq o 2 then some { x with enabled := b } else bif Nat.beq o 3 then some { x with shared := b } else bif Nat.beq o 4 then some { x with admin := b } else bif Nat.beq o 5 then some { x with auto := b } else none
 | .int .i64 b => bif Nat.beq o 86 then some { x with is_ := b } else bif Nat.beq o 87 then some { x with role := b } else bif Nat.beq o 88 then some { x with selected := b } else none
 | .int .u16 b => bif Nat.beq o 0 then some { x with id := b } else none
 | .int .u32 b => bif Nat.beq o 1 then some { x with cost := b } else none
 | _ => none
theorem Port.set1_ok {x y : Port} {o : Nat} {v : Value} (h : x.set1 o v = some y) : SetOk 89 o (.val v) x.cells y.cells := by
 unfold Port.set1 at h
 split at h
 all_goals (repeat (rcases bifS h with ⟨rfl, h⟩ | h; (injection h with h; subst h; exact ⟨rfl, by simp [RV.cells]⟩)))
 all_goals cases h
def Port.set (x : Port) (o : Nat) (v : RV) : Option Port :=
 bif Nat.ble 6 o && Nat.blt o 15 then (match v with
   | .rcd (.clocks y) => (bif Nat.beq o 6 then some { x with clocks := y } else (match x.clocks.set (Nat.sub o 6) v with | some y => some { x with clocks := y } | none => none))
   | v => (match x.clocks.set (Nat.sub o 6) v with | some y => some { x with clocks := y } | none => none))
 else bif Nat.ble 15 o && Nat.blt o 22 then (match v with
   | .rcd (.states y) => (bif Nat.beq o 15 then some { x with states := y } else (match x.states.set (Nat.sub o 15) v with | some y => some { x with states := y } | none => none))
   | v => (match x.states.set (Nat.sub o 15) v with | some y => some { x with states := y } | none => none))
 else bif Nat.ble 22 o && Nat.blt o 51 then (match v with
   | .rcd (.flags y) => (bif Nat.beq o 22 then some { x with flags := y } else (match x.flags.set (Nat.sub o 22) v with | some y => some { x with flags := y } | none => none))
   | v => (match x.flags.set (Nat.sub o 22) v with | some y => some { x with flags := y } | none => none))
 else bif Nat.ble 51 o && Nat.blt o 68 then (match v with
   | .rcd (.msg y) => (bif Nat.beq o 51 then some { x with msg := y } else (match x.msg.set (Nat.sub o 51) v with | some y => some { x with msg := y } | none => none))
   | v => (match x.msg.set (Nat.sub o 51) v with | some y => some { x with msg := y } | none => none))
 else bif Nat.ble 68 o && Nat.blt o 73 then (match v with
   | .rcd (.vec y) => (bif Nat.beq o 68 then some { x with vec := y } else (match x.vec.set (Nat.sub o 68) v with | some y => some { x with vec := y } | none => none))
   | v => (match x.vec.set (Nat.sub o 68) v with | some y => some { x with vec := y } | none => none))
 else bif Nat.ble 73 o && Nat.blt o 78 then (match v with
   | .rcd (.vec y) => (bif Nat.beq o 73 then some { x with designated := y } else (match x.designated.set (Nat.sub o 73) v with | some y => some { x with designated := y } | none => none))
   | v => (match x.designated.set (Nat.sub o 73) v with | some y => some { x with designated := y } | none => none))
 else bif Nat.ble 78 o && Nat.blt o 82 then (match v with
   | .rcd (.times y) => (bif Nat.beq o 78 then some { x with times := y } else (match x.times.set (Nat.sub o 78) v with | some y => some { x with times := y } | none => none))
   | v => (match x.times.set (Nat.sub o 78) v with | some y => some { x with times := y } | none => none))
 else bif Nat.ble 82 o && Nat.blt o 86 then (match v with
   | .rcd (.times y) => (bif Nat.beq o 82 then some { x with desTimes := y } else (match x.desTimes.set (Nat.sub o 82) v with | some y => some { x with desTimes := y } | none => none))
   | v => (match x.desTimes.set (Nat.sub o 82) v with | some y => some { x with desTimes := y } | none => none))
 else match v with | .val v => x.set1 o v | .rcd _ => none
theorem Port.set_ok {x y : Port} {o : Nat} {v : RV} (h : x.set o v = some y) : SetOk 89 o v x.cells y.cells := by
 unfold Port.set at h
 cases hr : (Nat.ble 6 o && Nat.blt o 15) with
 | true =>
   rw [hr] at h; simp only [cond_true] at h
   have hlo : 6 ≤ o := Nat.le_of_ble_eq_true (Bool.and_eq_true_iff.1 hr).1
   have inn : ∀ (v : RV), (match x.clocks.set (Nat.sub o 6) v with | some y => some { x with clocks := y } | none => none) = some y → SetOk 89 o v x.cells y.cells := by
     intro v h
     split at h
     · rename_i q hq
       injection h with h; subst h
       exact SetOk.inner (a := (x.cells.take 6)) (b := (x.cells.drop 15)) (Clocks.set_ok hq) (Nat.add_sub_cancel' hlo).symm rfl rfl rfl rfl
     · cases h
   split at h
   · cases ho : Nat.beq o 6 with
     | true =>
       rw [ho] at h; obtain rfl := Nat.eq_of_beq_eq_true ho
       injection h with h; subst h
       exact SetOk.whole (a := (x.cells.take 6)) (b := (x.cells.drop 15)) (c := x.clocks.cells) rfl rfl rfl rfl rfl
     | false => rw [ho] at h; exact inn _ h
   · exact inn _ h
 | false =>
 rw [hr] at h; dsimp only [cond] at h; clear hr
 cases hr : (Nat.ble 15 o && Nat.blt o 22) with
 | true =>
   rw [hr] at h; simp only [cond_true] at h
   have hlo : 15 ≤ o := Nat.le_of_ble_eq_true (Bool.and_eq_true_iff.1 hr).1
   have inn : ∀ (v : RV), (match x.states.set (Nat.sub o 15) v with | some y => some { x with states := y } | none => none) = some y → SetOk 89 o v x.cells y.cells := by
     intro v h
     split at h
     · rename_i q hq
       injection h with h; subst h
       exact SetOk.inner (a := (x.cells.take 15)) (b := (x.cells.drop 22)) (States.set_ok hq) (Nat.add_sub_cancel' hlo).symm rfl rfl rfl rfl
     · cases h
   split at h
   · cases ho : Nat.beq o 15 with
     | true =>
       rw [ho] at h; obtain rfl := Nat.eq_of_beq_eq_true ho
       injection h with h; subst h
       exact SetOk.whole (a := (x.cells.take 15)) (b := (x.cells.drop 22)) (c := x.states.cells) rfl rfl rfl rfl rfl
     | false => rw [ho] at h; exact inn _ h
   · exact inn _ h
 | false =>
 rw [hr] at h; dsimp only [cond] at h; clear hr
 cases hr : (Nat.ble 22 o && Nat.blt o 51) with
 | true =>
   rw [hr] at h; simp only [cond_true] at h
   have hlo : 22 ≤ o := Nat.le_of_ble_eq_true (Bool.and_eq_true_iff.1 hr).1
   have inn : ∀ (v : RV), (match x.flags.set (Nat.sub o 22) v with | some y => some { x with flags := y } | none => none) = some y → SetOk 89 o v x.cells y.cells := by
     intro v h
     split at h
     · rename_i q hq
       injection h with h; subst h
       exact SetOk.inner (a := (x.cells.take 22)) (b := (x.cells.drop 51)) (Flags.set_ok hq) (Nat.add_sub_cancel' hlo).symm rfl rfl rfl rfl
     · cases h
   split at h
   · cases ho : Nat.beq o 22 with
     | true =>
       rw [ho] at h; obtain rfl := Nat.eq_of_beq_eq_true ho
       injection h with h; subst h
       exact SetOk.whole (a := (x.cells.take 22)) (b := (x.cells.drop 51)) (c := x.flags.cells) rfl rfl rfl rfl rfl
     | false => rw [ho] at h; exact inn _ h
   · exact inn _ h
 | false =>
 rw [hr] at h; dsimp only [cond] at h; clear hr
 cases hr : (Nat.ble 51 o && Nat.blt o 68) with
 | true =>
   rw [hr] at h; simp only [cond_true] at h
   have hlo : 51 ≤ o := Nat.le_of_ble_eq_true (Bool.and_eq_true_iff.1 hr).1
   have inn : ∀ (v : RV), (match x.msg.set (Nat.sub o 51) v with | some y => some { x with msg := y } | none => none) = some y → SetOk 89 o v x.cells y.cells := by
     intro v h
     split at h
     · rename_i q hq
       injection h with h; subst h
       exact SetOk.inner (a := (x.cells.take 51)) (b := (x.cells.drop 68)) (Msg.set_ok hq) (Nat.add_sub_cancel' hlo).symm rfl rfl rfl rfl
     · cases h
   split at h
   · cases ho : Nat.beq o 51 with
     | true =>
       rw [ho] at h; obtain rfl := Nat.eq_of_beq_eq_true ho
       injection h with h; subst h
       exact SetOk.whole (a := (x.cells.take 51)) (b := (x.cells.drop 68)) (c := x.msg.cells) rfl rfl rfl rfl rfl
     | false => rw [ho] at h; exact inn _ h
   · exact inn _ h
 | false =>
 rw [hr] at h; dsimp only [cond] at h; clear hr
 cases hr : (Nat.ble 68 o && Nat.blt o 73) with
 | true =>
   rw [hr] at h; simp only [cond_true] at h
   have hlo : 68 ≤ o := Nat.le_of_ble_eq_true (Bool.and_eq_true_iff.1 hr).1
   have inn : ∀ (v : RV), (match x.vec.set (Nat.sub o 68) v with | some y => some { x with vec := y } | none => none) = some y → SetOk 89 o v x.cells y.cells := by
     intro v h
     split at h
     · rename_i q hq
       injection h with h; subst h
       exact SetOk.inner (a := (x.cells.take 68)) (b := (x.cells.drop 73)) (Vec.set_ok hq) (Nat.add_sub_cancel' hlo).symm rfl rfl rfl rfl
     · cases h
   split at h
   · cases ho : Nat.beq o 68 with
     | true =>
       rw [ho] at h; obtain rfl := Nat.eq_of_beq_eq_true ho
       injection h with h; subst h
       exact SetOk.whole (a := (x.cells.take 68)) (b := (x.cells.drop 73)) (c := x.vec.cells) rfl rfl rfl rfl rfl
     | false => rw [ho] at h; exact inn _ h
   · exact inn _ h
 | false =>
 rw [hr] at h; dsimp only [cond] at h; clear hr
 cases hr : (Nat.ble 73 o && Nat.blt o 78) with
 | true =>
   rw [hr] at h; simp only [cond_true] at h
   have hlo : 73 ≤ o := Nat.le_of_ble_eq_true (Bool.and_eq_true_iff.1 hr).1
   have inn : ∀ (v : RV), (match x.designated.set (Nat.sub o 73) v with | some y => some { x with designated := y } | none => none) = some y → SetOk 89 o v x.cells y.cells := by
     intro v h
     split at h
     · rename_i q hq
       injection h with h; subst h
       exact SetOk.inner (a := (x.cells.take 73)) (b := (x.cells.drop 78)) (Vec.set_ok hq) (Nat.add_sub_cancel' hlo).symm rfl rfl rfl rfl
     · cases h
   split at h
   · cases ho : Nat.beq o 73 with
     | true =>
       rw [ho] at h; obtain rfl := Nat.eq_of_beq_eq_true ho
       injection h with h; subst h
       exact SetOk.whole (a := (x.cells.take 73)) (b := (x.cells.drop 78)) (c := x.designated.cells) rfl rfl rfl rfl rfl
     | false => rw [ho] at h; exact inn _ h
   · exact inn _ h
 | false =>
 rw [hr] at h; dsimp only [cond] at h; clear hr
 cases hr : (Nat.ble 78 o && Nat.blt o 82) with
 | true =>
   rw [hr] at h; simp only [cond_true] at h
   have hlo : 78 ≤ o := Nat.le_of_ble_eq_true (Bool.and_eq_true_iff.1 hr).1
   have inn : ∀ (v : RV), (match x.times.set (Nat.sub o 78) v with | some y => some { x with times := y } | none => none) = some y → SetOk 89 o v x.cells y.cells := by
     intro v h
     split at h
     · rename_i q hq
       injection h with h; subst h
       exact SetOk.inner (a := (x.cells.take 78)) (b := (x.cells.drop 82)) (Times.set_ok hq) (Nat.add_sub_cancel' hlo).symm rfl rfl rfl rfl
     · cases h
   split at h
   · cases ho : Nat.beq o 78 with
     | true =>
       rw [ho] at h; obtain rfl := Nat.eq_of_beq_eq_true ho
       injection h with h; subst h
       exact SetOk.whole (a := (x.cells.take 78)) (b := (x.cells.drop 82)) (c := x.times.cells) rfl rfl rfl rfl rfl
     | false => rw [ho] at h; exact inn _ h
   · exact inn _ h
 | false =>
 rw [hr] at h; dsimp only [cond] at h; clear hr
 cases hr : (Nat.ble 82 o && Nat.blt o 86) with
 | true =>
   rw [hr] at h; simp only [cond_true] at h
   have hlo : 82 ≤ o := Nat.le_of_ble_eq_true (Bool.and_eq_true_iff.1 hr).1
   have inn : ∀ (v : RV), (match x.desTimes.set (Nat.sub o 82) v with | some y => some { x with desTimes := y } | none => none) = some y → SetOk 89 o v x.cells y.cells := by
     intro v h
     split at h
     · rename_i q hq
       injection h with h; subst h
       exact SetOk.inner (a := (x.cells.take 82)) (b := (x.cells.drop 86)) (Times.set_ok hq) (Nat.add_sub_cancel' hlo).symm rfl rfl rfl rfl
     · cases h
   split at h
   · cases ho : Nat.beq o 82 with
     | true =>
       rw [ho] at h; obtain rfl := Nat.eq_of_beq_eq_true ho
       injection h with h; subst h
       exact SetOk.whole (a := (x.cells.take 82)) (b := (x.cells.drop 86)) (c := x.desTimes.cells) rfl rfl rfl rfl rfl
     | false => rw [ho] at h; exact inn _ h
   · exact inn _ h
 | false =>
 rw [hr] at h; dsimp only [cond] at h; clear hr
 split at h
 · exact Port.set1_ok h
 · cases h
def Sent.set1 (x : Sent) (o : Nat) (v : Value) : Option Sent :=
 match v with
 | .int .i64 b => bif Nat.beq o 0 then some { x with port := b } else none
 | _ => none
theorem Sent.set1_ok {x y : Sent} {o : Nat} {v : Value} (h : x.set1 o v = some y) : SetOk 18 o (.val v) x.cells y.cells := by
 unfold Sent.set1 at h
 split at h
 all_goals (repeat (rcases bifS h with ⟨rfl, h⟩ | h; (injection h with h; subst h; exact ⟨rfl, by simp [RV.cells]⟩)))
 all_goals cases h
def Sent.set (x : Sent) (o : Nat) (v : RV) : Option Sent :=
 bif Nat.ble 1 o && Nat.blt o 18 then (match v with
   | .rcd (.msg y) => (bif Nat.beq o 1 then some { x with msg := y } else (match x.msg.set (Nat.sub o 1) v with | some y => some { x with msg := y } | none => none))
   | v => (match x.msg.set (Nat.sub o 1) v with | some y => some { x with msg := y } | none => none))
 else match v with | .val v => x.set1 o v | .rcd _ => none
theorem Sent.set_ok {x y : Sent} {o : Nat} {v : RV} (h : x.set o v = some y) : SetOk 18 o v x.cells y.cells := by
 unfold Sent.set at h
 cases hr : (Nat.ble 1 o && Nat.blt o 18) with
 | true =>
   rw [hr] at h; simp only [cond_true] at h
   have hlo : 1 ≤ o := Nat.le_of_ble_eq_true (Bool.and_eq_true_iff.1 hr).1
   have inn : ∀ (v : RV), (match x.msg.set (Nat.sub o 1) v with | some y => some { x with msg := y } | none => none) = some y → SetOk 18 o v x.cells y.cells := by
     intro v h
     split at h
     · rename_i q hq
       injection h with h; subst h
       exact SetOk.inner (a := (x.cells.take 1)) (b := (x.cells.drop 18)) (Msg.set_ok hq) (Nat.add_sub_cancel' hlo).symm rfl rfl rfl rfl
     · cases h
   split at h
   · cases ho : Nat.beq o 1 with
     | true =>
       rw [ho] at h; obtain rfl := Nat.eq_of_beq_eq_true ho
       injection h with h; subst h
       exact SetOk.whole (a := (x.cells.take 1)) (b := (x.cells.drop 18)) (c := x.msg.cells) rfl rfl rfl rfl rfl
     | false => rw [ho] at h; exact inn _ h
   · exact inn _ h
 | false =>
 rw [hr] at h; dsimp only [cond] at h; clear hr
 split at h
 · exact Sent.set1_ok h
 · cases h
def Conf.set1 (x : Conf) (o : Nat) (v : Value) : Option Conf :=
 match v with
 | .bool b => bif Nat.beq o 2 then some { x with shared := b } else bif Nat.beq o 3 then some { x with admin := b } else bif Nat.beq o 4 then some { x with auto := b } else none
 | .int .u16 b => bif Nat.beq o 0 then some { x with id := b } else none
 | .int .u32 b => bif Nat.beq o 1 then some { x with cost := b } else none
 | _ => none
theorem Conf.set1_ok {x y : Conf} {o : Nat} {v : Value} (h : x.set1 o v = some y) : SetOk 5 o (.val v) x.cells y.cells := by
 unfold Conf.set1 at h
 split at h
 all_goals (repeat (rcases bifS h with ⟨rfl, h⟩ | h; (injection h with h; subst h; exact ⟨rfl, by simp [RV.cells]⟩)))
 all_goals cases h
def Conf.set (x : Conf) (o : Nat) (v : RV) : Option Conf :=
 match v with | .val v => x.set1 o v | .rcd _ => none
theorem Conf.set_ok {x y : Conf} {o : Nat} {v : RV} (h : x.set o v = some y) : SetOk 5 o v x.cells y.cells := by
 unfold Conf.set at h
 split at h
 · exact Conf.set1_ok h
 · cases h
def Todo.set1 (x : Todo) (o : Nat) (v : Value) : Option Todo :=
 match v with
 | .bool b => bif Nat.beq o 2 then some { x with on := b } else none
 | .int .u8 b => bif Nat.beq o 0 then some { x with kind := b } else bif Nat.beq o 1 then some { x with port := b } else none
 | _ => none
theorem Todo.set1_ok {x y : Todo} {o : Nat} {v : Value} (h : x.set1 o v = some y) : SetOk 20 o (.val v) x.cells y.cells := by
 unfold Todo.set1 at h
 split at h
 all_goals (repeat (rcases bifS h with ⟨rfl, h⟩ | h; (injection h with h; subst h; exact ⟨rfl, by simp [RV.cells]⟩)))
 all_goals cases h
def Todo.set (x : Todo) (o : Nat) (v : RV) : Option Todo :=
 bif Nat.ble 3 o && Nat.blt o 20 then (match v with
   | .rcd (.msg y) => (bif Nat.beq o 3 then some { x with msg := y } else (match x.msg.set (Nat.sub o 3) v with | some y => some { x with msg := y } | none => none))
   | v => (match x.msg.set (Nat.sub o 3) v with | some y => some { x with msg := y } | none => none))
 else match v with | .val v => x.set1 o v | .rcd _ => none
theorem Todo.set_ok {x y : Todo} {o : Nat} {v : RV} (h : x.set o v = some y) : SetOk 20 o v x.cells y.cells := by
 unfold Todo.set at h
 cases hr : (Nat.ble 3 o && Nat.blt o 20) with
 | true =>
   rw [hr] at h; simp only [cond_true] at h
   have hlo : 3 ≤ o := Nat.le_of_ble_eq_true (Bool.and_eq_true_iff.1 hr).1
   have inn : ∀ (v : RV), (match x.msg.set (Nat.sub o 3) v with | some y => some { x with msg := y } | none => none) = some y → SetOk 20 o v x.cells y.cells := by
     intro v h
     split at h
     · rename_i q hq
       injection h with h; subst h
       exact SetOk.inner (a := (x.cells.take 3)) (b := (x.cells.drop 20)) (Msg.set_ok hq) (Nat.add_sub_cancel' hlo).symm rfl rfl rfl rfl
     · cases h
   split at h
   · cases ho : Nat.beq o 3 with
     | true =>
       rw [ho] at h; obtain rfl := Nat.eq_of_beq_eq_true ho
       injection h with h; subst h
       exact SetOk.whole (a := (x.cells.take 3)) (b := (x.cells.drop 20)) (c := x.msg.cells) rfl rfl rfl rfl rfl
     | false => rw [ho] at h; exact inn _ h
   · exact inn _ h
 | false =>
 rw [hr] at h; dsimp only [cond] at h; clear hr
 split at h
 · exact Todo.set1_ok h
 · cases h
def Rec.set (r : Rec) (o : Nat) (v : RV) : Option Rec :=
 match r with
 | .vec x => (match x.set o v with | some y => some (.vec y) | none => none)
 | .times x => (match x.set o v with | some y => some (.times y) | none => none)
 | .clocks x => (match x.set o v with | some y => some (.clocks y) | none => none)
 | .states x => (match x.set o v with | some y => some (.states y) | none => none)
 | .flags x => (match x.set o v with | some y => some (.flags y) | none => none)
 | .msg x => (match x.set o v with | some y => some (.msg y) | none => none)
 | .port x => (match x.set o v with | some y => some (.port y) | none => none)
 | .sent x => (match x.set o v with | some y => some (.sent y) | none => none)
 | .conf x => (match x.set o v with | some y => some (.conf y) | none => none)
 | .todo x => (match x.set o v with | some y => some (.todo y) | none => none)
theorem Rec.set_ok {r q : Rec} {o : Nat} {v : RV} (h : r.set o v = some q) : SetOk r.size o v r.cells q.cells ∧ q.size = r.size := by
 cases r with
 | vec x =>
   unfold Rec.set at h; dsimp only at h; split at h
   · rename_i y hy; injection h with h; subst h; exact ⟨Vec.set_ok hy, rfl⟩
   · cases h
 | times x =>
   unfold Rec.set at h; dsimp only at h; split at h
   · rename_i y hy; injection h with h; subst h; exact ⟨Times.set_ok hy, rfl⟩
   · cases h
 | clocks x =>
   unfold Rec.set at h; dsimp only at h; split at h
   · rename_i y hy; injection h with h; subst h; exact ⟨Clocks.set_ok hy, rfl⟩
   · cases h
 | states x =>
   unfold Rec.set at h; dsimp only at h; split at h
   · rename_i y hy; injection h with h; subst h; exact ⟨States.set_ok hy, rfl⟩
   · cases h
 | flags x =>
   unfold Rec.set at h; dsimp only at h; split at h
   · rename_i y hy; injection h with h; subst h; exact ⟨Flags.set_ok hy, rfl⟩
   · cases h
 | msg x =>
   unfold Rec.set at h; dsimp only at h; split at h
   · rename_i y hy; injection h with h; subst h; exact ⟨Msg.set_ok hy, rfl⟩
   · cases h
 | port x =>
   unfold Rec.set at h; dsimp only at h; split at h
   · rename_i y hy; injection h with h; subst h; exact ⟨Port.set_ok hy, rfl⟩
   · cases h
 | sent x =>
   unfold Rec.set at h; dsimp only at h; split at h
   · rename_i y hy; injection h with h; subst h; exact ⟨Sent.set_ok hy, rfl⟩
   · cases h
 | conf x =>
   unfold Rec.set at h; dsimp only at h; split at h
   · rename_i y hy; injection h with h; subst h; exact ⟨Conf.set_ok hy, rfl⟩
   · cases h
 | todo x =>
   unfold Rec.set at h; dsimp only at h; split at h
   · rename_i y hy; injection h with h; subst h; exact ⟨Todo.set_ok hy, rfl⟩
   · cases h
theorem Vec.inj {a b : Vec} (h : a.cells = b.cells) : a = b := by
 have h0 : a.root = b.root := by
   have e : some (Value.int .u64 a.root) = some (Value.int .u64 b.root) := congrArg (fun l => nthV l 0) h
   injection e with e; injection e
 have h1 : a.cost = b.cost := by
   have e : some (Value.int .u32 a.cost) = some (Value.int .u32 b.cost) := congrArg (fun l => nthV l 1) h
   injection e with e; injection e
 have h2 : a.bridge = b.bridge := by
   have e : some (Value.int .u64 a.bridge) = some (Value.int .u64 b.bridge) := congrArg (fun l => nthV l 2) h
   injection e with e; injection e
 have h3 : a.port = b.port := by
   have e : some (Value.int .u16 a.port) = some (Value.int .u16 b.port) := congrArg (fun l => nthV l 3) h
   injection e with e; injection e
 have h4 : a.rx = b.rx := by
   have e : some (Value.int .u16 a.rx) = some (Value.int .u16 b.rx) := congrArg (fun l => nthV l 4) h
   injection e with e; injection e
 cases a; cases b; simp only at h0 h1 h2 h3 h4; subst h0 h1 h2 h3 h4; rfl
theorem Times.inj {a b : Times} (h : a.cells = b.cells) : a = b := by
 have h0 : a.age = b.age := by
   have e : some (Value.int .i64 a.age) = some (Value.int .i64 b.age) := congrArg (fun l => nthV l 0) h
   injection e with e; injection e
 have h1 : a.max = b.max := by
   have e : some (Value.int .i64 a.max) = some (Value.int .i64 b.max) := congrArg (fun l => nthV l 1) h
   injection e with e; injection e
 have h2 : a.hello = b.hello := by
   have e : some (Value.int .i64 a.hello) = some (Value.int .i64 b.hello) := congrArg (fun l => nthV l 2) h
   injection e with e; injection e
 have h3 : a.delay = b.delay := by
   have e : some (Value.int .i64 a.delay) = some (Value.int .i64 b.delay) := congrArg (fun l => nthV l 3) h
   injection e with e; injection e
 cases a; cases b; simp only at h0 h1 h2 h3; subst h0 h1 h2 h3; rfl
theorem Clocks.inj {a b : Clocks} (h : a.cells = b.cells) : a = b := by
 have h0 : a.edgeDelay = b.edgeDelay := by
   have e : some (Value.int .i64 a.edgeDelay) = some (Value.int .i64 b.edgeDelay) := congrArg (fun l => nthV l 0) h
   injection e with e; injection e
 have h1 : a.fd = b.fd := by
   have e : some (Value.int .i64 a.fd) = some (Value.int .i64 b.fd) := congrArg (fun l => nthV l 1) h
   injection e with e; injection e
 have h2 : a.hello = b.hello := by
   have e : some (Value.int .i64 a.hello) = some (Value.int .i64 b.hello) := congrArg (fun l => nthV l 2) h
   injection e with e; injection e
 have h3 : a.mdelay = b.mdelay := by
   have e : some (Value.int .i64 a.mdelay) = some (Value.int .i64 b.mdelay) := congrArg (fun l => nthV l 3) h
   injection e with e; injection e
 have h4 : a.rb = b.rb := by
   have e : some (Value.int .i64 a.rb) = some (Value.int .i64 b.rb) := congrArg (fun l => nthV l 4) h
   injection e with e; injection e
 have h5 : a.rcvdInfo = b.rcvdInfo := by
   have e : some (Value.int .i64 a.rcvdInfo) = some (Value.int .i64 b.rcvdInfo) := congrArg (fun l => nthV l 5) h
   injection e with e; injection e
 have h6 : a.rr = b.rr := by
   have e : some (Value.int .i64 a.rr) = some (Value.int .i64 b.rr) := congrArg (fun l => nthV l 6) h
   injection e with e; injection e
 have h7 : a.tc = b.tc := by
   have e : some (Value.int .i64 a.tc) = some (Value.int .i64 b.tc) := congrArg (fun l => nthV l 7) h
   injection e with e; injection e
 have h8 : a.txCount = b.txCount := by
   have e : some (Value.int .i64 a.txCount) = some (Value.int .i64 b.txCount) := congrArg (fun l => nthV l 8) h
   injection e with e; injection e
 cases a; cases b; simp only at h0 h1 h2 h3 h4 h5 h6 h7 h8; subst h0 h1 h2 h3 h4 h5 h6 h7 h8; rfl
theorem States.inj {a b : States} (h : a.cells = b.cells) : a = b := by
 have h0 : a.rx = b.rx := by
   have e : some (Value.int .i64 a.rx) = some (Value.int .i64 b.rx) := congrArg (fun l => nthV l 0) h
   injection e with e; injection e
 have h1 : a.mig = b.mig := by
   have e : some (Value.int .i64 a.mig) = some (Value.int .i64 b.mig) := congrArg (fun l => nthV l 1) h
   injection e with e; injection e
 have h2 : a.edge = b.edge := by
   have e : some (Value.int .i64 a.edge) = some (Value.int .i64 b.edge) := congrArg (fun l => nthV l 2) h
   injection e with e; injection e
 have h3 : a.info = b.info := by
   have e : some (Value.int .i64 a.info) = some (Value.int .i64 b.info) := congrArg (fun l => nthV l 3) h
   injection e with e; injection e
 have h4 : a.trans = b.trans := by
   have e : some (Value.int .i64 a.trans) = some (Value.int .i64 b.trans) := congrArg (fun l => nthV l 4) h
   injection e with e; injection e
 have h5 : a.pass = b.pass := by
   have e : some (Value.int .i64 a.pass) = some (Value.int .i64 b.pass) := congrArg (fun l => nthV l 5) h
   injection e with e; injection e
 have h6 : a.topo = b.topo := by
   have e : some (Value.int .i64 a.topo) = some (Value.int .i64 b.topo) := congrArg (fun l => nthV l 6) h
   injection e with e; injection e
 cases a; cases b; simp only at h0 h1 h2 h3 h4 h5 h6; subst h0 h1 h2 h3 h4 h5 h6; rfl
theorem Flags.inj {a b : Flags} (h : a.cells = b.cells) : a = b := by
 have h0 : a.agree = b.agree := by
   have e : some (Value.bool a.agree) = some (Value.bool b.agree) := congrArg (fun l => nthV l 0) h
   injection e with e; injection e
 have h1 : a.agreed = b.agreed := by
   have e : some (Value.bool a.agreed) = some (Value.bool b.agreed) := congrArg (fun l => nthV l 1) h
   injection e with e; injection e
 have h2 : a.disputed = b.disputed := by
   have e : some (Value.bool a.disputed) = some (Value.bool b.disputed) := congrArg (fun l => nthV l 2) h
   injection e with e; injection e
 have h3 : a.flush = b.flush := by
   have e : some (Value.bool a.flush) = some (Value.bool b.flush) := congrArg (fun l => nthV l 3) h
   injection e with e; injection e
 have h4 : a.forward = b.forward := by
   have e : some (Value.bool a.forward) = some (Value.bool b.forward) := congrArg (fun l => nthV l 4) h
   injection e with e; injection e
 have h5 : a.forwarding = b.forwarding := by
   have e : some (Value.bool a.forwarding) = some (Value.bool b.forwarding) := congrArg (fun l => nthV l 5) h
   injection e with e; injection e
 have h6 : a.learn = b.learn := by
   have e : some (Value.bool a.learn) = some (Value.bool b.learn) := congrArg (fun l => nthV l 6) h
   injection e with e; injection e
 have h7 : a.learning = b.learning := by
   have e : some (Value.bool a.learning) = some (Value.bool b.learning) := congrArg (fun l => nthV l 7) h
   injection e with e; injection e
 have h8 : a.mcheck = b.mcheck := by
   have e : some (Value.bool a.mcheck) = some (Value.bool b.mcheck) := congrArg (fun l => nthV l 8) h
   injection e with e; injection e
 have h9 : a.newInfo = b.newInfo := by
   have e : some (Value.bool a.newInfo) = some (Value.bool b.newInfo) := congrArg (fun l => nthV l 9) h
   injection e with e; injection e
 have h10 : a.operEdge = b.operEdge := by
   have e : some (Value.bool a.operEdge) = some (Value.bool b.operEdge) := congrArg (fun l => nthV l 10) h
   injection e with e; injection e
 have h11 : a.proposed = b.proposed := by
   have e : some (Value.bool a.proposed) = some (Value.bool b.proposed) := congrArg (fun l => nthV l 11) h
   injection e with e; injection e
 have h12 : a.proposing = b.proposing := by
   have e : some (Value.bool a.proposing) = some (Value.bool b.proposing) := congrArg (fun l => nthV l 12) h
   injection e with e; injection e
 have h13 : a.rcvdBpdu = b.rcvdBpdu := by
   have e : some (Value.bool a.rcvdBpdu) = some (Value.bool b.rcvdBpdu) := congrArg (fun l => nthV l 13) h
   injection e with e; injection e
 have h14 : a.rcvdMsg = b.rcvdMsg := by
   have e : some (Value.bool a.rcvdMsg) = some (Value.bool b.rcvdMsg) := congrArg (fun l => nthV l 14) h
   injection e with e; injection e
 have h15 : a.rcvdRst = b.rcvdRst := by
   have e : some (Value.bool a.rcvdRst) = some (Value.bool b.rcvdRst) := congrArg (fun l => nthV l 15) h
   injection e with e; injection e
 have h16 : a.rcvdStp = b.rcvdStp := by
   have e : some (Value.bool a.rcvdStp) = some (Value.bool b.rcvdStp) := congrArg (fun l => nthV l 16) h
   injection e with e; injection e
 have h17 : a.rcvdTc = b.rcvdTc := by
   have e : some (Value.bool a.rcvdTc) = some (Value.bool b.rcvdTc) := congrArg (fun l => nthV l 17) h
   injection e with e; injection e
 have h18 : a.rcvdTcAck = b.rcvdTcAck := by
   have e : some (Value.bool a.rcvdTcAck) = some (Value.bool b.rcvdTcAck) := congrArg (fun l => nthV l 18) h
   injection e with e; injection e
 have h19 : a.rcvdTcn = b.rcvdTcn := by
   have e : some (Value.bool a.rcvdTcn) = some (Value.bool b.rcvdTcn) := congrArg (fun l => nthV l 19) h
   injection e with e; injection e
 have h20 : a.reRoot = b.reRoot := by
   have e : some (Value.bool a.reRoot) = some (Value.bool b.reRoot) := congrArg (fun l => nthV l 20) h
   injection e with e; injection e
 have h21 : a.reselect = b.reselect := by
   have e : some (Value.bool a.reselect) = some (Value.bool b.reselect) := congrArg (fun l => nthV l 21) h
   injection e with e; injection e
 have h22 : a.selected = b.selected := by
   have e : some (Value.bool a.selected) = some (Value.bool b.selected) := congrArg (fun l => nthV l 22) h
   injection e with e; injection e
 have h23 : a.sendRst = b.sendRst := by
   have e : some (Value.bool a.sendRst) = some (Value.bool b.sendRst) := congrArg (fun l => nthV l 23) h
   injection e with e; injection e
 have h24 : a.sync = b.sync := by
   have e : some (Value.bool a.sync) = some (Value.bool b.sync) := congrArg (fun l => nthV l 24) h
   injection e with e; injection e
 have h25 : a.synced = b.synced := by
   have e : some (Value.bool a.synced) = some (Value.bool b.synced) := congrArg (fun l => nthV l 25) h
   injection e with e; injection e
 have h26 : a.tcAck = b.tcAck := by
   have e : some (Value.bool a.tcAck) = some (Value.bool b.tcAck) := congrArg (fun l => nthV l 26) h
   injection e with e; injection e
 have h27 : a.tcProp = b.tcProp := by
   have e : some (Value.bool a.tcProp) = some (Value.bool b.tcProp) := congrArg (fun l => nthV l 27) h
   injection e with e; injection e
 have h28 : a.updtInfo = b.updtInfo := by
   have e : some (Value.bool a.updtInfo) = some (Value.bool b.updtInfo) := congrArg (fun l => nthV l 28) h
   injection e with e; injection e
 cases a; cases b; simp only at h0 h1 h2 h3 h4 h5 h6 h7 h8 h9 h10 h11 h12 h13 h14 h15 h16 h17 h18 h19 h20 h21 h22 h23 h24 h25 h26 h27 h28; subst h0 h1 h2 h3 h4 h5 h6 h7 h8 h9 h10 h11 h12 h13 h14 h15 h16 h17 h18 h19 h20 h21 h22 h23 h24 h25 h26 h27 h28; rfl
theorem Msg.inj {a b : Msg} (h : a.cells = b.cells) : a = b := by
 have h0 : a.kind = b.kind := by
   have e : some (Value.int .i64 a.kind) = some (Value.int .i64 b.kind) := congrArg (fun l => nthV l 0) h
   injection e with e; injection e
 have h1 : a.change = b.change := by
   have e : some (Value.bool a.change) = some (Value.bool b.change) := congrArg (fun l => nthV l 1) h
   injection e with e; injection e
 have h2 : a.ack = b.ack := by
   have e : some (Value.bool a.ack) = some (Value.bool b.ack) := congrArg (fun l => nthV l 2) h
   injection e with e; injection e
 have h3 : a.proposal = b.proposal := by
   have e : some (Value.bool a.proposal) = some (Value.bool b.proposal) := congrArg (fun l => nthV l 3) h
   injection e with e; injection e
 have h4 : a.agreement = b.agreement := by
   have e : some (Value.bool a.agreement) = some (Value.bool b.agreement) := congrArg (fun l => nthV l 4) h
   injection e with e; injection e
 have h5 : a.learning = b.learning := by
   have e : some (Value.bool a.learning) = some (Value.bool b.learning) := congrArg (fun l => nthV l 5) h
   injection e with e; injection e
 have h6 : a.forwarding = b.forwarding := by
   have e : some (Value.bool a.forwarding) = some (Value.bool b.forwarding) := congrArg (fun l => nthV l 6) h
   injection e with e; injection e
 have h7 : a.role = b.role := by
   have e : some (Value.int .i64 a.role) = some (Value.int .i64 b.role) := congrArg (fun l => nthV l 7) h
   injection e with e; injection e
 have h8 : a.vec = b.vec := Vec.inj (congrArg (fun l => (l.drop 8).take 5) h)
 have h13 : a.times = b.times := Times.inj (congrArg (fun l => (l.drop 13).take 4) h)
 cases a; cases b; simp only at h0 h1 h2 h3 h4 h5 h6 h7 h8 h13; subst h0 h1 h2 h3 h4 h5 h6 h7 h8 h13; rfl
theorem Port.inj {a b : Port} (h : a.cells = b.cells) : a = b := by
 have h0 : a.id = b.id := by
   have e : some (Value.int .u16 a.id) = some (Value.int .u16 b.id) := congrArg (fun l => nthV l 0) h
   injection e with e; injection e
 have h1 : a.cost = b.cost := by
   have e : some (Value.int .u32 a.cost) = some (Value.int .u32 b.cost) := congrArg (fun l => nthV l 1) h
   injection e with e; injection e
 have h2 : a.enabled = b.enabled := by
   have e : some (Value.bool a.enabled) = some (Value.bool b.enabled) := congrArg (fun l => nthV l 2) h
   injection e with e; injection e
 have h3 : a.shared = b.shared := by
   have e : some (Value.bool a.shared) = some (Value.bool b.shared) := congrArg (fun l => nthV l 3) h
   injection e with e; injection e
 have h4 : a.admin = b.admin := by
   have e : some (Value.bool a.admin) = some (Value.bool b.admin) := congrArg (fun l => nthV l 4) h
   injection e with e; injection e
 have h5 : a.auto = b.auto := by
   have e : some (Value.bool a.auto) = some (Value.bool b.auto) := congrArg (fun l => nthV l 5) h
   injection e with e; injection e
 have h6 : a.clocks = b.clocks := Clocks.inj (congrArg (fun l => (l.drop 6).take 9) h)
 have h15 : a.states = b.states := States.inj (congrArg (fun l => (l.drop 15).take 7) h)
 have h22 : a.flags = b.flags := Flags.inj (congrArg (fun l => (l.drop 22).take 29) h)
 have h51 : a.msg = b.msg := Msg.inj (congrArg (fun l => (l.drop 51).take 17) h)
 have h68 : a.vec = b.vec := Vec.inj (congrArg (fun l => (l.drop 68).take 5) h)
 have h73 : a.designated = b.designated := Vec.inj (congrArg (fun l => (l.drop 73).take 5) h)
 have h78 : a.times = b.times := Times.inj (congrArg (fun l => (l.drop 78).take 4) h)
 have h82 : a.desTimes = b.desTimes := Times.inj (congrArg (fun l => (l.drop 82).take 4) h)
 have h86 : a.is_ = b.is_ := by
   have e : some (Value.int .i64 a.is_) = some (Value.int .i64 b.is_) := congrArg (fun l => nthV l 86) h
   injection e with e; injection e
 have h87 : a.role = b.role := by
   have e : some (Value.int .i64 a.role) = some (Value.int .i64 b.role) := congrArg (fun l => nthV l 87) h
   injection e with e; injection e
 have h88 : a.selected = b.selected := by
   have e : some (Value.int .i64 a.selected) = some (Value.int .i64 b.selected) := congrArg (fun l => nthV l 88) h
   injection e with e; injection e
 cases a; cases b; simp only at h0 h1 h2 h3 h4 h5 h6 h15 h22 h51 h68 h73 h78 h82 h86 h87 h88; subst h0 h1 h2 h3 h4 h5 h6 h15 h22 h51 h68 h73 h78 h82 h86 h87 h88; rfl
theorem Sent.inj {a b : Sent} (h : a.cells = b.cells) : a = b := by
 have h0 : a.port = b.port := by
   have e : some (Value.int .i64 a.port) = some (Value.int .i64 b.port) := congrArg (fun l => nthV l 0) h
   injection e with e; injection e
 have h1 : a.msg = b.msg := Msg.inj (congrArg (fun l => (l.drop 1).take 17) h)
 cases a; cases b; simp only at h0 h1; subst h0 h1; rfl
theorem Conf.inj {a b : Conf} (h : a.cells = b.cells) : a = b := by
 have h0 : a.id = b.id := by
   have e : some (Value.int .u16 a.id) = some (Value.int .u16 b.id) := congrArg (fun l => nthV l 0) h
   injection e with e; injection e
 have h1 : a.cost = b.cost := by
   have e : some (Value.int .u32 a.cost) = some (Value.int .u32 b.cost) := congrArg (fun l => nthV l 1) h
   injection e with e; injection e
 have h2 : a.shared = b.shared := by
   have e : some (Value.bool a.shared) = some (Value.bool b.shared) := congrArg (fun l => nthV l 2) h
   injection e with e; injection e
 have h3 : a.admin = b.admin := by
   have e : some (Value.bool a.admin) = some (Value.bool b.admin) := congrArg (fun l => nthV l 3) h
   injection e with e; injection e
 have h4 : a.auto = b.auto := by
   have e : some (Value.bool a.auto) = some (Value.bool b.auto) := congrArg (fun l => nthV l 4) h
   injection e with e; injection e
 cases a; cases b; simp only at h0 h1 h2 h3 h4; subst h0 h1 h2 h3 h4; rfl
theorem Todo.inj {a b : Todo} (h : a.cells = b.cells) : a = b := by
 have h0 : a.kind = b.kind := by
   have e : some (Value.int .u8 a.kind) = some (Value.int .u8 b.kind) := congrArg (fun l => nthV l 0) h
   injection e with e; injection e
 have h1 : a.port = b.port := by
   have e : some (Value.int .u8 a.port) = some (Value.int .u8 b.port) := congrArg (fun l => nthV l 1) h
   injection e with e; injection e
 have h2 : a.on = b.on := by
   have e : some (Value.bool a.on) = some (Value.bool b.on) := congrArg (fun l => nthV l 2) h
   injection e with e; injection e
 have h3 : a.msg = b.msg := Msg.inj (congrArg (fun l => (l.drop 3).take 17) h)
 cases a; cases b; simp only at h0 h1 h2 h3; subst h0 h1 h2 h3; rfl
def Rec.same : Rec → Rec → Option Bool
 | .vec a, .vec b => some (decide (a = b))
 | .times a, .times b => some (decide (a = b))
 | .clocks a, .clocks b => some (decide (a = b))
 | .states a, .states b => some (decide (a = b))
 | .flags a, .flags b => some (decide (a = b))
 | .msg a, .msg b => some (decide (a = b))
 | .port a, .port b => some (decide (a = b))
 | .sent a, .sent b => some (decide (a = b))
 | .conf a, .conf b => some (decide (a = b))
 | .todo a, .todo b => some (decide (a = b))
 | _, _ => none
theorem Rec.same_ok {r q : Rec} {b : Bool} (h : r.same q = some b) : b = true ↔ r.cells = q.cells := by
 cases r <;> cases q <;> simp only [Rec.same, Option.some.injEq, reduceCtorEq] at h <;> subst h <;> rw [decide_eq_true_iff]
 · exact ⟨fun e => by rw [e], fun e => Vec.inj e⟩
 · exact ⟨fun e => by rw [e], fun e => Times.inj e⟩
 · exact ⟨fun e => by rw [e], fun e => Clocks.inj e⟩
 · exact ⟨fun e => by rw [e], fun e => States.inj e⟩
 · exact ⟨fun e => by rw [e], fun e => Flags.inj e⟩
 · exact ⟨fun e => by rw [e], fun e => Msg.inj e⟩
 · exact ⟨fun e => by rw [e], fun e => Port.inj e⟩
 · exact ⟨fun e => by rw [e], fun e => Sent.inj e⟩
 · exact ⟨fun e => by rw [e], fun e => Conf.inj e⟩
 · exact ⟨fun e => by rw [e], fun e => Todo.inj e⟩
def Vec.dflt : Vec := ⟨0, 0, 0, 0, 0⟩
def Times.dflt : Times := ⟨0, 0, 0, 0⟩
def Clocks.dflt : Clocks := ⟨0, 0, 0, 0, 0, 0, 0, 0, 0⟩
def States.dflt : States := ⟨0, 0, 0, 0, 0, 0, 0⟩
def Flags.dflt : Flags := ⟨false, false, false, false, false, false, false, false, false, false, false, false, false, false, false, false, false, false, false, false, false, false, false, false, false, false, false, false, false⟩
def Msg.dflt : Msg := ⟨0, false, false, false, false, false, false, 0, Vec.dflt, Times.dflt⟩
def Port.dflt : Port := ⟨0, 0, false, false, false, false, Clocks.dflt, States.dflt, Flags.dflt, Msg.dflt, Vec.dflt, Vec.dflt, Times.dflt, Times.dflt, 0, 0, 0⟩
def Sent.dflt : Sent := ⟨0, Msg.dflt⟩
def Conf.dflt : Conf := ⟨0, 0, false, false, false⟩
def Todo.dflt : Todo := ⟨0, 0, false, Msg.dflt⟩
inductive Rows where
 | int (k : IntKind) (l : List Int)
 | bool (l : List Bool)
 | vec (l : List Vec)
 | times (l : List Times)
 | clocks (l : List Clocks)
 | states (l : List States)
 | flags (l : List Flags)
 | msg (l : List Msg)
 | port (l : List Port)
 | sent (l : List Sent)
 | conf (l : List Conf)
 | todo (l : List Todo)
def Rows.z : Rows → Nat
 | .int _ _ => 1
 | .bool _ => 1
 | .vec _ => 5
 | .times _ => 4
 | .clocks _ => 9
 | .states _ => 7
 | .flags _ => 29
 | .msg _ => 17
 | .port _ => 89
 | .sent _ => 18
 | .conf _ => 5
 | .todo _ => 20
def Rows.len : Rows → Nat
 | .int _ l => l.length
 | .bool l => l.length
 | .vec l => l.length
 | .times l => l.length
 | .clocks l => l.length
 | .states l => l.length
 | .flags l => l.length
 | .msg l => l.length
 | .port l => l.length
 | .sent l => l.length
 | .conf l => l.length
 | .todo l => l.length
def Rows.rv : Rows → Nat → RV
 | .int k l, i => .val (.int k (l.getD i 0))
 | .bool l, i => .val (.bool (l.getD i false))
 | .vec l, i => .rcd (.vec (l.getD i Vec.dflt))
 | .times l, i => .rcd (.times (l.getD i Times.dflt))
 | .clocks l, i => .rcd (.clocks (l.getD i Clocks.dflt))
 | .states l, i => .rcd (.states (l.getD i States.dflt))
 | .flags l, i => .rcd (.flags (l.getD i Flags.dflt))
 | .msg l, i => .rcd (.msg (l.getD i Msg.dflt))
 | .port l, i => .rcd (.port (l.getD i Port.dflt))
 | .sent l, i => .rcd (.sent (l.getD i Sent.dflt))
 | .conf l, i => .rcd (.conf (l.getD i Conf.dflt))
 | .todo l, i => .rcd (.todo (l.getD i Todo.dflt))
def Rows.cells : Rows → List Value
 | .int k l => l.flatMap fun x => [.int k x]
 | .bool l => l.flatMap fun x => [.bool x]
 | .vec l => l.flatMap Vec.cells
 | .times l => l.flatMap Times.cells
 | .clocks l => l.flatMap Clocks.cells
 | .states l => l.flatMap States.cells
 | .flags l => l.flatMap Flags.cells
 | .msg l => l.flatMap Msg.cells
 | .port l => l.flatMap Port.cells
 | .sent l => l.flatMap Sent.cells
 | .conf l => l.flatMap Conf.cells
 | .todo l => l.flatMap Todo.cells
def Rows.setAt : Rows → Nat → RV → Option Rows
 | .int k l, i, .val (.int k' n) => bif k == k' then some (.int k (l.set i n)) else none
 | .bool l, i, .val (.bool b) => some (.bool (l.set i b))
 | .vec l, i, .rcd (.vec x) => some (.vec (l.set i x))
 | .times l, i, .rcd (.times x) => some (.times (l.set i x))
 | .clocks l, i, .rcd (.clocks x) => some (.clocks (l.set i x))
 | .states l, i, .rcd (.states x) => some (.states (l.set i x))
 | .flags l, i, .rcd (.flags x) => some (.flags (l.set i x))
 | .msg l, i, .rcd (.msg x) => some (.msg (l.set i x))
 | .port l, i, .rcd (.port x) => some (.port (l.set i x))
 | .sent l, i, .rcd (.sent x) => some (.sent (l.set i x))
 | .conf l, i, .rcd (.conf x) => some (.conf (l.set i x))
 | .todo l, i, .rcd (.todo x) => some (.todo (l.set i x))
 | _, _, _ => none
section
variable {α : Type} {f : α → List Value} {z : Nat}
theorem rows_len (hf : ∀ a, (f a).length = z) : ∀ l : List α, (l.flatMap f).length = l.length * z
 | [] => by simp
 | a :: r => by rw [List.flatMap_cons, List.length_append, rows_len hf r, hf a, List.length_cons, Nat.add_mul]; omega
theorem rows_get (hf : ∀ a, (f a).length = z) (d : α) : ∀ (l : List α) (i : Nat), i < l.length → ((l.flatMap f).drop (i * z)).take z = f (l.getD i d)
 | a :: r, 0, _ => by
   rw [List.flatMap_cons, Nat.zero_mul, List.drop_zero, ← hf a, List.take_left']; rfl; rfl
 | a :: r, i + 1, h => by
   rw [List.flatMap_cons, show (i + 1) * z = (f a).length + i * z from by rw [hf a, Nat.add_mul]; omega, List.drop_append, List.drop_of_length_le (by omega), List.nil_append, Nat.add_sub_cancel_left]
   exact rows_get hf d r i (by simpa using h)
theorem rows_set (hf : ∀ a, (f a).length = z) (x : α) : ∀ (l : List α) (i : Nat), i < l.length → (l.set i x).flatMap f = splice (l.flatMap f) (i * z) (f x)
 | a :: r, 0, _ => by
   unfold splice
   rw [List.set_cons_zero, List.flatMap_cons, List.flatMap_cons, Nat.zero_mul, List.take_zero, Nat.zero_add, hf x, ← hf a, List.drop_left']; rfl; rfl
 | a :: r, i + 1, h => by
   rw [List.set_cons_succ, List.flatMap_cons, List.flatMap_cons, rows_set hf x r i (by simpa using h), show (i + 1) * z = (f a).length + i * z from by rw [hf a, Nat.add_mul]; omega]
   have hl := rows_len hf r
   have hi : i + 1 ≤ r.length := Nat.succ_le_of_lt (Nat.lt_of_succ_lt_succ (by simpa using h))
   have := splice_in (f a) (r.flatMap f) [] (f x) (i * z) (by rw [hl, hf x]; calc i * z + z = (i + 1) * z := by rw [Nat.add_mul]; omega
                                                                                        _ ≤ r.length * z := Nat.mul_le_mul_right z hi)
   simpa using this.symm
end
theorem Rows.zpos (R : Rows) : 0 < R.z := by cases R <;> simp [Rows.z]
theorem Rows.length (R : Rows) : R.cells.length = R.len * R.z := by
 cases R with
 | int k l => exact rows_len (f := (fun x : Int => [Value.int k x])) (z := 1) (fun _ => rfl) l
 | bool l => exact rows_len (f := (fun x : Bool => [Value.bool x])) (z := 1) (fun _ => rfl) l
 | vec l => exact rows_len (f := Vec.cells) (z := 5) (fun _ => rfl) l
 | times l => exact rows_len (f := Times.cells) (z := 4) (fun _ => rfl) l
 | clocks l => exact rows_len (f := Clocks.cells) (z := 9) (fun _ => rfl) l
 | states l => exact rows_len (f := States.cells) (z := 7) (fun _ => rfl) l
 | flags l => exact rows_len (f := Flags.cells) (z := 29) (fun _ => rfl) l
 | msg l => exact rows_len (f := Msg.cells) (z := 17) (fun _ => rfl) l
 | port l => exact rows_len (f := Port.cells) (z := 89) (fun _ => rfl) l
 | sent l => exact rows_len (f := Sent.cells) (z := 18) (fun _ => rfl) l
 | conf l => exact rows_len (f := Conf.cells) (z := 5) (fun _ => rfl) l
 | todo l => exact rows_len (f := Todo.cells) (z := 20) (fun _ => rfl) l
theorem Rows.rv_size (R : Rows) (i : Nat) : (R.rv i).cells.length = R.z := by
 cases R <;> rfl
theorem Rows.get_ok (R : Rows) {i : Nat} (h : i < R.len) : (R.rv i).cells = (R.cells.drop (i * R.z)).take R.z := by
 cases R with
 | int k l => exact (rows_get (f := (fun x : Int => [Value.int k x])) (z := 1) (fun _ => rfl) (0 : Int) l i h).symm
 | bool l => exact (rows_get (f := (fun x : Bool => [Value.bool x])) (z := 1) (fun _ => rfl) false l i h).symm
 | vec l => exact (rows_get (f := Vec.cells) (z := 5) (fun _ => rfl) Vec.dflt l i h).symm
 | times l => exact (rows_get (f := Times.cells) (z := 4) (fun _ => rfl) Times.dflt l i h).symm
 | clocks l => exact (rows_get (f := Clocks.cells) (z := 9) (fun _ => rfl) Clocks.dflt l i h).symm
 | states l => exact (rows_get (f := States.cells) (z := 7) (fun _ => rfl) States.dflt l i h).symm
 | flags l => exact (rows_get (f := Flags.cells) (z := 29) (fun _ => rfl) Flags.dflt l i h).symm
 | msg l => exact (rows_get (f := Msg.cells) (z := 17) (fun _ => rfl) Msg.dflt l i h).symm
 | port l => exact (rows_get (f := Port.cells) (z := 89) (fun _ => rfl) Port.dflt l i h).symm
 | sent l => exact (rows_get (f := Sent.cells) (z := 18) (fun _ => rfl) Sent.dflt l i h).symm
 | conf l => exact (rows_get (f := Conf.cells) (z := 5) (fun _ => rfl) Conf.dflt l i h).symm
 | todo l => exact (rows_get (f := Todo.cells) (z := 20) (fun _ => rfl) Todo.dflt l i h).symm
theorem Rows.plain (R : Rows) : ∀ v ∈ R.cells, plainV v = true := by
 cases R <;> intro v hv <;> simp only [Rows.cells, List.mem_flatMap] at hv <;> obtain ⟨a, _, hv⟩ := hv
 · rw [List.mem_singleton.1 hv]; rfl
 · rw [List.mem_singleton.1 hv]; rfl
 · exact Rec.plain (.vec a) v hv
 · exact Rec.plain (.times a) v hv
 · exact Rec.plain (.clocks a) v hv
 · exact Rec.plain (.states a) v hv
 · exact Rec.plain (.flags a) v hv
 · exact Rec.plain (.msg a) v hv
 · exact Rec.plain (.port a) v hv
 · exact Rec.plain (.sent a) v hv
 · exact Rec.plain (.conf a) v hv
 · exact Rec.plain (.todo a) v hv
theorem Rows.setAt_ok {R Q : Rows} {i : Nat} {v : RV} (h : R.setAt i v = some Q) : (i < R.len → Q.cells = splice R.cells (i * R.z) v.cells) ∧ Q.len = R.len ∧ Q.z = R.z ∧ v.cells.length = R.z := by
 unfold Rows.setAt at h
 split at h
 · rename_i k l k' n
   cases hk : (k == k') with
   | false => rw [hk] at h; cases h
   | true =>
     rw [hk] at h
     simp only [cond_true, Option.some.injEq] at h
     subst h
     have := beq_iff_eq.1 hk; subst this
     exact ⟨fun hi => rows_set (f := fun x => [Value.int k x]) (fun _ => rfl) _ _ _ hi, by simp [Rows.len], rfl, rfl⟩
 · injection h with h; subst h
   exact ⟨fun hi => rows_set (f := fun x => [Value.bool x]) (fun _ => rfl) _ _ _ hi, by simp [Rows.len], rfl, rfl⟩
 · injection h with h; subst h
   exact ⟨fun hi => rows_set (f := Vec.cells) (fun _ => rfl) _ _ _ hi, by simp [Rows.len], rfl, rfl⟩
 · injection h with h; subst h
   exact ⟨fun hi => rows_set (f := Times.cells) (fun _ => rfl) _ _ _ hi, by simp [Rows.len], rfl, rfl⟩
 · injection h with h; subst h
   exact ⟨fun hi => rows_set (f := Clocks.cells) (fun _ => rfl) _ _ _ hi, by simp [Rows.len], rfl, rfl⟩
 · injection h with h; subst h
   exact ⟨fun hi => rows_set (f := States.cells) (fun _ => rfl) _ _ _ hi, by simp [Rows.len], rfl, rfl⟩
 · injection h with h; subst h
   exact ⟨fun hi => rows_set (f := Flags.cells) (fun _ => rfl) _ _ _ hi, by simp [Rows.len], rfl, rfl⟩
 · injection h with h; subst h
   exact ⟨fun hi => rows_set (f := Msg.cells) (fun _ => rfl) _ _ _ hi, by simp [Rows.len], rfl, rfl⟩
 · injection h with h; subst h
   exact ⟨fun hi => rows_set (f := Port.cells) (fun _ => rfl) _ _ _ hi, by simp [Rows.len], rfl, rfl⟩
 · injection h with h; subst h
   exact ⟨fun hi => rows_set (f := Sent.cells) (fun _ => rfl) _ _ _ hi, by simp [Rows.len], rfl, rfl⟩
 · injection h with h; subst h
   exact ⟨fun hi => rows_set (f := Conf.cells) (fun _ => rfl) _ _ _ hi, by simp [Rows.len], rfl, rfl⟩
 · injection h with h; subst h
   exact ⟨fun hi => rows_set (f := Todo.cells) (fun _ => rfl) _ _ _ hi, by simp [Rows.len], rfl, rfl⟩
 · cases h
def Rows.glue : Rows → RV → Rows → Option Rows
 | .int k a, .val (.int k' n), .int k'' b => bif k == k' && k == k'' then some (.int k (a ++ n :: b)) else none
 | .bool a, .val (.bool x), .bool b => some (.bool (a ++ x :: b))
 | .vec a, .rcd (.vec x), .vec b => some (.vec (a ++ x :: b))
 | .times a, .rcd (.times x), .times b => some (.times (a ++ x :: b))
 | .clocks a, .rcd (.clocks x), .clocks b => some (.clocks (a ++ x :: b))
 | .states a, .rcd (.states x), .states b => some (.states (a ++ x :: b))
 | .flags a, .rcd (.flags x), .flags b => some (.flags (a ++ x :: b))
 | .msg a, .rcd (.msg x), .msg b => some (.msg (a ++ x :: b))
 | .port a, .rcd (.port x), .port b => some (.port (a ++ x :: b))
 | .sent a, .rcd (.sent x), .sent b => some (.sent (a ++ x :: b))
 | .conf a, .rcd (.conf x), .conf b => some (.conf (a ++ x :: b))
 | .todo a, .rcd (.todo x), .todo b => some (.todo (a ++ x :: b))
 | _, _, _ => none
theorem Rows.glue_ok {a b R : Rows} {v : RV} (h : a.glue v b = some R) : R.cells = a.cells ++ (v.cells ++ b.cells) := by
 unfold Rows.glue at h
 split at h
 · rename_i k a k' n k'' b
   cases hk : (k == k' && k == k'') with
   | false => rw [hk] at h; cases h
   | true =>
     rw [hk] at h
     simp only [cond_true, Option.some.injEq] at h
     simp only [Bool.and_eq_true, beq_iff_eq] at hk
     obtain ⟨rfl, rfl⟩ := hk
     subst h
     exact List.flatMap_append
 all_goals first | (injection h with h; subst h; exact List.flatMap_append) | cases h
section
variable {α : Type}
def getK : List (Int × Nat × α) → Int → α → α
 | [], _, d => d
 | e :: r, n, d => if e.1 = n then e.2.2 else getK r n d
def hasK : List (Int × Nat × α) → Int → Bool
 | [], _ => false
 | e :: r, n => if e.1 = n then true else hasK r n
def putK : List (Int × Nat × α) → Int → Nat → α → List (Int × Nat × α)
 | [], n, c, x => [(n, c, x)]
 | e :: r, n, c, x => if e.1 = n then (n, e.2.1, x) :: r else e :: putK r n c x
def delK : List (Int × Nat × α) → Int → List (Int × Nat × α)
 | [], _ => []
 | e :: r, n => if e.1 = n then r else e :: delK r n
def tickK (l : List (Int × Nat × α)) (n : Int) (c : Nat) : Nat := bif hasK l n then c else c + 1
def entK (k : IntKind) (cells : α → List Value) (e : Int × Nat × α) : Value := .tuple #[.int k e.1, .agg (cells e.2.2).toArray, .int .i64 e.2.1]
end
inductive Tab where
 | vec (k : IntKind) (c : Nat) (l : List (Int × Nat × Vec))
 | times (k : IntKind) (c : Nat) (l : List (Int × Nat × Times))
 | clocks (k : IntKind) (c : Nat) (l : List (Int × Nat × Clocks))
 | states (k : IntKind) (c : Nat) (l : List (Int × Nat × States))
 | flags (k : IntKind) (c : Nat) (l : List (Int × Nat × Flags))
 | msg (k : IntKind) (c : Nat) (l : List (Int × Nat × Msg))
 | port (k : IntKind) (c : Nat) (l : List (Int × Nat × Port))
 | sent (k : IntKind) (c : Nat) (l : List (Int × Nat × Sent))
 | conf (k : IntKind) (c : Nat) (l : List (Int × Nat × Conf))
 | todo (k : IntKind) (c : Nat) (l : List (Int × Nat × Todo))
def Tab.kk : Tab → IntKind
 | .vec k _ _ => k
 | .times k _ _ => k
 | .clocks k _ _ => k
 | .states k _ _ => k
 | .flags k _ _ => k
 | .msg k _ _ => k
 | .port k _ _ => k
 | .sent k _ _ => k
 | .conf k _ _ => k
 | .todo k _ _ => k
def Tab.clk : Tab → Nat
 | .vec _ c _ => c
 | .times _ c _ => c
 | .clocks _ c _ => c
 | .states _ c _ => c
 | .flags _ c _ => c
 | .msg _ c _ => c
 | .port _ c _ => c
 | .sent _ c _ => c
 | .conf _ c _ => c
 | .todo _ c _ => c
def Tab.len : Tab → Nat
 | .vec _ _ l => l.length
 | .times _ _ l => l.length
 | .clocks _ _ l => l.length
 | .states _ _ l => l.length
 | .flags _ _ l => l.length
 | .msg _ _ l => l.length
 | .port _ _ l => l.length
 | .sent _ _ l => l.length
 | .conf _ _ l => l.length
 | .todo _ _ l => l.length
def Tab.ents : Tab → List Value
 | .vec k _ l => l.map (entK k Vec.cells)
 | .times k _ l => l.map (entK k Times.cells)
 | .clocks k _ l => l.map (entK k Clocks.cells)
 | .states k _ l => l.map (entK k States.cells)
 | .flags k _ l => l.map (entK k Flags.cells)
 | .msg k _ l => l.map (entK k Msg.cells)
 | .port k _ l => l.map (entK k Port.cells)
 | .sent k _ l => l.map (entK k Sent.cells)
 | .conf k _ l => l.map (entK k Conf.cells)
 | .todo k _ l => l.map (entK k Todo.cells)
def Tab.has : Tab → Int → Bool
 | .vec _ _ l, n => hasK l n
 | .times _ _ l, n => hasK l n
 | .clocks _ _ l, n => hasK l n
 | .states _ _ l, n => hasK l n
 | .flags _ _ l, n => hasK l n
 | .msg _ _ l, n => hasK l n
 | .port _ _ l, n => hasK l n
 | .sent _ _ l, n => hasK l n
 | .conf _ _ l, n => hasK l n
 | .todo _ _ l, n => hasK l n
def Tab.get : Tab → Int → Rec → Option Rec
 | .vec _ _ l, n, .vec z => some (.vec (getK l n z))
 | .times _ _ l, n, .times z => some (.times (getK l n z))
 | .clocks _ _ l, n, .clocks z => some (.clocks (getK l n z))
 | .states _ _ l, n, .states z => some (.states (getK l n z))
 | .flags _ _ l, n, .flags z => some (.flags (getK l n z))
 | .msg _ _ l, n, .msg z => some (.msg (getK l n z))
 | .port _ _ l, n, .port z => some (.port (getK l n z))
 | .sent _ _ l, n, .sent z => some (.sent (getK l n z))
 | .conf _ _ l, n, .conf z => some (.conf (getK l n z))
 | .todo _ _ l, n, .todo z => some (.todo (getK l n z))
 | _, _, _ => none
def Tab.put : Tab → Int → Rec → Option Tab
 | .vec k c l, n, .vec x => some (.vec k (tickK l n c) (putK l n c x))
 | .times k c l, n, .times x => some (.times k (tickK l n c) (putK l n c x))
 | .clocks k c l, n, .clocks x => some (.clocks k (tickK l n c) (putK l n c x))
 | .states k c l, n, .states x => some (.states k (tickK l n c) (putK l n c x))
 | .flags k c l, n, .flags x => some (.flags k (tickK l n c) (putK l n c x))
 | .msg k c l, n, .msg x => some (.msg k (tickK l n c) (putK l n c x))
 | .port k c l, n, .port x => some (.port k (tickK l n c) (putK l n c x))
 | .sent k c l, n, .sent x => some (.sent k (tickK l n c) (putK l n c x))
 | .conf k c l, n, .conf x => some (.conf k (tickK l n c) (putK l n c x))
 | .todo k c l, n, .todo x => some (.todo k (tickK l n c) (putK l n c x))
 | _, _, _ => none
def Tab.del : Tab → Int → Tab
 | .vec k c l, n => .vec k c (delK l n)
 | .times k c l, n => .times k c (delK l n)
 | .clocks k c l, n => .clocks k c (delK l n)
 | .states k c l, n => .states k c (delK l n)
 | .flags k c l, n => .flags k c (delK l n)
 | .msg k c l, n => .msg k c (delK l n)
 | .port k c l, n => .port k c (delK l n)
 | .sent k c l, n => .sent k c (delK l n)
 | .conf k c l, n => .conf k c (delK l n)
 | .todo k c l, n => .todo k c (delK l n)
def Tab.none : IntKind → Rec → Tab
 | k, .vec _ => .vec k 0 []
 | k, .times _ => .times k 0 []
 | k, .clocks _ => .clocks k 0 []
 | k, .states _ => .states k 0 []
 | k, .flags _ => .flags k 0 []
 | k, .msg _ => .msg k 0 []
 | k, .port _ => .port k 0 []
 | k, .sent _ => .sent k 0 []
 | k, .conf _ => .conf k 0 []
 | k, .todo _ => .todo k 0 []
def Tab.all (T : Tab) : List Value := .int .i64 T.clk :: T.ents
theorem Tab.one (T : Tab) : ∃ (α : Type) (cells : α → List Value) (mk : α → Rec) (l : List (Int × Nat × α)), T.ents = l.map (entK T.kk cells) ∧ (∀ a, (mk a).cells = cells a) ∧ (∀ n, T.has n = hasK l n) ∧ T.len = l.length ∧
   (∀ n z r, T.get n z = some r → ∃ z', z = mk z' ∧ r = mk (getK l n z')) ∧ (∀ n x Q, T.put n x = some Q → ∃ x', x = mk x' ∧ Q.ents = (putK l n T.clk x').map (entK T.kk cells) ∧ Q.kk = T.kk ∧ Q.clk = tickK l n T.clk) ∧ (∀ n, (T.del n).ents = (delK l n).map (entK T.kk cells) ∧ (T.del n).kk = T.kk ∧ (T.del n).clk = T.clk) := by
 cases T with
 | vec k c l =>
   refine ⟨Vec, Vec.cells, .vec, l, rfl, fun _ => rfl, fun _ => rfl, rfl, fun n z r h => ?_, fun n x Q h => ?_, fun _ => ⟨rfl, rfl, rfl⟩⟩
   · cases z <;> simp only [Tab.get, Option.some.injEq, reduceCtorEq] at h
     exact ⟨_, rfl, h.symm⟩
   · cases x <;> simp only [Tab.put, Option.some.injEq, reduceCtorEq] at h
     subst h
     exact ⟨_, rfl, rfl, rfl, rfl⟩
 | times k c l =>
   refine ⟨Times, Times.cells, .times, l, rfl, fun _ => rfl, fun _ => rfl, rfl, fun n z r h => ?_, fun n x Q h => ?_, fun _ => ⟨rfl, rfl, rfl⟩⟩
   · cases z <;> simp only [Tab.get, Option.some.injEq, reduceCtorEq] at h
     exact ⟨_, rfl, h.symm⟩
   · cases x <;> simp only [Tab.put, Option.some.injEq, reduceCtorEq] at h
     subst h
     exact ⟨_, rfl, rfl, rfl, rfl⟩
 | clocks k c l =>
   refine ⟨Clocks, Clocks.cells, .clocks, l, rfl, fun _ => rfl, fun _ => rfl, rfl, fun n z r h => ?_, fun n x Q h => ?_, fun _ => ⟨rfl, rfl, rfl⟩⟩
   · cases z <;> simp only [Tab.get, Option.some.injEq, reduceCtorEq] at h
     exact ⟨_, rfl, h.symm⟩
   · cases x <;> simp only [Tab.put, Option.some.injEq, reduceCtorEq] at h
     subst h
     exact ⟨_, rfl, rfl, rfl, rfl⟩
 | states k c l =>
   refine ⟨States, States.cells, .states, l, rfl, fun _ => rfl, fun _ => rfl, rfl, fun n z r h => ?_, fun n x Q h => ?_, fun _ => ⟨rfl, rfl, rfl⟩⟩
   · cases z <;> simp only [Tab.get, Option.some.injEq, reduceCtorEq] at h
     exact ⟨_, rfl, h.symm⟩
   · cases x <;> simp only [Tab.put, Option.some.injEq, reduceCtorEq] at h
     subst h
     exact ⟨_, rfl, rfl, rfl, rfl⟩
 | flags k c l =>
   refine ⟨Flags, Flags.cells, .flags, l, rfl, fun _ => rfl, fun _ => rfl, rfl, fun n z r h => ?_, fun n x Q h => ?_, fun _ => ⟨rfl, rfl, rfl⟩⟩
   · cases z <;> simp only [Tab.get, Option.some.injEq, reduceCtorEq] at h
     exact ⟨_, rfl, h.symm⟩
   · cases x <;> simp only [Tab.put, Option.some.injEq, reduceCtorEq] at h
     subst h
     exact ⟨_, rfl, rfl, rfl, rfl⟩
 | msg k c l =>
   refine ⟨Msg, Msg.cells, .msg, l, rfl, fun _ => rfl, fun _ => rfl, rfl, fun n z r h => ?_, fun n x Q h => ?_, fun _ => ⟨rfl, rfl, rfl⟩⟩
   · cases z <;> simp only [Tab.get, Option.some.injEq, reduceCtorEq] at h
     exact ⟨_, rfl, h.symm⟩
   · cases x <;> simp only [Tab.put, Option.some.injEq, reduceCtorEq] at h
     subst h
     exact ⟨_, rfl, rfl, rfl, rfl⟩
 | port k c l =>
   refine ⟨Port, Port.cells, .port, l, rfl, fun _ => rfl, fun _ => rfl, rfl, fun n z r h => ?_, fun n x Q h => ?_, fun _ => ⟨rfl, rfl, rfl⟩⟩
   · cases z <;> simp only [Tab.get, Option.some.injEq, reduceCtorEq] at h
     exact ⟨_, rfl, h.symm⟩
   · cases x <;> simp only [Tab.put, Option.some.injEq, reduceCtorEq] at h
     subst h
     exact ⟨_, rfl, rfl, rfl, rfl⟩
 | sent k c l =>
   refine ⟨Sent, Sent.cells, .sent, l, rfl, fun _ => rfl, fun _ => rfl, rfl, fun n z r h => ?_, fun n x Q h => ?_, fun _ => ⟨rfl, rfl, rfl⟩⟩
   · cases z <;> simp only [Tab.get, Option.some.injEq, reduceCtorEq] at h
     exact ⟨_, rfl, h.symm⟩
   · cases x <;> simp only [Tab.put, Option.some.injEq, reduceCtorEq] at h
     subst h
     exact ⟨_, rfl, rfl, rfl, rfl⟩
 | conf k c l =>
   refine ⟨Conf, Conf.cells, .conf, l, rfl, fun _ => rfl, fun _ => rfl, rfl, fun n z r h => ?_, fun n x Q h => ?_, fun _ => ⟨rfl, rfl, rfl⟩⟩
   · cases z <;> simp only [Tab.get, Option.some.injEq, reduceCtorEq] at h
     exact ⟨_, rfl, h.symm⟩
   · cases x <;> simp only [Tab.put, Option.some.injEq, reduceCtorEq] at h
     subst h
     exact ⟨_, rfl, rfl, rfl, rfl⟩
 | todo k c l =>
   refine ⟨Todo, Todo.cells, .todo, l, rfl, fun _ => rfl, fun _ => rfl, rfl, fun n z r h => ?_, fun n x Q h => ?_, fun _ => ⟨rfl, rfl, rfl⟩⟩
   · cases z <;> simp only [Tab.get, Option.some.injEq, reduceCtorEq] at h
     exact ⟨_, rfl, h.symm⟩
   · cases x <;> simp only [Tab.put, Option.some.injEq, reduceCtorEq] at h
     subst h
     exact ⟨_, rfl, rfl, rfl, rfl⟩
end Go.Proofs.YtjemfkoamfnofaaGreat
