import Derived.Test.YtjemfkoamfnofaaGreatRow
set_option linter.unusedVariables false
set_option maxRecDepth 100000
namespace Go.Proofs.YtjemfkoamfnofaaGreat
section
open Go.ChangeShapes Go.WideShapes Go.ChangeAt Go.RowKit
def Vec.Wf (v : Vec) : Prop := (0 ≤ v.root ∧ v.root < 18446744073709551616) ∧ (0 ≤ v.cost ∧ v.cost < 4294967296) ∧ (0 ≤ v.bridge ∧ v.bridge < 18446744073709551616) ∧ (0 ≤ v.port ∧ v.port < 65536) ∧ (0 ≤ v.rx ∧ v.rx < 65536)
def Conf.Wf (c : Conf) : Prop := (0 ≤ c.id ∧ c.id < 65536) ∧ (0 ≤ c.cost ∧ c.cost < 4294967296)
def Todo.Wf (a : Todo) : Prop := (0 ≤ a.kind ∧ a.kind < 256) ∧ (0 ≤ a.port ∧ a.port < 256) ∧ a.msg.vec.Wf
theorem open_whole_bool {H : Type} {enc : TypeId × Value → H} {w : World} {base : Nat} {spare : Nat → Bool} {held : Bool} {t : TypeId} {v : Value} {d : DataW H} {p : List MemPlace}
   (hu : Tryz.prog.underlying t = some .bool) (hok : ∃ b, Value.okWide Tryz.prog w .any b t v) (h : DataW.Trod enc Tryz.prog w base spare held t v d p) : ∃ n, v = .bool n ∧ True := by
 obtain ⟨b, hok⟩ := hok
 obtain ⟨n, e, _⟩ := open_bool hu hok h
 exact ⟨n, e, trivial⟩
section
variable {H : Type} {enc : TypeId × Value → H} {w w' : World} {base : Nat} {spare : Nat → Bool} {held : Bool}
theorem open_rows {α : Type} {cells : α → List Value} {wf : α → Prop} {z : Nat} {e t : TypeId} (ht : Tryz.prog.underlying t = some (.slice e)) (hz : Tryz.prog.cellsOf e = z) (hz0 : 0 < z) (hc : ∀ x, (cells x).length = z) (hone : ∀ x, ∀ v ∈ cells x, v.oneCell' = true)
   (hp : ∀ vs, (∃ fuel y, DataW.trod enc Tryz.prog w base spare held fuel e vs = some y) → vs.length = z → ∃ x, vs = cells x ∧ wf x) {v : Value} (hok : ∃ b, Cell.okWide Tryz.prog w' .any b t v)
   (h : ∃ fuel y, DataW.trod enc Tryz.prog w base spare held fuel t [v] = some y) :
   ∃ (l : List α) (a : Addr) (c : Nat × Bool), (∀ x ∈ l, wf x) ∧ l.length ≤ maxLen ∧ (∀ (E : Env) (k : Nat) (S : Stat), E.ad k = a → E.cp k = c → (SV.slr k l.length k false).cells S E = [v]) ∧ (0 < l.length → At w a (l.flatMap cells)) := by
 obtain ⟨fuel, y, h⟩ := h
 rcases DataW.trod_slice ht h with ⟨hx, _⟩ | ⟨a, len, cap, elems, rest, n, _, hcs, _, hb, hl, hm, hlen, hel, _, _⟩
 · refine ⟨[], default, (0, true), fun x hx => by simp at hx, Nat.zero_le _, fun E k S h1 h2 => ?_, fun h => by simp at h⟩
   rw [hx]
   simp [SV.cells, h2]
 · obtain ⟨b, hok⟩ := hok
   simp only [List.cons.injEq, and_true] at hcs
   subst hcs
   have hs : a.spot = none := by
     unfold Cell.okWide at hok
     rw [ht] at hok
     unfold Cell.ok at hok
     rw [ht] at hok
     exact hok.2.2.2.1
   obtain ⟨l, hll, hP⟩ := list_of (P := fun i (x : α) => w.cells? base (a.add (i * z)) z = some (cells x) ∧ wf x) len (fun i hi => by
     have := hel i hi
     rw [hz] at this
     have hy : ∃ y, elems[i]? = some y := ⟨_, List.getElem?_eq_getElem (by omega)⟩
     obtain ⟨y, hy⟩ := hy
     rw [hy] at this
     simp only [Option.bind_eq_some_iff] at this
     obtain ⟨cs, h1, h2⟩ := this
     obtain ⟨x, rfl, hw⟩ := hp cs ⟨_, _, h2⟩ (World.cells?_some h1).2.1
     exact ⟨x, h1, hw⟩)
   refine ⟨l, a, (cap, false), fun x hx => ?_, by omega, fun E k S h1 h2 => ?_, fun h0 => ?_⟩
   · obtain ⟨i, hi⟩ := List.getElem?_of_mem hx
     exact (hP i x hi).2
   · have hmx : Nat.max len cap = cap := Nat.max_eq_right hl
     simp only [SV.cells, h2, Env.place, h1, Bool.false_and, cond_false, Nat.add_zero, hll, hmx]
     cases a; simp only at hs; rw [hs]
   · refine at_of_cells hs ?_ (fun k v hk => ?_) (fun v hv => by obtain ⟨x, _, hx⟩ := List.mem_flatMap.1 hv; exact hone x v hx)
     · obtain ⟨x, r, rfl⟩ : ∃ x r, l = x :: r := by cases l with | nil => simp at h0 | cons x r => exact ⟨x, r, rfl⟩
       rw [List.flatMap_cons, List.length_append, hc]
       omega
     · obtain ⟨i, j, x, h1, h2, h3, h4⟩ := flat_get hc l k v hk
       have := (World.cells?_some (hP i x h1).1).2.2 j h4
       rw [add_at hs, add_at rfl] at this
       rw [h2] at this
       rw [h3, ← Nat.add_assoc]
       exact this
theorem open_slice {α : Type} {cells : α → List Value} {wf : α → Prop} {z : Nat} {e t : TypeId} {d : DataW H} {p : List MemPlace} (ht : Tryz.prog.underlying t = some (.slice e)) (hz : Tryz.prog.cellsOf e = z) (hz0 : 0 < z) (hc : ∀ x, (cells x).length = z) (hone : ∀ x, ∀ v ∈ cells x, v.oneCell' = true)
   (hp : ∀ vs, (∃ fuel y, DataW.trod enc Tryz.prog w base spare held fuel e vs = some y) → vs.length = z → ∃ x, vs = cells x ∧ wf x) {v : Value} (hok : ∃ b, Value.okWide Tryz.prog w' .any b t v)
   (h : DataW.Trod enc Tryz.prog w base spare held t v d p) :
   ∃ (l : List α) (a : Addr) (c : Nat × Bool), (∀ x ∈ l, wf x) ∧ l.length ≤ maxLen ∧ (∀ (E : Env) (k : Nat) (S : Stat), E.ad k = a → E.cp k = c → (SV.slr k l.length k false).den S E = v ∧ (SV.slr k l.length k false).cells S E = [v]) ∧ (0 < l.length → At w a (l.flatMap cells)) := by
 obtain ⟨b, hok⟩ := hok
 have hok' : Cell.okWide Tryz.prog w' .any b t v := by unfold Value.okWide at hok; rw [ht] at hok; exact hok
 have hcell : v.cells.toList = [v] := by
   unfold Cell.okWide at hok'
   rw [ht] at hok'
   unfold Cell.ok at hok'
   rw [ht] at hok'
   cases v <;> first | rfl | exact hok'.elim
 obtain ⟨fuel, h⟩ := h
 rw [hcell] at h
 obtain ⟨l, a, c, h1, h2, h3, h4⟩ := open_rows ht hz hz0 hc hone hp ⟨b, hok'⟩ ⟨fuel, _, h⟩
 refine ⟨l, a, c, h1, h2, fun E k S hk hc => ⟨?_, h3 E k S hk hc⟩, h4⟩
 have := h3 E k S hk hc
 simp only [SV.cells] at this
 simp only [SV.den]
 exact List.head_eq_of_cons_eq this
end
end
section
open Go.ChangeShapes Go.WideShapes Go.ChangeAt Go.RowKit
section
variable {H : Type} {enc : TypeId × Value → H} {w : World} {base : Nat} {spare : Nat → Bool} {held : Bool}
theorem open_conf {vs : List Value} (h : ∃ fuel y, DataW.trod enc Tryz.prog w base spare held fuel 76 vs = some y) (hl : vs.length = 5) : ∃ x : Conf, vs = x.cells ∧ x.Wf := by
 have h0 := flat_ok 9 (ks := [.int .u16, .int .u32, .bool, .bool, .bool]) (t := 76) (by kernel_rfl) h (by rw [hl]; kernel_rfl)
 obtain ⟨n0, r0, w0, rfl, h1⟩ := fits_i h0; clear h0
 obtain ⟨n1, r1, w1, rfl, h2⟩ := fits_i h1; clear h1
 obtain ⟨n2, r2, rfl, h3⟩ := fits_b h2; clear h2
 obtain ⟨n3, r3, rfl, h4⟩ := fits_b h3; clear h3
 obtain ⟨n4, r4, rfl, h5⟩ := fits_b h4; clear h4
 obtain rfl := fits_0 h5
 exact ⟨{ id := n0, cost := n1, shared := n2, admin := n3, auto := n4 }, rfl, ⟨wf_u16 w0, wf_u32 w1⟩⟩
theorem open_todo {vs : List Value} (h : ∃ fuel y, DataW.trod enc Tryz.prog w base spare held fuel 48 vs = some y) (hl : vs.length = 20) : ∃ x : Todo, vs = x.cells ∧ x.Wf := by
 have h0 := flat_ok 9 (ks := [.int .u8, .int .u8, .bool, .int .i64, .bool, .bool, .bool, .bool, .bool, .bool, .int .i64, .int .u64, .int .u32, .int .u64, .int .u16, .int .u16, .int .i64, .int .i64, .int .i64, .int .i64]) (t := 48) (by kernel_rfl) h (by rw [hl]; kernel_rfl)
 obtain ⟨n0, r0, w0, rfl, h1⟩ := fits_i h0; clear h0
 obtain ⟨n1, r1, w1, rfl, h2⟩ := fits_i h1; clear h1
 obtain ⟨n2, r2, rfl, h3⟩ := fits_b h2; clear h2
 obtain ⟨n3, r3, w3, rfl, h4⟩ := fits_i h3; clear h3
 obtain ⟨n4, r4, rfl, h5⟩ := fits_b h4; clear h4
 obtain ⟨n5, r5, rfl, h6⟩ := fits_b h5; clear h5
 obtain ⟨n6, r6, rfl, h7⟩ := fits_b h6; clear h6
 obtain ⟨n7, r7, rfl, h8⟩ := fits_b h7; clear h7
 obtain ⟨n8, r8, rfl, h9⟩ := fits_b h8; clear h8
 obtain ⟨n9, r9, rfl, h10⟩ := fits_b h9; clear h9
 obtain ⟨n10, r10, w10, rfl, h11⟩ := fits_i h10; clear h10
 obtain ⟨n11, r11, w11, rfl, h12⟩ := fits_i h11; clear h11
 obtain ⟨n12, r12, w12, rfl, h13⟩ := fits_i h12; clear h12
 obtain ⟨n13, r13, w13, rfl, h14⟩ := fits_i h13; clear h13
 obtain ⟨n14, r14, w14, rfl, h15⟩ := fits_i h14; clear h14
 obtain ⟨n15, r15, w15, rfl, h16⟩ := fits_i h15; clear h15
 obtain ⟨n16, r16, w16, rfl, h17⟩ := fits_i h16; clear h16
 obtain ⟨n17, r17, w17, rfl, h18⟩ := fits_i h17; clear h17
 obtain ⟨n18, r18, w18, rfl, h19⟩ := fits_i h18; clear h18
 obtain ⟨n19, r19, w19, rfl, h20⟩ := fits_i h19; clear h19
 obtain rfl := fits_0 h20
 exact ⟨{ kind := n0, port := n1, on := n2, msg := { kind := n3, change := n4, ack := n5, proposal := n6, agreement := n7, learning := n8, forwarding := n9, role := n10, vec := { root := n11, cost := n12, bridge := n13, port := n14, rx := n15 }, times := { age := n16, max := n17, hello := n18, delay := n19 } } }, rfl, ⟨range_u8 w0, range_u8 w1, ⟨wf_u64 w11, wf_u32 w12, wf_u64 w13, wf_u16 w14, wf_u16 w15⟩⟩⟩
def CameIn (w : World) (v : Value) (n : Nat) (R : Rows) : Prop := ∃ (a : Addr) (c : Nat × Bool), (∀ (E : Env) (k : Nat) (S : Stat), E.ad k = a → E.cp k = c → (SV.slr k n k false).den S E = v) ∧ (0 < n → At w a R.cells)
theorem came_confs {w' : World} {v : Value} {d : DataW H} {p : List MemPlace} (hok : ∃ b, Value.okWide Tryz.prog w' .any b 25 v) (h : DataW.Trod enc Tryz.prog w base spare held 25 v d p) :
   ∃ L : List Conf, (∀ x ∈ L, x.Wf) ∧ L.length ≤ maxLen ∧ CameIn w v L.length (.conf L) := by
 obtain ⟨L, a, c, h1, h2, h3, h4⟩ := open_slice (cells := Conf.cells) (wf := Conf.Wf) (z := 5) Tryz.underlying25 (by kernel_rfl) (by decide) (fun _ => rfl) (fun x v hv => plainV.one ((Rec.conf x).plain v hv)) (fun vs h hl => open_conf h hl) hok h
 exact ⟨L, h1, h2, a, c, fun E k S ha hc => (h3 E k S ha hc).1, h4⟩
theorem came_todos {w' : World} {v : Value} {d : DataW H} {p : List MemPlace} (hok : ∃ b, Value.okWide Tryz.prog w' .any b 43 v) (h : DataW.Trod enc Tryz.prog w base spare held 43 v d p) :
   ∃ L : List Todo, (∀ x ∈ L, x.Wf) ∧ L.length ≤ maxLen ∧ CameIn w v L.length (.todo L) := by
 obtain ⟨L, a, c, h1, h2, h3, h4⟩ := open_slice (cells := Todo.cells) (wf := Todo.Wf) (z := 20) Tryz.underlying43 (by kernel_rfl) (by decide) (fun _ => rfl) (fun x v hv => plainV.one ((Rec.todo x).plain v hv)) (fun vs h hl => open_todo h hl) hok h
 exact ⟨L, h1, h2, a, c, fun E k S ha hc => (h3 E k S ha hc).1, h4⟩
end
def envOf (l : List (Addr × Nat × Bool)) : Env := ⟨fun k => (l.getD k (default, 0, false)).1, fun k => (l.getD k (default, 0, false)).2⟩
theorem hs_came2 {w : World} {v v' : Value} {n n' : Nat} {R R' : Rows} (h : CameIn w v n R) (h' : CameIn w v' n' R') (hn : R.len = n) (hn' : R'.len = n') : ∃ E : Env, ∀ S : Stat, (SV.slr 0 n 0 false).den S E = v ∧ (SV.slr 1 n' 1 false).den S E = v' ∧ HS (S.rd 0 2) E [(0, .rows R), (1, .rows R')] w := by
 obtain ⟨a, c, h1, h2⟩ := h
 obtain ⟨a', c', h1', h2'⟩ := h'
 refine ⟨envOf [(a, c), (a', c')], fun S => ⟨h1 _ 0 S rfl rfl, h1' _ 1 S rfl rfl, ?_⟩⟩
 have hk : ∀ k y, Heap.get [(0, SV.rows R), (1, .rows R')] k = some y → (k = 0 ∧ y = .rows R) ∨ (k = 1 ∧ y = .rows R') := by
   intro k y hk
   rw [Heap.get_cons, Heap.get_cons] at hk
   split at hk
   · rename_i h0; injection hk with hk; exact .inl ⟨h0, hk.symm⟩
   · split at hk
     · rename_i h0; injection hk with hk; exact .inr ⟨h0, hk.symm⟩
     · cases hk
 have pos : ∀ (R : Rows) (n : Nat), R.len = n → 0 < (SV.rows R).size → 0 < n := by
   intro R n hn hp
   have : 0 < R.z * R.len ∨ 0 < R.len * R.z := by simp only [SV.size] at hp; first | exact .inl hp | exact .inr hp
   rw [hn] at this
   rcases Nat.eq_zero_or_pos n with h0 | h0
   · rw [h0] at this; simp at this
   · exact h0
 refine ⟨fun k y h3 hp => ?_, fun k y h3 _ _ hr => ?_, fun k k' y y' _ h3 _ _ _ hr => ?_, fun k y h3 => ?_⟩
 · rcases hk k y h3 with ⟨rfl, rfl⟩ | ⟨rfl, rfl⟩
   · exact h2 (pos R n hn hp)
   · exact h2' (pos R' n' hn' hp)
 · rcases hk k y h3 with ⟨rfl, rfl⟩ | ⟨rfl, rfl⟩ <;> cases hr
 · rcases hk k y h3 with ⟨rfl, rfl⟩ | ⟨rfl, rfl⟩ <;> cases hr
 · rcases hk k y h3 with ⟨rfl, rfl⟩ | ⟨rfl, rfl⟩ <;> trivial
end
end Go.Proofs.YtjemfkoamfnofaaGreat
