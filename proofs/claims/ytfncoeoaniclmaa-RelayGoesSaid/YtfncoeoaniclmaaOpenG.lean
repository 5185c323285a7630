/- Bridges that came in: their rows. (printed by genopen2.py) -/
import Derived.Test.YtfncoeoaniclmaaOpenL
import Derived.Test.YtfncoeoaniclmaaBrg
set_option linter.unusedVariables false
set_option maxRecDepth 100000
namespace Go.Proofs.Ytfncoeoaniclmaa
open Go.ChangeShapes Go.WideShapes Go.ChangeAt Go.RowKit

section
variable {H : Type} {enc : TypeId × Value → H} {w : World} {base : Nat} {spare : Nat → Bool} {held : Bool}
theorem open_port {vs : List Value} (h : ∃ fuel y, DataW.trod enc Try.prog w base spare held fuel 77 vs = some y) (hl : vs.length = 89) : ∃ x : Port, vs = x.cells ∧ True := by
  have h0 := flat_ok 9 (ks := [.int .u16, .int .u32, .bool, .bool, .bool, .bool, .int .i64, .int .i64, .int .i64, .int .i64, .int .i64, .int .i64, .int .i64, .int .i64, .int .i64, .int .i64, .int .i64, .int .i64, .int .i64, .int .i64, .int .i64, .int .i64, .bool, .bool, .bool, .bool, .bool, .bool, .bool, .bool, .bool, .bool, .bool, .bool, .bool, .bool, .bool, .bool, .bool, .bool, .bool, .bool, .bool, .bool, .bool, .bool, .bool, .bool, .bool, .bool, .bool, .int .i64, .bool, .bool, .bool, .bool, .bool, .bool, .int .i64, .int .u64, .int .u32, .int .u64, .int .u16, .int .u16, .int .i64, .int .i64, .int .i64, .int .i64, .int .u64, .int .u32, .int .u64, .int .u16, .int .u16, .int .u64, .int .u32, .int .u64, .int .u16, .int .u16, .int .i64, .int .i64, .int .i64, .int .i64, .int .i64, .int .i64, .int .i64, .int .i64, .int .i64, .int .i64, .int .i64]) (t := 77) (by kernel_rfl) h (by rw [hl]; kernel_rfl)
  obtain ⟨n0, r0, w0, rfl, h1⟩ := fits_i h0; clear h0
  obtain ⟨n1, r1, w1, rfl, h2⟩ := fits_i h1; clear h1
  obtain ⟨n2, r2, rfl, h3⟩ := fits_b h2; clear h2
  obtain ⟨n3, r3, rfl, h4⟩ := fits_b h3; clear h3
  obtain ⟨n4, r4, rfl, h5⟩ := fits_b h4; clear h4
  obtain ⟨n5, r5, rfl, h6⟩ := fits_b h5; clear h5
  obtain ⟨n6, r6, w6, rfl, h7⟩ := fits_i h6; clear h6
  obtain ⟨n7, r7, w7, rfl, h8⟩ := fits_i h7; clear h7
  obtain ⟨n8, r8, w8, rfl, h9⟩ := fits_i h8; clear h8
  obtain ⟨n9, r9, w9, rfl, h10⟩ := fits_i h9; clear h9
  obtain ⟨n10, r10, w10, rfl, h11⟩ := fits_i h10; clear h10
  obtain ⟨n11, r11, w11, rfl, h12⟩ := fits_i h11; clear h11
  obtain ⟨n12, r12, w12, rfl, h13⟩ := fits_i h12; clear h12
  obtain ⟨n13, r13, w13, rfl, h14⟩ := fits_i h13; clear h13
  obtain ⟨n14, r14, w14, rfl, h15⟩ := fits_i h14; clear h14
  obtain ⟨n15, r15, w15, rfl, h16⟩ := fits_i h15; clear h15
  obtain ⟨n16, r16, w16, rfl, h17⟩ := fits_i h16; clear h16
  obtain ⟨n17, r17, w17, rfl, h18⟩ := fits_i h17; clear h17
  obtain ⟨n18, r18, w18, rfl, h19⟩ := fits_i h18; clear h18
  obtain ⟨n19, r19, w19, rfl, h20⟩ := fits_i h19; clear h19
  obtain ⟨n20, r20, w20, rfl, h21⟩ := fits_i h20; clear h20
  obtain ⟨n21, r21, w21, rfl, h22⟩ := fits_i h21; clear h21
  obtain ⟨n22, r22, rfl, h23⟩ := fits_b h22; clear h22
  obtain ⟨n23, r23, rfl, h24⟩ := fits_b h23; clear h23
  obtain ⟨n24, r24, rfl, h25⟩ := fits_b h24; clear h24
  obtain ⟨n25, r25, rfl, h26⟩ := fits_b h25; clear h25
  obtain ⟨n26, r26, rfl, h27⟩ := fits_b h26; clear h26
  obtain ⟨n27, r27, rfl, h28⟩ := fits_b h27; clear h27
  obtain ⟨n28, r28, rfl, h29⟩ := fits_b h28; clear h28
  obtain ⟨n29, r29, rfl, h30⟩ := fits_b h29; clear h29
  obtain ⟨n30, r30, rfl, h31⟩ := fits_b h30; clear h30
  obtain ⟨n31, r31, rfl, h32⟩ := fits_b h31; clear h31
  obtain ⟨n32, r32, rfl, h33⟩ := fits_b h32; clear h32
  obtain ⟨n33, r33, rfl, h34⟩ := fits_b h33; clear h33
  obtain ⟨n34, r34, rfl, h35⟩ := fits_b h34; clear h34
  obtain ⟨n35, r35, rfl, h36⟩ := fits_b h35; clear h35
  obtain ⟨n36, r36, rfl, h37⟩ := fits_b h36; clear h36
  obtain ⟨n37, r37, rfl, h38⟩ := fits_b h37; clear h37
  obtain ⟨n38, r38, rfl, h39⟩ := fits_b h38; clear h38
  obtain ⟨n39, r39, rfl, h40⟩ := fits_b h39; clear h39
  obtain ⟨n40, r40, rfl, h41⟩ := fits_b h40; clear h40
  obtain ⟨n41, r41, rfl, h42⟩ := fits_b h41; clear h41
  obtain ⟨n42, r42, rfl, h43⟩ := fits_b h42; clear h42
  obtain ⟨n43, r43, rfl, h44⟩ := fits_b h43; clear h43
  obtain ⟨n44, r44, rfl, h45⟩ := fits_b h44; clear h44
  obtain ⟨n45, r45, rfl, h46⟩ := fits_b h45; clear h45
  obtain ⟨n46, r46, rfl, h47⟩ := fits_b h46; clear h46
  obtain ⟨n47, r47, rfl, h48⟩ := fits_b h47; clear h47
  obtain ⟨n48, r48, rfl, h49⟩ := fits_b h48; clear h48
  obtain ⟨n49, r49, rfl, h50⟩ := fits_b h49; clear h49
  obtain ⟨n50, r50, rfl, h51⟩ := fits_b h50; clear h50
  obtain ⟨n51, r51, w51, rfl, h52⟩ := fits_i h51; clear h51
  obtain ⟨n52, r52, rfl, h53⟩ := fits_b h52; clear h52
  obtain ⟨n53, r53, rfl, h54⟩ := fits_b h53; clear h53
  obtain ⟨n54, r54, rfl, h55⟩ := fits_b h54; clear h54
  obtain ⟨n55, r55, rfl, h56⟩ := fits_b h55; clear h55
  obtain ⟨n56, r56, rfl, h57⟩ := fits_b h56; clear h56
  obtain ⟨n57, r57, rfl, h58⟩ := fits_b h57; clear h57
  obtain ⟨n58, r58, w58, rfl, h59⟩ := fits_i h58; clear h58
  obtain ⟨n59, r59, w59, rfl, h60⟩ := fits_i h59; clear h59
  obtain ⟨n60, r60, w60, rfl, h61⟩ := fits_i h60; clear h60
  obtain ⟨n61, r61, w61, rfl, h62⟩ := fits_i h61; clear h61
  obtain ⟨n62, r62, w62, rfl, h63⟩ := fits_i h62; clear h62
  obtain ⟨n63, r63, w63, rfl, h64⟩ := fits_i h63; clear h63
  obtain ⟨n64, r64, w64, rfl, h65⟩ := fits_i h64; clear h64
  obtain ⟨n65, r65, w65, rfl, h66⟩ := fits_i h65; clear h65
  obtain ⟨n66, r66, w66, rfl, h67⟩ := fits_i h66; clear h66
  obtain ⟨n67, r67, w67, rfl, h68⟩ := fits_i h67; clear h67
  obtain ⟨n68, r68, w68, rfl, h69⟩ := fits_i h68; clear h68
  obtain ⟨n69, r69, w69, rfl, h70⟩ := fits_i h69; clear h69
  obtain ⟨n70, r70, w70, rfl, h71⟩ := fits_i h70; clear h70
  obtain ⟨n71, r71, w71, rfl, h72⟩ := fits_i h71; clear h71
  obtain ⟨n72, r72, w72, rfl, h73⟩ := fits_i h72; clear h72
  obtain ⟨n73, r73, w73, rfl, h74⟩ := fits_i h73; clear h73
  obtain ⟨n74, r74, w74, rfl, h75⟩ := fits_i h74; clear h74
  obtain ⟨n75, r75, w75, rfl, h76⟩ := fits_i h75; clear h75
  obtain ⟨n76, r76, w76, rfl, h77⟩ := fits_i h76; clear h76
  obtain ⟨n77, r77, w77, rfl, h78⟩ := fits_i h77; clear h77
  obtain ⟨n78, r78, w78, rfl, h79⟩ := fits_i h78; clear h78
  obtain ⟨n79, r79, w79, rfl, h80⟩ := fits_i h79; clear h79
  obtain ⟨n80, r80, w80, rfl, h81⟩ := fits_i h80; clear h80
  obtain ⟨n81, r81, w81, rfl, h82⟩ := fits_i h81; clear h81
  obtain ⟨n82, r82, w82, rfl, h83⟩ := fits_i h82; clear h82
  obtain ⟨n83, r83, w83, rfl, h84⟩ := fits_i h83; clear h83
  obtain ⟨n84, r84, w84, rfl, h85⟩ := fits_i h84; clear h84
  obtain ⟨n85, r85, w85, rfl, h86⟩ := fits_i h85; clear h85
  obtain ⟨n86, r86, w86, rfl, h87⟩ := fits_i h86; clear h86
  obtain ⟨n87, r87, w87, rfl, h88⟩ := fits_i h87; clear h87
  obtain ⟨n88, r88, w88, rfl, h89⟩ := fits_i h88; clear h88
  obtain rfl := fits_0 h89
  exact ⟨{ id := n0, cost := n1, enabled := n2, shared := n3, admin := n4, auto := n5, clocks := { edgeDelay := n6, fd := n7, hello := n8, mdelay := n9, rb := n10, rcvdInfo := n11, rr := n12, tc := n13, txCount := n14 }, states := { rx := n15, mig := n16, edge := n17, info := n18, trans := n19, pass := n20, topo := n21 }, flags := { agree := n22, agreed := n23, disputed := n24, flush := n25, forward := n26, forwarding := n27, learn := n28, learning := n29, mcheck := n30, newInfo := n31, operEdge := n32, proposed := n33, proposing := n34, rcvdBpdu := n35, rcvdMsg := n36, rcvdRst := n37, rcvdStp := n38, rcvdTc := n39, rcvdTcAck := n40, rcvdTcn := n41, reRoot := n42, reselect := n43, selected := n44, sendRst := n45, sync := n46, synced := n47, tcAck := n48, tcProp := n49, updtInfo := n50 }, msg := { kind := n51, change := n52, ack := n53, proposal := n54, agreement := n55, learning := n56, forwarding := n57, role := n58, vec := { root := n59, cost := n60, bridge := n61, port := n62, rx := n63 }, times := { age := n64, max := n65, hello := n66, delay := n67 } }, vec := { root := n68, cost := n69, bridge := n70, port := n71, rx := n72 }, designated := { root := n73, cost := n74, bridge := n75, port := n76, rx := n77 }, times := { age := n78, max := n79, hello := n80, delay := n81 }, desTimes := { age := n82, max := n83, hello := n84, delay := n85 }, is_ := n86, role := n87, selected := n88 }, rfl, trivial⟩
theorem open_sent {vs : List Value} (h : ∃ fuel y, DataW.trod enc Try.prog w base spare held fuel 115 vs = some y) (hl : vs.length = 18) : ∃ x : Sent, vs = x.cells ∧ True := by
  have h0 := flat_ok 9 (ks := [.int .i64, .int .i64, .bool, .bool, .bool, .bool, .bool, .bool, .int .i64, .int .u64, .int .u32, .int .u64, .int .u16, .int .u16, .int .i64, .int .i64, .int .i64, .int .i64]) (t := 115) (by kernel_rfl) h (by rw [hl]; kernel_rfl)
  obtain ⟨n0, r0, w0, rfl, h1⟩ := fits_i h0; clear h0
  obtain ⟨n1, r1, w1, rfl, h2⟩ := fits_i h1; clear h1
  obtain ⟨n2, r2, rfl, h3⟩ := fits_b h2; clear h2
  obtain ⟨n3, r3, rfl, h4⟩ := fits_b h3; clear h3
  obtain ⟨n4, r4, rfl, h5⟩ := fits_b h4; clear h4
  obtain ⟨n5, r5, rfl, h6⟩ := fits_b h5; clear h5
  obtain ⟨n6, r6, rfl, h7⟩ := fits_b h6; clear h6
  obtain ⟨n7, r7, rfl, h8⟩ := fits_b h7; clear h7
  obtain ⟨n8, r8, w8, rfl, h9⟩ := fits_i h8; clear h8
  obtain ⟨n9, r9, w9, rfl, h10⟩ := fits_i h9; clear h9
  obtain ⟨n10, r10, w10, rfl, h11⟩ := fits_i h10; clear h10
  obtain ⟨n11, r11, w11, rfl, h12⟩ := fits_i h11; clear h11
  obtain ⟨n12, r12, w12, rfl, h13⟩ := fits_i h12; clear h12
  obtain ⟨n13, r13, w13, rfl, h14⟩ := fits_i h13; clear h13
  obtain ⟨n14, r14, w14, rfl, h15⟩ := fits_i h14; clear h14
  obtain ⟨n15, r15, w15, rfl, h16⟩ := fits_i h15; clear h15
  obtain ⟨n16, r16, w16, rfl, h17⟩ := fits_i h16; clear h16
  obtain ⟨n17, r17, w17, rfl, h18⟩ := fits_i h17; clear h17
  obtain rfl := fits_0 h18
  exact ⟨{ port := n0, msg := { kind := n1, change := n2, ack := n3, proposal := n4, agreement := n5, learning := n6, forwarding := n7, role := n8, vec := { root := n9, cost := n10, bridge := n11, port := n12, rx := n13 }, times := { age := n14, max := n15, hello := n16, delay := n17 } } }, rfl, trivial⟩
theorem open_frame {vs : List Value} (h : ∃ fuel y, DataW.trod enc Try.prog w base spare held fuel 66 vs = some y) (hl : vs.length = 3) : ∃ x : Frame, vs = x.cells ∧ 0 ≤ x.src ∧ x.src < 18446744073709551616 ∧ 0 ≤ x.dst ∧ x.dst < 18446744073709551616 := by
  have h0 := flat_ok 9 (ks := [.int .i64, .int .u64, .int .u64]) (t := 66) (by kernel_rfl) h (by rw [hl]; kernel_rfl)
  obtain ⟨n0, r0, w0, rfl, h1⟩ := fits_i h0; clear h0
  obtain ⟨n1, r1, w1, rfl, h2⟩ := fits_i h1; clear h1
  obtain ⟨n2, r2, w2, rfl, h3⟩ := fits_i h2; clear h2
  obtain rfl := fits_0 h3
  exact ⟨{ in_ := n0, src := n1, dst := n2 }, rfl, ⟨(range_u64 w1).1, (range_u64 w1).2, (range_u64 w2).1, (range_u64 w2).2⟩⟩
theorem open_frameA {w' : World} {v : Value} {d : DataW H} {p : List MemPlace}
    (hok : ∃ b, Value.okWide Try.prog w' .any b 66 v) (h : DataW.Trod enc Try.prog w base spare held 66 v d p) : ∃ x : Frame, v = .agg x.cells.toArray ∧ 0 ≤ x.src ∧ x.src < 18446744073709551616 ∧ 0 ≤ x.dst ∧ x.dst < 18446744073709551616 := by
  obtain ⟨cs, rfl, h0⟩ := open_flat (n := 9) (ks := [.int .i64, .int .u64, .int .u64]) Try.underlying66 (by kernel_rfl) hok h
  obtain ⟨l⟩ := cs
  simp only [List.toList_toArray] at h0
  obtain ⟨n0, r0, w0, rfl, h1⟩ := fits_i h0; clear h0
  obtain ⟨n1, r1, w1, rfl, h2⟩ := fits_i h1; clear h1
  obtain ⟨n2, r2, w2, rfl, h3⟩ := fits_i h2; clear h2
  obtain rfl := fits_0 h3
  exact ⟨{ in_ := n0, src := n1, dst := n2 }, rfl, ⟨(range_u64 w1).1, (range_u64 w1).2, (range_u64 w2).1, (range_u64 w2).2⟩⟩
end

open Go.ChangeShapes Go.WideShapes Go.ChangeAt Go.RowKit

structure InP where
  b : Bri
  ps : List Port
  os : List Sent
  fs : List Int
def InP.arg (q : InP) : SV := q.b.sv (.slr 0 q.ps.length 0 false) (.slr 1 q.os.length 1 false) (.slr 2 q.fs.length 2 false)
def InP.heap (q : InP) (r : Heap) : Heap := (0, .rows (.port q.ps)) :: (1, .rows (.sent q.os)) :: (2, .rows (.int .i64 q.fs)) :: r
/-- chunks that are only read -/
theorem hs_ro {S : Stat} {i : Int} {n : Nat} {E : Env} {H : Heap} {w : World} (h : ∀ k x, H.get k = some x → k < n ∧ x.foOk (S.rd i n) ∧ (0 < x.size → At w (E.ad k) (x.cells (S.rd i n) E))) : HS (S.rd i n) E H w := by
  have hro : ∀ k x, H.get k = some x → (S.rd i n).ro k = true := by
    intro k x hk
    show Nat.blt k n = true
    rw [Nat.blt_eq]; exact (h k x hk).1
  refine ⟨fun k x hk hp => (h k x hk).2.2 hp, fun k x hk hp _ hr => ?_, fun k k' x x' _ hk _ _ _ hr => ?_, fun k x hk => (h k x hk).2.1⟩
  · rw [hro k x hk] at hr; cases hr
  · rw [hro k x hk] at hr; cases hr
theorem Bri.sv_cells (S : Stat) (E : Env) (b : Bri) (p o f : SV) : (b.sv p o f).cells S E = .int .u64 b.id :: .bool b.rst :: (b.times.cells ++ .int .i64 b.hold :: (b.root.cells ++ .int .i64 b.rootPort :: (b.rootT.cells ++ (p.cells S E ++ (o.cells S E ++ f.cells S E))))) := by
  simp [Bri.sv, SV.cells, SV.cellss, Rec.cells]
section
variable {H : Type} {enc : TypeId × Value → H} {w w' : World} {base : Nat} {spare : Nat → Bool} {held : Bool}
theorem open_bri {v : Value} {d : DataW H} {p : List MemPlace} (hok : ∃ b, Value.okWide Try.prog w' .any b 62 v) (h : DataW.Trod enc Try.prog w base spare held 62 v d p) :
    ∃ (q : InP) (a0 a1 a2 : Addr) (c0 c1 c2 : Nat × Bool), q.ps.length ≤ maxLen ∧ q.os.length ≤ maxLen ∧ q.fs.length ≤ maxLen ∧
      (∀ (S : Stat) (E : Env), E.ad 0 = a0 → E.ad 1 = a1 → E.ad 2 = a2 → E.cp 0 = c0 → E.cp 1 = c1 → E.cp 2 = c2 → q.arg.den S E = v) ∧
      (0 < q.ps.length → At w a0 (q.ps.flatMap Port.cells)) ∧ (0 < q.os.length → At w a1 (q.os.flatMap Sent.cells)) ∧ (0 < q.fs.length → At w a2 (q.fs.flatMap fun n : Int => [Value.int .i64 n])) := by
  obtain ⟨cs, rfl, hf⟩ := open_flat (n := 9) (ks := [.int .u64, .bool, .int .i64, .int .i64, .int .i64, .int .i64, .int .i64, .int .u64, .int .u32, .int .u64, .int .u16, .int .u16, .int .i64, .int .i64, .int .i64, .int .i64, .int .i64, .any, .any, .any]) Try.underlying62 (by kernel_rfl) hok h
  obtain ⟨cs⟩ := cs
  obtain ⟨b, hok⟩ := hok
  unfold Value.okWide at hok
  rw [Try.underlying62] at hok
  obtain ⟨cs', he, hsz, ts, hts, _, hcell⟩ := hok
  injection he with he
  subst he
  obtain ⟨fuel, hx⟩ := h
  simp only [List.toList_toArray] at hf
  obtain ⟨n0, r0, w0, rfl, h0⟩ := fits_i hf
  obtain ⟨n1, r1, rfl, h1⟩ := fits_b h0
  obtain ⟨n2, r2, w2, rfl, h2⟩ := fits_i h1
  obtain ⟨n3, r3, w3, rfl, h3⟩ := fits_i h2
  obtain ⟨n4, r4, w4, rfl, h4⟩ := fits_i h3
  obtain ⟨n5, r5, w5, rfl, h5⟩ := fits_i h4
  obtain ⟨n6, r6, w6, rfl, h6⟩ := fits_i h5
  obtain ⟨n7, r7, w7, rfl, h7⟩ := fits_i h6
  obtain ⟨n8, r8, w8, rfl, h8⟩ := fits_i h7
  obtain ⟨n9, r9, w9, rfl, h9⟩ := fits_i h8
  obtain ⟨n10, r10, w10, rfl, h10⟩ := fits_i h9
  obtain ⟨n11, r11, w11, rfl, h11⟩ := fits_i h10
  obtain ⟨n12, r12, w12, rfl, h12⟩ := fits_i h11
  obtain ⟨n13, r13, w13, rfl, h13⟩ := fits_i h12
  obtain ⟨n14, r14, w14, rfl, h14⟩ := fits_i h13
  obtain ⟨n15, r15, w15, rfl, h15⟩ := fits_i h14
  obtain ⟨n16, r16, w16, rfl, h16⟩ := fits_i h15
  obtain ⟨v17, r17, rfl, h17⟩ := fits_a h16
  obtain ⟨v18, r18, rfl, h18⟩ := fits_a h17
  obtain ⟨v19, r19, rfl, h19⟩ := fits_a h18
  obtain rfl := fits_0 h19
  have hts' : Try.prog.cellTypes Try.prog.depth 62 = some [28, 4, 3, 3, 3, 3, 3, 28, 54, 28, 55, 55, 3, 3, 3, 3, 3, 58, 59, 60] := by kernel_rfl
  rw [hts] at hts'
  injection hts' with hts'
  subst hts'
  have k17 : Cell.okWide Try.prog w' .any b 58 v17 := by obtain ⟨u, e, hk⟩ := hcell 17 v17 rfl; injection e with e; subst e; exact hk
  have k18 : Cell.okWide Try.prog w' .any b 59 v18 := by obtain ⟨u, e, hk⟩ := hcell 18 v18 rfl; injection e with e; subst e; exact hk
  have k19 : Cell.okWide Try.prog w' .any b 60 v19 := by obtain ⟨u, e, hk⟩ := hcell 19 v19 rfl; injection e with e; subst e; exact hk
  cases fuel with
  | zero => simp [DataW.trod] at hx
  | succ fuel =>
    have hm := trod_struct_inv Try.underlying62 (by kernel_rfl) hx
    have c38 : Try.prog.cellsOf 58 = 1 := by kernel_rfl
    have c39 : Try.prog.cellsOf 59 = 1 := by kernel_rfl
    have c40 : Try.prog.cellsOf 60 = 1 := by kernel_rfl
    have g17 := hm _ (List.mem_of_getElem? (i := 7) rfl)
    have g18 := hm _ (List.mem_of_getElem? (i := 8) rfl)
    have g19 := hm _ (List.mem_of_getElem? (i := 9) rfl)
    simp only [c38] at g17
    simp only [c39] at g18
    simp only [c40] at g19
    obtain ⟨ps, a0, c0, wf0, m0, e0, at0⟩ := open_rows (cells := Port.cells) (wf := fun _ => True) (z := 89) Try.underlying58 (by kernel_rfl) (by decide) (fun _ => rfl) (fun x v hv => plainV.one ((Rec.port x).plain v hv)) (fun vs h hl => open_port h hl) ⟨b, k17⟩ ⟨fuel, g17⟩
    obtain ⟨os, a1, c1, wf1, m1, e1, at1⟩ := open_rows (cells := Sent.cells) (wf := fun _ => True) (z := 18) Try.underlying59 (by kernel_rfl) (by decide) (fun _ => rfl) (fun x v hv => plainV.one ((Rec.sent x).plain v hv)) (fun vs h hl => open_sent h hl) ⟨b, k18⟩ ⟨fuel, g18⟩
    obtain ⟨fs, a2, c2, wf2, m2, e2, at2⟩ := open_rows (cells := fun n : Int => [Value.int .i64 n]) (wf := fun _ => True) (z := 1) Try.underlying60 (by kernel_rfl) (by decide) (fun _ => rfl) (fun x v hv => by rw [List.mem_singleton.1 hv]; rfl) (fun vs h hl => by
      have h0 := flat_ok 2 (ks := [.int .i64]) (t := 3) (by kernel_rfl) h (by rw [hl]; kernel_rfl)
      obtain ⟨n, r, w, rfl, h1⟩ := fits_i h0
      obtain rfl := fits_0 h1
      exact ⟨n, rfl, trivial⟩) ⟨b, k19⟩ ⟨fuel, g19⟩
    refine ⟨⟨⟨n0, n1, ⟨n2, n3, n4, n5⟩, n6, ⟨n7, n8, n9, n10, n11⟩, n12, ⟨n13, n14, n15, n16⟩⟩, ps, os, fs⟩, a0, a1, a2, c0, c1, c2, m0, m1, m2, fun S E ea0 ea1 ea2 ec0 ec1 ec2 => ?_, at0, at1, at2⟩
    show (Bri.sv _ _ _ _).den S E = _
    rw [show ∀ (b : Bri) p o f, b.sv p o f = SV.agg [.v (.int .u64 b.id), .v (.bool b.rst), .rcd (.times b.times), .v (.int .i64 b.hold), .rcd (.vec b.root), .v (.int .i64 b.rootPort), .rcd (.times b.rootT), p, o, f] from fun _ _ _ _ => rfl, SV.den_agg S _ _ rfl,
      show ∀ (b : Bri) p o f, SV.agg [.v (.int .u64 b.id), .v (.bool b.rst), .rcd (.times b.times), .v (.int .i64 b.hold), .rcd (.vec b.root), .v (.int .i64 b.rootPort), .rcd (.times b.rootT), p, o, f] = b.sv p o f from fun _ _ _ _ => rfl, Bri.sv_cells, e0 E 0 S ea0 ec0, e1 E 1 S ea1 ec1, e2 E 2 S ea2 ec2]
    rfl
/-- frames that came in -/
theorem open_frames {v : Value} {d : DataW H} {p : List MemPlace} (hok : ∃ b, Value.okWide Try.prog w' .any b 63 v) (h : DataW.Trod enc Try.prog w base spare held 63 v d p) :
    ∃ (L : List Frame) (a : Addr) (c : Nat × Bool), (∀ x ∈ L, 0 ≤ x.src ∧ x.src < 18446744073709551616 ∧ 0 ≤ x.dst ∧ x.dst < 18446744073709551616) ∧ L.length ≤ maxLen ∧ (∀ (E : Env) (k : Nat) (S : Stat), E.ad k = a → E.cp k = c → (SV.slr k L.length k false).den S E = v) ∧ (0 < L.length → At w a (L.flatMap Frame.cells)) := by
  obtain ⟨L, a, c, h1, h2, h3, h4⟩ := open_slice (cells := Frame.cells) (wf := fun x : Frame => 0 ≤ x.src ∧ x.src < 18446744073709551616 ∧ 0 ≤ x.dst ∧ x.dst < 18446744073709551616) (z := 3) Try.underlying63 (by kernel_rfl) (by decide) (fun _ => rfl) (fun x v hv => plainV.one ((Rec.frame x).plain v hv)) (fun vs h hl => open_frame h hl) hok h
  exact ⟨L, a, c, h1, h2, fun E k S hk hc => (h3 E k S hk hc).1, h4⟩
end
/-- what came in: a bridge, and a list -/
def fourE (a0 a1 a2 a3 : Addr) (c0 c1 c2 c3 : Nat × Bool) : Env := ⟨fun k => match k with | 0 => a0 | 1 => a1 | 2 => a2 | _ => a3, fun k => match k with | 0 => c0 | 1 => c1 | 2 => c2 | _ => c3⟩
theorem pos_len {α : Type} {l : List α} {R : Rows} (hR : R.len = l.length) (h : 0 < (SV.rows R).size) : 0 < l.length := by
  rcases Nat.eq_zero_or_pos l.length with h0 | h0
  · simp [SV.size, hR, h0] at h
  · exact h0
theorem hs_bri {S : Stat} {q : InP} {a0 a1 a2 a3 : Addr} {c0 c1 c2 c3 : Nat × Bool} {w : World} (h0 : 0 < q.ps.length → At w a0 (q.ps.flatMap Port.cells)) (h1 : 0 < q.os.length → At w a1 (q.os.flatMap Sent.cells)) (h2 : 0 < q.fs.length → At w a2 (q.fs.flatMap fun n : Int => [Value.int .i64 n])) :
    HS (S.rd 0 3) (fourE a0 a1 a2 a3 c0 c1 c2 c3) (q.heap []) w := by
  refine hs_ro fun k x hk => ?_
  unfold InP.heap at hk
  rw [Heap.get_cons, Heap.get_cons, Heap.get_cons] at hk
  split at hk
  · injection hk with hk; subst hk; subst_vars
    exact ⟨by omega, trivial, fun hp => h0 (pos_len rfl hp)⟩
  · split at hk
    · injection hk with hk; subst hk; subst_vars
      exact ⟨by omega, trivial, fun hp => h1 (pos_len rfl hp)⟩
    · split at hk
      · injection hk with hk; subst hk; subst_vars
        exact ⟨by omega, trivial, fun hp => h2 (pos_len rfl hp)⟩
      · cases hk
theorem hs_briF {S : Stat} {q : InP} {L : List Frame} {a0 a1 a2 a3 : Addr} {c0 c1 c2 c3 : Nat × Bool} {w : World} (h0 : 0 < q.ps.length → At w a0 (q.ps.flatMap Port.cells)) (h1 : 0 < q.os.length → At w a1 (q.os.flatMap Sent.cells)) (h2 : 0 < q.fs.length → At w a2 (q.fs.flatMap fun n : Int => [Value.int .i64 n])) (h3 : 0 < L.length → At w a3 (L.flatMap Frame.cells)) :
    HS (S.rd 0 4) (fourE a0 a1 a2 a3 c0 c1 c2 c3) (q.heap [(3, .rows (.frame L))]) w := by
  refine hs_ro fun k x hk => ?_
  unfold InP.heap at hk
  rw [Heap.get_cons, Heap.get_cons, Heap.get_cons, Heap.get_cons] at hk
  split at hk
  · injection hk with hk; subst hk; subst_vars
    exact ⟨by omega, trivial, fun hp => h0 (pos_len rfl hp)⟩
  · split at hk
    · injection hk with hk; subst hk; subst_vars
      exact ⟨by omega, trivial, fun hp => h1 (pos_len rfl hp)⟩
    · split at hk
      · injection hk with hk; subst hk; subst_vars
        exact ⟨by omega, trivial, fun hp => h2 (pos_len rfl hp)⟩
      · split at hk
        · injection hk with hk; subst hk; subst_vars
          exact ⟨by omega, trivial, fun hp => h3 (pos_len rfl hp)⟩
        · cases hk
end Go.Proofs.Ytfncoeoaniclmaa
