/- Bridges that came in. (printed by genopen.py) -/
import Derived.Test.YthhdfidenigcaaaOpen
import Derived.Test.YthhdfidenigcaaaSelQ
set_option linter.unusedVariables false
set_option maxRecDepth 100000
namespace Go.Proofs.Ythhdfidenigcaaa
open Go.ChangeShapes Go.WideShapes Go.ChangeAt Go.RowKit

theorem fits_i {k : IntKind} {ks : List CK} {vs : List Value} (h : Fits (.int k :: ks) vs) : ∃ n r, (Lit.int k n).wf = true ∧ vs = .int k n :: r ∧ Fits ks r := by
  cases vs with
  | nil => exact h.elim
  | cons v vs => obtain ⟨⟨n, rfl, hw⟩, h⟩ := h; exact ⟨n, vs, hw, rfl, h⟩
theorem fits_b {ks : List CK} {vs : List Value} (h : Fits (.bool :: ks) vs) : ∃ b r, vs = .bool b :: r ∧ Fits ks r := by
  cases vs with
  | nil => exact h.elim
  | cons v vs => obtain ⟨⟨b, rfl⟩, h⟩ := h; exact ⟨b, vs, rfl, h⟩
theorem fits_a {ks : List CK} {vs : List Value} (h : Fits (.any :: ks) vs) : ∃ v r, vs = v :: r ∧ Fits ks r := by
  cases vs with
  | nil => exact h.elim
  | cons v vs => exact ⟨v, vs, rfl, h.2⟩
theorem fits_0 {vs : List Value} (h : Fits [] vs) : vs = [] := by
  cases vs with
  | nil => rfl
  | cons v vs => exact h.elim
section
variable {H : Type} {enc : TypeId × Value → H} {w : World} {base : Nat} {spare : Nat → Bool} {held : Bool}
theorem open_port {vs : List Value} (h : ∃ fuel y, DataW.trod enc Try.prog w base spare held fuel 59 vs = some y) (hl : vs.length = 89) : ∃ x : Port, vs = x.cells ∧ x.Wf := by
  have h0 := flat_ok 9 (ks := [.int .u16, .int .u32, .bool, .bool, .bool, .bool, .int .i64, .int .i64, .int .i64, .int .i64, .int .i64, .int .i64, .int .i64, .int .i64, .int .i64, .int .i64, .int .i64, .int .i64, .int .i64, .int .i64, .int .i64, .int .i64, .bool, .bool, .bool, .bool, .bool, .bool, .bool, .bool, .bool, .bool, .bool, .bool, .bool, .bool, .bool, .bool, .bool, .bool, .bool, .bool, .bool, .bool, .bool, .bool, .bool, .bool, .bool, .bool, .bool, .int .i64, .bool, .bool, .bool, .bool, .bool, .bool, .int .i64, .int .u64, .int .u32, .int .u64, .int .u16, .int .u16, .int .i64, .int .i64, .int .i64, .int .i64, .int .u64, .int .u32, .int .u64, .int .u16, .int .u16, .int .u64, .int .u32, .int .u64, .int .u16, .int .u16, .int .i64, .int .i64, .int .i64, .int .i64, .int .i64, .int .i64, .int .i64, .int .i64, .int .i64, .int .i64, .int .i64]) (t := 59) (by kernel_rfl) h (by rw [hl]; kernel_rfl)
  obtain ⟨n0, r0, w0, rfl, h1⟩ := fits_i h0; clear h0
  obtain ⟨n1, r1, w1, rfl, h2⟩ := fits_i h1; clear h1
  obtain ⟨n2, r2, rfl, h3⟩ := fits_b h2; clear h2
  obtain ⟨n3, r3, rfl, h4⟩ := fits_b h3; clear h3
  obtain ⟨n4, r4, rfl, h5⟩ := fits_b h4; clear h4
  obtain ⟨n5, r5, rfl, h6⟩ := fits_b h5; clear h5
  obtain ⟨n6, r6, w6, rfl, h7⟩ := fits_i h6; clear h6
  obtain ⟨n7, r7, w7, rfl, h8⟩ := fits_i h7; clear h7
  obtain ⟨n8, r8, w8, rfl, h9⟩ := fits_i h8; clear h8
  obtain ⟨n9, r9, w9, rfl, h10⟩ := fits_i h9; clear h9
  obtain ⟨n10, r10, w10, rfl, h11⟩ := fits_i h10; clear h10
  obtain ⟨n11, r11, w11, rfl, h12⟩ := fits_i h11; clear h11
  obtain ⟨n12, r12, w12, rfl, h13⟩ := fits_i h12; clear h12
  obtain ⟨n13, r13, w13, rfl, h14⟩ := fits_i h13; clear h13
  obtain ⟨n14, r14, w14, rfl, h15⟩ := fits_i h14; clear h14
  obtain ⟨n15, r15, w15, rfl, h16⟩ := fits_i h15; clear h15
  obtain ⟨n16, r16, w16, rfl, h17⟩ := fits_i h16; clear h16
  obtain ⟨n17, r17, w17, rfl, h18⟩ := fits_i h17; clear h17
  obtain ⟨n18, r18, w18, rfl, h19⟩ := fits_i h18; clear h18
  obtain ⟨n19, r19, w19, rfl, h20⟩ := fits_i h19; clear h19
  obtain ⟨n20, r20, w20, rfl, h21⟩ := fits_i h20; clear h20
  obtain ⟨n21, r21, w21, rfl, h22⟩ := fits_i h21; clear h21
  obtain ⟨n22, r22, rfl, h23⟩ := fits_b h22; clear h22
  obtain ⟨n23, r23, rfl, h24⟩ := fits_b h23; clear h23
  obtain ⟨n24, r24, rfl, h25⟩ := fits_b h24; clear h24
  obtain ⟨n25, r25, rfl, h26⟩ := fits_b h25; clear h25
  obtain ⟨n26, r26, rfl, h27⟩ := fits_b h26; clear h26
  obtain ⟨n27, r27, rfl, h28⟩ := fits_b h27; clear h27
  obtain ⟨n28, r28, rfl, h29⟩ := fits_b h28; clear h28
  obtain ⟨n29, r29, rfl, h30⟩ := fits_b h29; clear h29
  obtain ⟨n30, r30, rfl, h31⟩ := fits_b h30; clear h30
  obtain ⟨n31, r31, rfl, h32⟩ := fits_b h31; clear h31
  obtain ⟨n32, r32, rfl, h33⟩ := fits_b h32; clear h32
  obtain ⟨n33, r33, rfl, h34⟩ := fits_b h33; clear h33
  obtain ⟨n34, r34, rfl, h35⟩ := fits_b h34; clear h34
  obtain ⟨n35, r35, rfl, h36⟩ := fits_b h35; clear h35
  obtain ⟨n36, r36, rfl, h37⟩ := fits_b h36; clear h36
  obtain ⟨n37, r37, rfl, h38⟩ := fits_b h37; clear h37
  obtain ⟨n38, r38, rfl, h39⟩ := fits_b h38; clear h38
  obtain ⟨n39, r39, rfl, h40⟩ := fits_b h39; clear h39
  obtain ⟨n40, r40, rfl, h41⟩ := fits_b h40; clear h40
  obtain ⟨n41, r41, rfl, h42⟩ := fits_b h41; clear h41
  obtain ⟨n42, r42, rfl, h43⟩ := fits_b h42; clear h42
  obtain ⟨n43, r43, rfl, h44⟩ := fits_b h43; clear h43
  obtain ⟨n44, r44, rfl, h45⟩ := fits_b h44; clear h44
  obtain ⟨n45, r45, rfl, h46⟩ := fits_b h45; clear h45
  obtain ⟨n46, r46, rfl, h47⟩ := fits_b h46; clear h46
  obtain ⟨n47, r47, rfl, h48⟩ := fits_b h47; clear h47
  obtain ⟨n48, r48, rfl, h49⟩ := fits_b h48; clear h48
  obtain ⟨n49, r49, rfl, h50⟩ := fits_b h49; clear h49
  obtain ⟨n50, r50, rfl, h51⟩ := fits_b h50; clear h50
  obtain ⟨n51, r51, w51, rfl, h52⟩ := fits_i h51; clear h51
  obtain ⟨n52, r52, rfl, h53⟩ := fits_b h52; clear h52
  obtain ⟨n53, r53, rfl, h54⟩ := fits_b h53; clear h53
  obtain ⟨n54, r54, rfl, h55⟩ := fits_b h54; clear h54
  obtain ⟨n55, r55, rfl, h56⟩ := fits_b h55; clear h55
  obtain ⟨n56, r56, rfl, h57⟩ := fits_b h56; clear h56
  obtain ⟨n57, r57, rfl, h58⟩ := fits_b h57; clear h57
  obtain ⟨n58, r58, w58, rfl, h59⟩ := fits_i h58; clear h58
  obtain ⟨n59, r59, w59, rfl, h60⟩ := fits_i h59; clear h59
  obtain ⟨n60, r60, w60, rfl, h61⟩ := fits_i h60; clear h60
  obtain ⟨n61, r61, w61, rfl, h62⟩ := fits_i h61; clear h61
  obtain ⟨n62, r62, w62, rfl, h63⟩ := fits_i h62; clear h62
  obtain ⟨n63, r63, w63, rfl, h64⟩ := fits_i h63; clear h63
  obtain ⟨n64, r64, w64, rfl, h65⟩ := fits_i h64; clear h64
  obtain ⟨n65, r65, w65, rfl, h66⟩ := fits_i h65; clear h65
  obtain ⟨n66, r66, w66, rfl, h67⟩ := fits_i h66; clear h66
  obtain ⟨n67, r67, w67, rfl, h68⟩ := fits_i h67; clear h67
  obtain ⟨n68, r68, w68, rfl, h69⟩ := fits_i h68; clear h68
  obtain ⟨n69, r69, w69, rfl, h70⟩ := fits_i h69; clear h69
  obtain ⟨n70, r70, w70, rfl, h71⟩ := fits_i h70; clear h70
  obtain ⟨n71, r71, w71, rfl, h72⟩ := fits_i h71; clear h71
  obtain ⟨n72, r72, w72, rfl, h73⟩ := fits_i h72; clear h72
  obtain ⟨n73, r73, w73, rfl, h74⟩ := fits_i h73; clear h73
  obtain ⟨n74, r74, w74, rfl, h75⟩ := fits_i h74; clear h74
  obtain ⟨n75, r75, w75, rfl, h76⟩ := fits_i h75; clear h75
  obtain ⟨n76, r76, w76, rfl, h77⟩ := fits_i h76; clear h76
  obtain ⟨n77, r77, w77, rfl, h78⟩ := fits_i h77; clear h77
  obtain ⟨n78, r78, w78, rfl, h79⟩ := fits_i h78; clear h78
  obtain ⟨n79, r79, w79, rfl, h80⟩ := fits_i h79; clear h79
  obtain ⟨n80, r80, w80, rfl, h81⟩ := fits_i h80; clear h80
  obtain ⟨n81, r81, w81, rfl, h82⟩ := fits_i h81; clear h81
  obtain ⟨n82, r82, w82, rfl, h83⟩ := fits_i h82; clear h82
  obtain ⟨n83, r83, w83, rfl, h84⟩ := fits_i h83; clear h83
  obtain ⟨n84, r84, w84, rfl, h85⟩ := fits_i h84; clear h84
  obtain ⟨n85, r85, w85, rfl, h86⟩ := fits_i h85; clear h85
  obtain ⟨n86, r86, w86, rfl, h87⟩ := fits_i h86; clear h86
  obtain ⟨n87, r87, w87, rfl, h88⟩ := fits_i h87; clear h87
  obtain ⟨n88, r88, w88, rfl, h89⟩ := fits_i h88; clear h88
  obtain rfl := fits_0 h89
  exact ⟨{ id := n0, cost := n1, enabled := n2, shared := n3, admin := n4, auto := n5, clocks := { edgeDelay := n6, fd := n7, hello := n8, mdelay := n9, rb := n10, rcvdInfo := n11, rr := n12, tc := n13, txCount := n14 }, states := { rx := n15, mig := n16, edge := n17, info := n18, trans := n19, pass := n20, topo := n21 }, flags := { agree := n22, agreed := n23, disputed := n24, flush := n25, forward := n26, forwarding := n27, learn := n28, learning := n29, mcheck := n30, newInfo := n31, operEdge := n32, proposed := n33, proposing := n34, rcvdBpdu := n35, rcvdMsg := n36, rcvdRst := n37, rcvdStp := n38, rcvdTc := n39, rcvdTcAck := n40, rcvdTcn := n41, reRoot := n42, reselect := n43, selected := n44, sendRst := n45, sync := n46, synced := n47, tcAck := n48, tcProp := n49, updtInfo := n50 }, msg := { kind := n51, change := n52, ack := n53, proposal := n54, agreement := n55, learning := n56, forwarding := n57, role := n58, vec := { root := n59, cost := n60, bridge := n61, port := n62, rx := n63 }, times := { age := n64, max := n65, hello := n66, delay := n67 } }, vec := { root := n68, cost := n69, bridge := n70, port := n71, rx := n72 }, designated := { root := n73, cost := n74, bridge := n75, port := n76, rx := n77 }, times := { age := n78, max := n79, hello := n80, delay := n81 }, desTimes := { age := n82, max := n83, hello := n84, delay := n85 }, is_ := n86, role := n87, selected := n88 }, rfl, ⟨wf_u16 w0, wf_u32 w1, ⟨wf_u64 w68, wf_u32 w69, wf_u64 w70, wf_u16 w71, wf_u16 w72⟩, ⟨wf_u64 w59, wf_u32 w60, wf_u64 w61, wf_u16 w62, wf_u16 w63⟩, ⟨wf_u64 w73, wf_u32 w74, wf_u64 w75, wf_u16 w76, wf_u16 w77⟩⟩⟩
theorem open_sent {vs : List Value} (h : ∃ fuel y, DataW.trod enc Try.prog w base spare held fuel 84 vs = some y) (hl : vs.length = 18) : ∃ x : Sent, vs = x.cells ∧ True := by
  have h0 := flat_ok 9 (ks := [.int .i64, .int .i64, .bool, .bool, .bool, .bool, .bool, .bool, .int .i64, .int .u64, .int .u32, .int .u64, .int .u16, .int .u16, .int .i64, .int .i64, .int .i64, .int .i64]) (t := 84) (by kernel_rfl) h (by rw [hl]; kernel_rfl)
  obtain ⟨n0, r0, w0, rfl, h1⟩ := fits_i h0; clear h0
  obtain ⟨n1, r1, w1, rfl, h2⟩ := fits_i h1; clear h1
  obtain ⟨n2, r2, rfl, h3⟩ := fits_b h2; clear h2
  obtain ⟨n3, r3, rfl, h4⟩ := fits_b h3; clear h3
  obtain ⟨n4, r4, rfl, h5⟩ := fits_b h4; clear h4
  obtain ⟨n5, r5, rfl, h6⟩ := fits_b h5; clear h5
  obtain ⟨n6, r6, rfl, h7⟩ := fits_b h6; clear h6
  obtain ⟨n7, r7, rfl, h8⟩ := fits_b h7; clear h7
  obtain ⟨n8, r8, w8, rfl, h9⟩ := fits_i h8; clear h8
  obtain ⟨n9, r9, w9, rfl, h10⟩ := fits_i h9; clear h9
  obtain ⟨n10, r10, w10, rfl, h11⟩ := fits_i h10; clear h10
  obtain ⟨n11, r11, w11, rfl, h12⟩ := fits_i h11; clear h11
  obtain ⟨n12, r12, w12, rfl, h13⟩ := fits_i h12; clear h12
  obtain ⟨n13, r13, w13, rfl, h14⟩ := fits_i h13; clear h13
  obtain ⟨n14, r14, w14, rfl, h15⟩ := fits_i h14; clear h14
  obtain ⟨n15, r15, w15, rfl, h16⟩ := fits_i h15; clear h15
  obtain ⟨n16, r16, w16, rfl, h17⟩ := fits_i h16; clear h16
  obtain ⟨n17, r17, w17, rfl, h18⟩ := fits_i h17; clear h17
  obtain rfl := fits_0 h18
  exact ⟨{ port := n0, msg := { kind := n1, change := n2, ack := n3, proposal := n4, agreement := n5, learning := n6, forwarding := n7, role := n8, vec := { root := n9, cost := n10, bridge := n11, port := n12, rx := n13 }, times := { age := n14, max := n15, hello := n16, delay := n17 } } }, rfl, trivial⟩
theorem open_portA {w' : World} {v : Value} {d : DataW H} {p : List MemPlace}
    (hok : ∃ b, Value.okWide Try.prog w' .any b 59 v) (h : DataW.Trod enc Try.prog w base spare held 59 v d p) : ∃ x : Port, v = .agg x.cells.toArray ∧ x.Wf := by
  obtain ⟨cs, rfl, h0⟩ := open_flat (n := 9) (ks := [.int .u16, .int .u32, .bool, .bool, .bool, .bool, .int .i64, .int .i64, .int .i64, .int .i64, .int .i64, .int .i64, .int .i64, .int .i64, .int .i64, .int .i64, .int .i64, .int .i64, .int .i64, .int .i64, .int .i64, .int .i64, .bool, .bool, .bool, .bool, .bool, .bool, .bool, .bool, .bool, .bool, .bool, .bool, .bool, .bool, .bool, .bool, .bool, .bool, .bool, .bool, .bool, .bool, .bool, .bool, .bool, .bool, .bool, .bool, .bool, .int .i64, .bool, .bool, .bool, .bool, .bool, .bool, .int .i64, .int .u64, .int .u32, .int .u64, .int .u16, .int .u16, .int .i64, .int .i64, .int .i64, .int .i64, .int .u64, .int .u32, .int .u64, .int .u16, .int .u16, .int .u64, .int .u32, .int .u64, .int .u16, .int .u16, .int .i64, .int .i64, .int .i64, .int .i64, .int .i64, .int .i64, .int .i64, .int .i64, .int .i64, .int .i64, .int .i64]) Try.underlying59 (by kernel_rfl) hok h
  obtain ⟨l⟩ := cs
  simp only [List.toList_toArray] at h0
  obtain ⟨n0, r0, w0, rfl, h1⟩ := fits_i h0; clear h0
  obtain ⟨n1, r1, w1, rfl, h2⟩ := fits_i h1; clear h1
  obtain ⟨n2, r2, rfl, h3⟩ := fits_b h2; clear h2
  obtain ⟨n3, r3, rfl, h4⟩ := fits_b h3; clear h3
  obtain ⟨n4, r4, rfl, h5⟩ := fits_b h4; clear h4
  obtain ⟨n5, r5, rfl, h6⟩ := fits_b h5; clear h5
  obtain ⟨n6, r6, w6, rfl, h7⟩ := fits_i h6; clear h6
  obtain ⟨n7, r7, w7, rfl, h8⟩ := fits_i h7; clear h7
  obtain ⟨n8, r8, w8, rfl, h9⟩ := fits_i h8; clear h8
  obtain ⟨n9, r9, w9, rfl, h10⟩ := fits_i h9; clear h9
  obtain ⟨n10, r10, w10, rfl, h11⟩ := fits_i h10; clear h10
  obtain ⟨n11, r11, w11, rfl, h12⟩ := fits_i h11; clear h11
  obtain ⟨n12, r12, w12, rfl, h13⟩ := fits_i h12; clear h12
  obtain ⟨n13, r13, w13, rfl, h14⟩ := fits_i h13; clear h13
  obtain ⟨n14, r14, w14, rfl, h15⟩ := fits_i h14; clear h14
  obtain ⟨n15, r15, w15, rfl, h16⟩ := fits_i h15; clear h15
  obtain ⟨n16, r16, w16, rfl, h17⟩ := fits_i h16; clear h16
  obtain ⟨n17, r17, w17, rfl, h18⟩ := fits_i h17; clear h17
  obtain ⟨n18, r18, w18, rfl, h19⟩ := fits_i h18; clear h18
  obtain ⟨n19, r19, w19, rfl, h20⟩ := fits_i h19; clear h19
  obtain ⟨n20, r20, w20, rfl, h21⟩ := fits_i h20; clear h20
  obtain ⟨n21, r21, w21, rfl, h22⟩ := fits_i h21; clear h21
  obtain ⟨n22, r22, rfl, h23⟩ := fits_b h22; clear h22
  obtain ⟨n23, r23, rfl, h24⟩ := fits_b h23; clear h23
  obtain ⟨n24, r24, rfl, h25⟩ := fits_b h24; clear h24
  obtain ⟨n25, r25, rfl, h26⟩ := fits_b h25; clear h25
  obtain ⟨n26, r26, rfl, h27⟩ := fits_b h26; clear h26
  obtain ⟨n27, r27, rfl, h28⟩ := fits_b h27; clear h27
  obtain ⟨n28, r28, rfl, h29⟩ := fits_b h28; clear h28
  obtain ⟨n29, r29, rfl, h30⟩ := fits_b h29; clear h29
  obtain ⟨n30, r30, rfl, h31⟩ := fits_b h30; clear h30
  obtain ⟨n31, r31, rfl, h32⟩ := fits_b h31; clear h31
  obtain ⟨n32, r32, rfl, h33⟩ := fits_b h32; clear h32
  obtain ⟨n33, r33, rfl, h34⟩ := fits_b h33; clear h33
  obtain ⟨n34, r34, rfl, h35⟩ := fits_b h34; clear h34
  obtain ⟨n35, r35, rfl, h36⟩ := fits_b h35; clear h35
  obtain ⟨n36, r36, rfl, h37⟩ := fits_b h36; clear h36
  obtain ⟨n37, r37, rfl, h38⟩ := fits_b h37; clear h37
  obtain ⟨n38, r38, rfl, h39⟩ := fits_b h38; clear h38
  obtain ⟨n39, r39, rfl, h40⟩ := fits_b h39; clear h39
  obtain ⟨n40, r40, rfl, h41⟩ := fits_b h40; clear h40
  obtain ⟨n41, r41, rfl, h42⟩ := fits_b h41; clear h41
  obtain ⟨n42, r42, rfl, h43⟩ := fits_b h42; clear h42
  obtain ⟨n43, r43, rfl, h44⟩ := fits_b h43; clear h43
  obtain ⟨n44, r44, rfl, h45⟩ := fits_b h44; clear h44
  obtain ⟨n45, r45, rfl, h46⟩ := fits_b h45; clear h45
  obtain ⟨n46, r46, rfl, h47⟩ := fits_b h46; clear h46
  obtain ⟨n47, r47, rfl, h48⟩ := fits_b h47; clear h47
  obtain ⟨n48, r48, rfl, h49⟩ := fits_b h48; clear h48
  obtain ⟨n49, r49, rfl, h50⟩ := fits_b h49; clear h49
  obtain ⟨n50, r50, rfl, h51⟩ := fits_b h50; clear h50
  obtain ⟨n51, r51, w51, rfl, h52⟩ := fits_i h51; clear h51
  obtain ⟨n52, r52, rfl, h53⟩ := fits_b h52; clear h52
  obtain ⟨n53, r53, rfl, h54⟩ := fits_b h53; clear h53
  obtain ⟨n54, r54, rfl, h55⟩ := fits_b h54; clear h54
  obtain ⟨n55, r55, rfl, h56⟩ := fits_b h55; clear h55
  obtain ⟨n56, r56, rfl, h57⟩ := fits_b h56; clear h56
  obtain ⟨n57, r57, rfl, h58⟩ := fits_b h57; clear h57
  obtain ⟨n58, r58, w58, rfl, h59⟩ := fits_i h58; clear h58
  obtain ⟨n59, r59, w59, rfl, h60⟩ := fits_i h59; clear h59
  obtain ⟨n60, r60, w60, rfl, h61⟩ := fits_i h60; clear h60
  obtain ⟨n61, r61, w61, rfl, h62⟩ := fits_i h61; clear h61
  obtain ⟨n62, r62, w62, rfl, h63⟩ := fits_i h62; clear h62
  obtain ⟨n63, r63, w63, rfl, h64⟩ := fits_i h63; clear h63
  obtain ⟨n64, r64, w64, rfl, h65⟩ := fits_i h64; clear h64
  obtain ⟨n65, r65, w65, rfl, h66⟩ := fits_i h65; clear h65
  obtain ⟨n66, r66, w66, rfl, h67⟩ := fits_i h66; clear h66
  obtain ⟨n67, r67, w67, rfl, h68⟩ := fits_i h67; clear h67
  obtain ⟨n68, r68, w68, rfl, h69⟩ := fits_i h68; clear h68
  obtain ⟨n69, r69, w69, rfl, h70⟩ := fits_i h69; clear h69
  obtain ⟨n70, r70, w70, rfl, h71⟩ := fits_i h70; clear h70
  obtain ⟨n71, r71, w71, rfl, h72⟩ := fits_i h71; clear h71
  obtain ⟨n72, r72, w72, rfl, h73⟩ := fits_i h72; clear h72
  obtain ⟨n73, r73, w73, rfl, h74⟩ := fits_i h73; clear h73
  obtain ⟨n74, r74, w74, rfl, h75⟩ := fits_i h74; clear h74
  obtain ⟨n75, r75, w75, rfl, h76⟩ := fits_i h75; clear h75
  obtain ⟨n76, r76, w76, rfl, h77⟩ := fits_i h76; clear h76
  obtain ⟨n77, r77, w77, rfl, h78⟩ := fits_i h77; clear h77
  obtain ⟨n78, r78, w78, rfl, h79⟩ := fits_i h78; clear h78
  obtain ⟨n79, r79, w79, rfl, h80⟩ := fits_i h79; clear h79
  obtain ⟨n80, r80, w80, rfl, h81⟩ := fits_i h80; clear h80
  obtain ⟨n81, r81, w81, rfl, h82⟩ := fits_i h81; clear h81
  obtain ⟨n82, r82, w82, rfl, h83⟩ := fits_i h82; clear h82
  obtain ⟨n83, r83, w83, rfl, h84⟩ := fits_i h83; clear h83
  obtain ⟨n84, r84, w84, rfl, h85⟩ := fits_i h84; clear h84
  obtain ⟨n85, r85, w85, rfl, h86⟩ := fits_i h85; clear h85
  obtain ⟨n86, r86, w86, rfl, h87⟩ := fits_i h86; clear h86
  obtain ⟨n87, r87, w87, rfl, h88⟩ := fits_i h87; clear h87
  obtain ⟨n88, r88, w88, rfl, h89⟩ := fits_i h88; clear h88
  obtain rfl := fits_0 h89
  exact ⟨{ id := n0, cost := n1, enabled := n2, shared := n3, admin := n4, auto := n5, clocks := { edgeDelay := n6, fd := n7, hello := n8, mdelay := n9, rb := n10, rcvdInfo := n11, rr := n12, tc := n13, txCount := n14 }, states := { rx := n15, mig := n16, edge := n17, info := n18, trans := n19, pass := n20, topo := n21 }, flags := { agree := n22, agreed := n23, disputed := n24, flush := n25, forward := n26, forwarding := n27, learn := n28, learning := n29, mcheck := n30, newInfo := n31, operEdge := n32, proposed := n33, proposing := n34, rcvdBpdu := n35, rcvdMsg := n36, rcvdRst := n37, rcvdStp := n38, rcvdTc := n39, rcvdTcAck := n40, rcvdTcn := n41, reRoot := n42, reselect := n43, selected := n44, sendRst := n45, sync := n46, synced := n47, tcAck := n48, tcProp := n49, updtInfo := n50 }, msg := { kind := n51, change := n52, ack := n53, proposal := n54, agreement := n55, learning := n56, forwarding := n57, role := n58, vec := { root := n59, cost := n60, bridge := n61, port := n62, rx := n63 }, times := { age := n64, max := n65, hello := n66, delay := n67 } }, vec := { root := n68, cost := n69, bridge := n70, port := n71, rx := n72 }, designated := { root := n73, cost := n74, bridge := n75, port := n76, rx := n77 }, times := { age := n78, max := n79, hello := n80, delay := n81 }, desTimes := { age := n82, max := n83, hello := n84, delay := n85 }, is_ := n86, role := n87, selected := n88 }, rfl, ⟨wf_u16 w0, wf_u32 w1, ⟨wf_u64 w68, wf_u32 w69, wf_u64 w70, wf_u16 w71, wf_u16 w72⟩, ⟨wf_u64 w59, wf_u32 w60, wf_u64 w61, wf_u16 w62, wf_u16 w63⟩, ⟨wf_u64 w73, wf_u32 w74, wf_u64 w75, wf_u16 w76, wf_u16 w77⟩⟩⟩
theorem open_msgA {w' : World} {v : Value} {d : DataW H} {p : List MemPlace}
    (hok : ∃ b, Value.okWide Try.prog w' .any b 57 v) (h : DataW.Trod enc Try.prog w base spare held 57 v d p) : ∃ x : Msg, v = .agg x.cells.toArray ∧ x.vec.Wf := by
  obtain ⟨cs, rfl, h0⟩ := open_flat (n := 9) (ks := [.int .i64, .bool, .bool, .bool, .bool, .bool, .bool, .int .i64, .int .u64, .int .u32, .int .u64, .int .u16, .int .u16, .int .i64, .int .i64, .int .i64, .int .i64]) Try.underlying57 (by kernel_rfl) hok h
  obtain ⟨l⟩ := cs
  simp only [List.toList_toArray] at h0
  obtain ⟨n0, r0, w0, rfl, h1⟩ := fits_i h0; clear h0
  obtain ⟨n1, r1, rfl, h2⟩ := fits_b h1; clear h1
  obtain ⟨n2, r2, rfl, h3⟩ := fits_b h2; clear h2
  obtain ⟨n3, r3, rfl, h4⟩ := fits_b h3; clear h3
  obtain ⟨n4, r4, rfl, h5⟩ := fits_b h4; clear h4
  obtain ⟨n5, r5, rfl, h6⟩ := fits_b h5; clear h5
  obtain ⟨n6, r6, rfl, h7⟩ := fits_b h6; clear h6
  obtain ⟨n7, r7, w7, rfl, h8⟩ := fits_i h7; clear h7
  obtain ⟨n8, r8, w8, rfl, h9⟩ := fits_i h8; clear h8
  obtain ⟨n9, r9, w9, rfl, h10⟩ := fits_i h9; clear h9
  obtain ⟨n10, r10, w10, rfl, h11⟩ := fits_i h10; clear h10
  obtain ⟨n11, r11, w11, rfl, h12⟩ := fits_i h11; clear h11
  obtain ⟨n12, r12, w12, rfl, h13⟩ := fits_i h12; clear h12
  obtain ⟨n13, r13, w13, rfl, h14⟩ := fits_i h13; clear h13
  obtain ⟨n14, r14, w14, rfl, h15⟩ := fits_i h14; clear h14
  obtain ⟨n15, r15, w15, rfl, h16⟩ := fits_i h15; clear h15
  obtain ⟨n16, r16, w16, rfl, h17⟩ := fits_i h16; clear h16
  obtain rfl := fits_0 h17
  exact ⟨{ kind := n0, change := n1, ack := n2, proposal := n3, agreement := n4, learning := n5, forwarding := n6, role := n7, vec := { root := n8, cost := n9, bridge := n10, port := n11, rx := n12 }, times := { age := n13, max := n14, hello := n15, delay := n16 } }, rfl, ⟨wf_u64 w8, wf_u32 w9, wf_u64 w10, wf_u16 w11, wf_u16 w12⟩⟩
end
end Go.Proofs.Ythhdfidenigcaaa
