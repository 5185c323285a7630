/- The table of types, and that it is right. Printed by gentys.py of this repo. -/
import Derived.Test.YtfncoeoaniclmaaPerf
import Derived.KernelRfl
set_option linter.unusedVariables false
set_option maxRecDepth 100000
namespace Go.Proofs.Ytfncoeoaniclmaa
open Go Go.RowKit
def td1 : TD := ⟨1, .func, .v .nilFunc⟩
def td2 : TD := ⟨1, .int .i64, .ki .i64 0⟩
def td3 : TD := ⟨1, .int .i64, .ki .i64 0⟩
def td4 : TD := ⟨1, .bool, .kb false⟩
def td5 : TD := ⟨1, .int .u8, .ki .u8 0⟩
def td6 : TD := ⟨1, .int .u8, .ki .u8 0⟩
def td7 : TD := ⟨4, .strct [(0, 2), (1, 3), (2, 4), (3, 6)], .agg [.ki .i64 0, .ki .i64 0, .kb false, .ki .u8 0]⟩
def td8 : TD := ⟨4, .strct [(0, 2), (1, 3), (2, 4), (3, 6)], .agg [.ki .i64 0, .ki .i64 0, .kb false, .ki .u8 0]⟩
def td9 : TD := ⟨1, .str, .v (.string ⟨#[]⟩)⟩
def td10 : TD := ⟨1, .str, .v (.string ⟨#[]⟩)⟩
def td11 : TD := ⟨1, .str, .v (.string ⟨#[]⟩)⟩
def td12 : TD := ⟨1, .int .u64, .ki .u64 0⟩
def td13 : TD := ⟨2, .strct [(0, 9), (1, 12)], .agg [.v (.string ⟨#[]⟩), .ki .u64 0]⟩
def td14 : TD := ⟨2, .strct [(0, 9), (1, 12)], .agg [.v (.string ⟨#[]⟩), .ki .u64 0]⟩
def td15 : TD := ⟨1, .ptr 141, .v (.pointer none)⟩
def td16 : TD := ⟨1, .ptr 144, .v (.pointer none)⟩
def td17 : TD := ⟨1, .ptr 153, .v (.pointer none)⟩
def td18 : TD := ⟨1, .strct [(0, 17)], .agg [.v (.pointer none)]⟩
def td19 : TD := ⟨1, .strct [(0, 17)], .agg [.v (.pointer none)]⟩
def td21 : TD := ⟨1, .int .i32, .ki .i32 0⟩
def td22 : TD := ⟨1, .func, .v .nilFunc⟩
def td23 : TD := ⟨1, .ptr 95, .v (.pointer none)⟩
def td24 : TD := ⟨1, .func, .v .nilFunc⟩
def td25 : TD := ⟨1, .slice 30, .v (.slice none 0 0)⟩
def td26 : TD := ⟨1, .func, .v .nilFunc⟩
def td27 : TD := ⟨1, .func, .v .nilFunc⟩
def td28 : TD := ⟨1, .int .u64, .ki .u64 0⟩
def td29 : TD := ⟨3, .strct [(0, 28), (1, 3), (2, 3)], .rcd (.entry ⟨0, 0, 0⟩)⟩
def td30 : TD := ⟨3, .strct [(0, 28), (1, 3), (2, 3)], .rcd (.entry ⟨0, 0, 0⟩)⟩
def td31 : TD := ⟨1, .func, .v .nilFunc⟩
def td32 : TD := ⟨1, .slice 34, .v (.slice none 0 0)⟩
def td33 : TD := ⟨4, .strct [(0, 3), (1, 28), (2, 3), (3, 3)], .rcd (.fact ⟨0, 0, 0, 0⟩)⟩
def td34 : TD := ⟨4, .strct [(0, 3), (1, 28), (2, 3), (3, 3)], .rcd (.fact ⟨0, 0, 0, 0⟩)⟩
def td36 : TD := ⟨1, .func, .v .nilFunc⟩
def td37 : TD := ⟨1, .int .u64, .ki .u64 0⟩
def td38 : TD := ⟨1, .func, .v .nilFunc⟩
def td39 : TD := ⟨1, .func, .v .nilFunc⟩
def td40 : TD := ⟨1, .func, .v .nilFunc⟩
def td41 : TD := ⟨1, .func, .v .nilFunc⟩
def td42 : TD := ⟨1, .ptr 45, .v (.pointer none)⟩
def td43 : TD := ⟨1, .slice 91, .v (.slice none 0 0)⟩
def td44 : TD := ⟨3, .strct [(0, 3), (1, 3), (2, 43)], .agg [.ki .i64 0, .ki .i64 0, .v (.slice none 0 0)]⟩
def td45 : TD := ⟨3, .strct [(0, 3), (1, 3), (2, 43)], .agg [.ki .i64 0, .ki .i64 0, .v (.slice none 0 0)]⟩
def td46 : TD := ⟨1, .func, .v .nilFunc⟩
def td47 : TD := ⟨1, .func, .v .nilFunc⟩
def td48 : TD := ⟨1, .slice 28, .v (.slice none 0 0)⟩
def td49 : TD := ⟨1, .func, .v .nilFunc⟩
def td50 : TD := ⟨1, .func, .v .nilFunc⟩
def td51 : TD := ⟨1, .func, .v .nilFunc⟩
def td52 : TD := ⟨4, .strct [(0, 3), (1, 3), (2, 3), (3, 3)], .rcd (.times ⟨0, 0, 0, 0⟩)⟩
def td53 : TD := ⟨4, .strct [(0, 3), (1, 3), (2, 3), (3, 3)], .rcd (.times ⟨0, 0, 0, 0⟩)⟩
def td54 : TD := ⟨1, .int .u32, .ki .u32 0⟩
def td55 : TD := ⟨1, .int .u16, .ki .u16 0⟩
def td56 : TD := ⟨5, .strct [(0, 28), (1, 54), (2, 28), (3, 55), (4, 55)], .rcd (.vec ⟨0, 0, 0, 0, 0⟩)⟩
def td57 : TD := ⟨5, .strct [(0, 28), (1, 54), (2, 28), (3, 55), (4, 55)], .rcd (.vec ⟨0, 0, 0, 0, 0⟩)⟩
def td58 : TD := ⟨1, .slice 77, .v (.slice none 0 0)⟩
def td59 : TD := ⟨1, .slice 115, .v (.slice none 0 0)⟩
def td60 : TD := ⟨1, .slice 3, .v (.slice none 0 0)⟩
def td61 : TD := ⟨20, .strct [(0, 28), (1, 4), (2, 53), (6, 3), (7, 57), (12, 3), (13, 53), (17, 58), (18, 59), (19, 60)], .agg [.ki .u64 0, .kb false, .rcd (.times ⟨0, 0, 0, 0⟩), .ki .i64 0, .rcd (.vec ⟨0, 0, 0, 0, 0⟩), .ki .i64 0, .rcd (.times ⟨0, 0, 0, 0⟩), .v (.slice none 0 0), .v (.slice none 0 0), .v (.slice none 0 0)]⟩
def td62 : TD := ⟨20, .strct [(0, 28), (1, 4), (2, 53), (6, 3), (7, 57), (12, 3), (13, 53), (17, 58), (18, 59), (19, 60)], .agg [.ki .u64 0, .kb false, .rcd (.times ⟨0, 0, 0, 0⟩), .ki .i64 0, .rcd (.vec ⟨0, 0, 0, 0, 0⟩), .ki .i64 0, .rcd (.times ⟨0, 0, 0, 0⟩), .v (.slice none 0 0), .v (.slice none 0 0), .v (.slice none 0 0)]⟩
def td63 : TD := ⟨1, .slice 66, .v (.slice none 0 0)⟩
def td64 : TD := ⟨1, .func, .v .nilFunc⟩
def td65 : TD := ⟨3, .strct [(0, 3), (1, 28), (2, 28)], .rcd (.frame ⟨0, 0, 0⟩)⟩
def td66 : TD := ⟨3, .strct [(0, 3), (1, 28), (2, 28)], .rcd (.frame ⟨0, 0, 0⟩)⟩
def td67 : TD := ⟨1, .func, .v .nilFunc⟩
def td68 : TD := ⟨9, .strct [(0, 3), (1, 3), (2, 3), (3, 3), (4, 3), (5, 3), (6, 3), (7, 3), (8, 3)], .rcd (.clocks ⟨0, 0, 0, 0, 0, 0, 0, 0, 0⟩)⟩
def td69 : TD := ⟨9, .strct [(0, 3), (1, 3), (2, 3), (3, 3), (4, 3), (5, 3), (6, 3), (7, 3), (8, 3)], .rcd (.clocks ⟨0, 0, 0, 0, 0, 0, 0, 0, 0⟩)⟩
def td70 : TD := ⟨7, .strct [(0, 3), (1, 3), (2, 3), (3, 3), (4, 3), (5, 3), (6, 3)], .rcd (.states ⟨0, 0, 0, 0, 0, 0, 0⟩)⟩
def td71 : TD := ⟨7, .strct [(0, 3), (1, 3), (2, 3), (3, 3), (4, 3), (5, 3), (6, 3)], .rcd (.states ⟨0, 0, 0, 0, 0, 0, 0⟩)⟩
def td72 : TD := ⟨29, .strct [(0, 4), (1, 4), (2, 4), (3, 4), (4, 4), (5, 4), (6, 4), (7, 4), (8, 4), (9, 4), (10, 4), (11, 4), (12, 4), (13, 4), (14, 4), (15, 4), (16, 4), (17, 4), (18, 4), (19, 4), (20, 4), (21, 4), (22, 4), (23, 4), (24, 4), (25, 4), (26, 4), (27, 4), (28, 4)], .rcd (.flags ⟨false, false, false, false, false, false, false, false, false, false, false, false, false, false, false, false, false, false, false, false, false, false, false, false, false, false, false, false, false⟩)⟩
def td73 : TD := ⟨29, .strct [(0, 4), (1, 4), (2, 4), (3, 4), (4, 4), (5, 4), (6, 4), (7, 4), (8, 4), (9, 4), (10, 4), (11, 4), (12, 4), (13, 4), (14, 4), (15, 4), (16, 4), (17, 4), (18, 4), (19, 4), (20, 4), (21, 4), (22, 4), (23, 4), (24, 4), (25, 4), (26, 4), (27, 4), (28, 4)], .rcd (.flags ⟨false, false, false, false, false, false, false, false, false, false, false, false, false, false, false, false, false, false, false, false, false, false, false, false, false, false, false, false, false⟩)⟩
def td74 : TD := ⟨17, .strct [(0, 3), (1, 4), (2, 4), (3, 4), (4, 4), (5, 4), (6, 4), (7, 3), (8, 57), (13, 53)], .rcd (.msg ⟨0, false, false, false, false, false, false, 0, ⟨0, 0, 0, 0, 0⟩, ⟨0, 0, 0, 0⟩⟩)⟩
def td75 : TD := ⟨17, .strct [(0, 3), (1, 4), (2, 4), (3, 4), (4, 4), (5, 4), (6, 4), (7, 3), (8, 57), (13, 53)], .rcd (.msg ⟨0, false, false, false, false, false, false, 0, ⟨0, 0, 0, 0, 0⟩, ⟨0, 0, 0, 0⟩⟩)⟩
def td76 : TD := ⟨89, .strct [(0, 55), (1, 54), (2, 4), (3, 4), (4, 4), (5, 4), (6, 69), (15, 71), (22, 73), (51, 75), (68, 57), (73, 57), (78, 53), (82, 53), (86, 3), (87, 3), (88, 3)], .rcd (.port ⟨0, 0, false, false, false, false, ⟨0, 0, 0, 0, 0, 0, 0, 0, 0⟩, ⟨0, 0, 0, 0, 0, 0, 0⟩, ⟨false, false, false, false, false, false, false, false, false, false, false, false, false, false, false, false, false, false, false, false, false, false, false, false, false, false, false, false, false⟩, ⟨0, false, false, false, false, false, false, 0, ⟨0, 0, 0, 0, 0⟩, ⟨0, 0, 0, 0⟩⟩, ⟨0, 0, 0, 0, 0⟩, ⟨0, 0, 0, 0, 0⟩, ⟨0, 0, 0, 0⟩, ⟨0, 0, 0, 0⟩, 0, 0, 0⟩)⟩
def td77 : TD := ⟨89, .strct [(0, 55), (1, 54), (2, 4), (3, 4), (4, 4), (5, 4), (6, 69), (15, 71), (22, 73), (51, 75), (68, 57), (73, 57), (78, 53), (82, 53), (86, 3), (87, 3), (88, 3)], .rcd (.port ⟨0, 0, false, false, false, false, ⟨0, 0, 0, 0, 0, 0, 0, 0, 0⟩, ⟨0, 0, 0, 0, 0, 0, 0⟩, ⟨false, false, false, false, false, false, false, false, false, false, false, false, false, false, false, false, false, false, false, false, false, false, false, false, false, false, false, false, false⟩, ⟨0, false, false, false, false, false, false, 0, ⟨0, 0, 0, 0, 0⟩, ⟨0, 0, 0, 0⟩⟩, ⟨0, 0, 0, 0, 0⟩, ⟨0, 0, 0, 0, 0⟩, ⟨0, 0, 0, 0⟩, ⟨0, 0, 0, 0⟩, 0, 0, 0⟩)⟩
def td78 : TD := ⟨1, .func, .v .nilFunc⟩
def td79 : TD := ⟨1, .func, .v .nilFunc⟩
def td80 : TD := ⟨1, .func, .v .nilFunc⟩
def td81 : TD := ⟨1, .func, .v .nilFunc⟩
def td82 : TD := ⟨1, .func, .v .nilFunc⟩
def td83 : TD := ⟨1, .func, .v .nilFunc⟩
def td84 : TD := ⟨1, .func, .v .nilFunc⟩
def td85 : TD := ⟨1, .func, .v .nilFunc⟩
def td86 : TD := ⟨1, .func, .v .nilFunc⟩
def td87 : TD := ⟨1, .func, .v .nilFunc⟩
def td88 : TD := ⟨1, .ptr 62, .v (.pointer none)⟩
def td89 : TD := ⟨1, .func, .v .nilFunc⟩
def td90 : TD := ⟨1, .func, .v .nilFunc⟩
def td91 : TD := ⟨3, .strct [(0, 28), (1, 3), (2, 3)], .rcd (.entry ⟨0, 0, 0⟩)⟩
def td92 : TD := ⟨1, .func, .v .nilFunc⟩
def td93 : TD := ⟨1, .map 28 97, .v (.map none)⟩
def td94 : TD := ⟨3, .strct [(0, 3), (1, 3), (2, 93)], .agg [.ki .i64 0, .ki .i64 0, .v (.map none)]⟩
def td95 : TD := ⟨3, .strct [(0, 3), (1, 3), (2, 93)], .agg [.ki .i64 0, .ki .i64 0, .v (.map none)]⟩
def td96 : TD := ⟨2, .strct [(0, 3), (1, 3)], .rcd (.place ⟨0, 0⟩)⟩
def td97 : TD := ⟨2, .strct [(0, 3), (1, 3)], .rcd (.place ⟨0, 0⟩)⟩
def td98 : TD := ⟨1, .func, .v .nilFunc⟩
def td99 : TD := ⟨1, .func, .v .nilFunc⟩
def td100 : TD := ⟨1, .func, .v .nilFunc⟩
def td101 : TD := ⟨1, .func, .v .nilFunc⟩
def td103 : TD := ⟨1, .func, .v .nilFunc⟩
def td104 : TD := ⟨1, .func, .v .nilFunc⟩
def td105 : TD := ⟨1, .func, .v .nilFunc⟩
def td106 : TD := ⟨1, .func, .v .nilFunc⟩
def td107 : TD := ⟨1, .func, .v .nilFunc⟩
def td108 : TD := ⟨1, .func, .v .nilFunc⟩
def td109 : TD := ⟨1, .func, .v .nilFunc⟩
def td110 : TD := ⟨1, .func, .v .nilFunc⟩
def td111 : TD := ⟨1, .func, .v .nilFunc⟩
def td112 : TD := ⟨1, .func, .v .nilFunc⟩
def td113 : TD := ⟨1, .func, .v .nilFunc⟩
def td114 : TD := ⟨18, .strct [(0, 3), (1, 75)], .rcd (.sent ⟨0, ⟨0, false, false, false, false, false, false, 0, ⟨0, 0, 0, 0, 0⟩, ⟨0, 0, 0, 0⟩⟩⟩)⟩
def td115 : TD := ⟨18, .strct [(0, 3), (1, 75)], .rcd (.sent ⟨0, ⟨0, false, false, false, false, false, false, 0, ⟨0, 0, 0, 0, 0⟩, ⟨0, 0, 0, 0⟩⟩⟩)⟩
def td116 : TD := ⟨1, .func, .v .nilFunc⟩
def td117 : TD := ⟨1, .func, .v .nilFunc⟩
def td118 : TD := ⟨1, .func, .v .nilFunc⟩
def td119 : TD := ⟨1, .func, .v .nilFunc⟩
def td120 : TD := ⟨1, .func, .v .nilFunc⟩
def td121 : TD := ⟨1, .func, .v .nilFunc⟩
def td122 : TD := ⟨1, .func, .v .nilFunc⟩
def td123 : TD := ⟨1, .func, .v .nilFunc⟩
def td124 : TD := ⟨1, .int .i64, .ki .i64 0⟩
def td126 : TD := ⟨1, .func, .v .nilFunc⟩
def td127 : TD := ⟨1, .func, .v .nilFunc⟩
def td128 : TD := ⟨1, .func, .v .nilFunc⟩
def td129 : TD := ⟨1, .func, .v .nilFunc⟩
def td130 : TD := ⟨1, .func, .v .nilFunc⟩
def td131 : TD := ⟨1, .int .u64, .ki .u64 0⟩
def td132 : TD := ⟨1, .func, .v .nilFunc⟩
def td133 : TD := ⟨1, .func, .v .nilFunc⟩
def td134 : TD := ⟨1, .ptr 3, .v (.pointer none)⟩
def td135 : TD := ⟨1, .func, .v .nilFunc⟩
def td136 : TD := ⟨1, .ptr 131, .v (.pointer none)⟩
def td138 : TD := ⟨1, .func, .v .nilFunc⟩
def td139 : TD := ⟨1, .func, .v .nilFunc⟩
def td140 : TD := ⟨4, .strct [(0, 17), (1, 17), (2, 17), (3, 9)], .agg [.v (.pointer none), .v (.pointer none), .v (.pointer none), .v (.string ⟨#[]⟩)]⟩
def td141 : TD := ⟨4, .strct [(0, 17), (1, 17), (2, 17), (3, 9)], .agg [.v (.pointer none), .v (.pointer none), .v (.pointer none), .v (.string ⟨#[]⟩)]⟩
def td145 : TD := ⟨1, .func, .v .nilFunc⟩
def td146 : TD := ⟨1, .int .u8, .ki .u8 0⟩
def td147 : TD := ⟨1, .int .u8, .ki .u8 0⟩
def td148 : TD := ⟨1, .func, .v .nilFunc⟩
def td149 : TD := ⟨1, .ptr 5, .v (.pointer none)⟩
def td150 : TD := ⟨1, .int .i32, .ki .i32 0⟩
def td151 : TD := ⟨1, .int .i32, .ki .i32 0⟩
def td152 : TD := ⟨11, .strct [(0, 12), (1, 12), (2, 54), (3, 146), (4, 5), (5, 5), (6, 147), (7, 148), (8, 149), (9, 150), (10, 151)], .agg [.ki .u64 0, .ki .u64 0, .ki .u32 0, .ki .u8 0, .ki .u8 0, .ki .u8 0, .ki .u8 0, .v .nilFunc, .v (.pointer none), .ki .i32 0, .ki .i32 0]⟩
def td153 : TD := ⟨11, .strct [(0, 12), (1, 12), (2, 54), (3, 146), (4, 5), (5, 5), (6, 147), (7, 148), (8, 149), (9, 150), (10, 151)], .agg [.ki .u64 0, .ki .u64 0, .ki .u32 0, .ki .u8 0, .ki .u8 0, .ki .u8 0, .ki .u8 0, .v .nilFunc, .v (.pointer none), .ki .i32 0, .ki .i32 0]⟩
def tys (t : Nat) : Option TD := bif Nat.blt t 155 then (bif Nat.blt t 77 then (bif Nat.blt t 38 then (bif Nat.blt t 19 then (bif Nat.blt t 9 then (bif Nat.blt t 4 then (bif Nat.blt t 2 then (bif Nat.blt t 1 then (none) else (some td1)) else (bif Nat.blt t 3 then (some td2) else (some td3))) else (bif Nat.blt t 6 then (bif Nat.blt t 5 then (some td4) else (some td5)) else (bif Nat.blt t 7 then (some td6) else (bif Nat.blt t 8 then (some td7) else (some td8))))) else (bif Nat.blt t 14 then (bif Nat.blt t 11 then (bif Nat.blt t 10 then (some td9) else (some td10)) else (bif Nat.blt t 12 then (some td11) else (bif Nat.blt t 13 then (some td12) else (some td13)))) else (bif Nat.blt t 16 then (bif Nat.blt t 15 then (some td14) else (some td15)) else (bif Nat.blt t 17 then (some td16) else (bif Nat.blt t 18 then (some td17) else (some td18)))))) else (bif Nat.blt t 28 then (bif Nat.blt t 23 then (bif Nat.blt t 21 then (bif Nat.blt t 20 then (some td19) else (none)) else (bif Nat.blt t 22 then (some td21) else (some td22))) else (bif Nat.blt t 25 then (bif Nat.blt t 24 then (some td23) else (some td24)) else (bif Nat.blt t 26 then (some td25) else (bif Nat.blt t 27 then (some td26) else (some td27))))) else (bif Nat.blt t 33 then (bif Nat.blt t 30 then (bif Nat.blt t 29 then (some td28) else (some td29)) else (bif Nat.blt t 31 then (some td30) else (bif Nat.blt t 32 then (some td31) else (some td32)))) else (bif Nat.blt t 35 then (bif Nat.blt t 34 then (some td33) else (some td34)) else (bif Nat.blt t 36 then (none) else (bif Nat.blt t 37 then (some td36) else (some td37))))))) else (bif Nat.blt t 57 then (bif Nat.blt t 47 then (bif Nat.blt t 42 then (bif Nat.blt t 40 then (bif Nat.blt t 39 then (some td38) else (some td39)) else (bif Nat.blt t 41 then (some td40) else (some td41))) else (bif Nat.blt t 44 then (bif Nat.blt t 43 then (some td42) else (some td43)) else (bif Nat.blt t 45 then (some td44) else (bif Nat.blt t 46 then (some td45) else (some td46))))) else (bif Nat.blt t 52 then (bif Nat.blt t 49 then (bif Nat.blt t 48 then (some td47) else (some td48)) else (bif Nat.blt t 50 then (some td49) else (bif Nat.blt t 51 then (some td50) else (some td51)))) else (bif Nat.blt t 54 then (bif Nat.blt t 53 then (some td52) else (some td53)) else (bif Nat.blt t 55 then (some td54) else (bif Nat.blt t 56 then (some td55) else (some td56)))))) else (bif Nat.blt t 67 then (bif Nat.blt t 62 then (bif Nat.blt t 59 then (bif Nat.blt t 58 then (some td57) else (some td58)) else (bif Nat.blt t 60 then (some td59) else (bif Nat.blt t 61 then (some td60) else (some td61)))) else (bif Nat.blt t 64 then (bif Nat.blt t 63 then (some td62) else (some td63)) else (bif Nat.blt t 65 then (some td64) else (bif Nat.blt t 66 then (some td65) else (some td66))))) else (bif Nat.blt t 72 then (bif Nat.blt t 69 then (bif Nat.blt t 68 then (some td67) else (some td68)) else (bif Nat.blt t 70 then (some td69) else (bif Nat.blt t 71 then (some td70) else (some td71)))) else (bif Nat.blt t 74 then (bif Nat.blt t 73 then (some td72) else (some td73)) else (bif Nat.blt t 75 then (some td74) else (bif Nat.blt t 76 then (some td75) else (some td76)))))))) else (bif Nat.blt t 116 then (bif Nat.blt t 96 then (bif Nat.blt t 86 then (bif Nat.blt t 81 then (bif Nat.blt t 79 then (bif Nat.blt t 78 then (some td77) else (some td78)) else (bif Nat.blt t 80 then (some td79) else (some td80))) else (bif Nat.blt t 83 then (bif Nat.blt t 82 then (some td81) else (some td82)) else (bif Nat.blt t 84 then (some td83) else (bif Nat.blt t 85 then (some td84) else (some td85))))) else (bif Nat.blt t 91 then (bif Nat.blt t 88 then (bif Nat.blt t 87 then (some td86) else (some td87)) else (bif Nat.blt t 89 then (some td88) else (bif Nat.blt t 90 then (some td89) else (some td90)))) else (bif Nat.blt t 93 then (bif Nat.blt t 92 then (some td91) else (some td92)) else (bif Nat.blt t 94 then (some td93) else (bif Nat.blt t 95 then (some td94) else (some td95)))))) else (bif Nat.blt t 106 then (bif Nat.blt t 101 then (bif Nat.blt t 98 then (bif Nat.blt t 97 then (some td96) else (some td97)) else (bif Nat.blt t 99 then (some td98) else (bif Nat.blt t 100 then (some td99) else (some td100)))) else (bif Nat.blt t 103 then (bif Nat.blt t 102 then (some td101) else (none)) else (bif Nat.blt t 104 then (some td103) else (bif Nat.blt t 105 then (some td104) else (some td105))))) else (bif Nat.blt t 111 then (bif Nat.blt t 108 then (bif Nat.blt t 107 then (some td106) else (some td107)) else (bif Nat.blt t 109 then (some td108) else (bif Nat.blt t 110 then (some td109) else (some td110)))) else (bif Nat.blt t 113 then (bif Nat.blt t 112 then (some td111) else (some td112)) else (bif Nat.blt t 114 then (some td113) else (bif Nat.blt t 115 then (some td114) else (some td115))))))) else (bif Nat.blt t 135 then (bif Nat.blt t 125 then (bif Nat.blt t 120 then (bif Nat.blt t 118 then (bif Nat.blt t 117 then (some td116) else (some td117)) else (bif Nat.blt t 119 then (some td118) else (some td119))) else (bif Nat.blt t 122 then (bif Nat.blt t 121 then (some td120) else (some td121)) else (bif Nat.blt t 123 then (some td122) else (bif Nat.blt t 124 then (some td123) else (some td124))))) else (bif Nat.blt t 130 then (bif Nat.blt t 127 then (bif Nat.blt t 126 then (none) else (some td126)) else (bif Nat.blt t 128 then (some td127) else (bif Nat.blt t 129 then (some td128) else (some td129)))) else (bif Nat.blt t 132 then (bif Nat.blt t 131 then (some td130) else (some td131)) else (bif Nat.blt t 133 then (some td132) else (bif Nat.blt t 134 then (some td133) else (some td134)))))) else (bif Nat.blt t 145 then (bif Nat.blt t 140 then (bif Nat.blt t 137 then (bif Nat.blt t 136 then (some td135) else (some td136)) else (bif Nat.blt t 138 then (none) else (bif Nat.blt t 139 then (some td138) else (some td139)))) else (bif Nat.blt t 142 then (bif Nat.blt t 141 then (some td140) else (some td141)) else (bif Nat.blt t 143 then (none) else (bif Nat.blt t 144 then (none) else (none))))) else (bif Nat.blt t 150 then (bif Nat.blt t 147 then (bif Nat.blt t 146 then (some td145) else (some td146)) else (bif Nat.blt t 148 then (some td147) else (bif Nat.blt t 149 then (some td148) else (some td149)))) else (bif Nat.blt t 152 then (bif Nat.blt t 151 then (some td150) else (some td151)) else (bif Nat.blt t 153 then (some td152) else (bif Nat.blt t 154 then (some td153) else (none))))))))) else none
noncomputable def factL (t : TypeId) : Option (Nat × Sh × Option Value) := (Try.prog.info? t).bind fun i => (Try.prog.underlying t).map fun u => (i.size, shapeOf u, i.zero)
theorem tyOk_of {t : TypeId} {d : TD} (h : ∀ S E, factL t = some (d.size, d.sh, some (d.zero.den S E))) (h1 : d.zero.one = true) (h2 : d.sh.agg = d.zero.aggr) (h3 : d.zero.size = d.size) : TyOk Try.prog t d := by
  have key : ∀ S E, ∃ i u, Try.prog.info? t = some i ∧ Try.prog.underlying t = some u ∧ i.size = d.size ∧ shapeOf u = d.sh ∧ i.zero = some (d.zero.den S E) := by
    intro S E
    have hh := h S E
    unfold factL at hh
    cases hi : Try.prog.info? t with
    | none => rw [hi] at hh; cases hh
    | some i =>
      cases hu : Try.prog.underlying t with
      | none => rw [hi, hu] at hh; cases hh
      | some u =>
        rw [hi, hu] at hh
        simp only [Option.bind_some, Option.map_some, Option.some.injEq, Prod.mk.injEq] at hh
        exact ⟨i, u, rfl, rfl, hh.1, hh.2.1, hh.2.2⟩
  refine ⟨?_, ?_, h1, h2, h3⟩
  · obtain ⟨i, u, a, b, e, f, _⟩ := key ⟨fun _ => (none, 0, 0), fun _ => 0, fun _ => false⟩ ⟨fun _ => default, fun _ => (0, false)⟩
    exact ⟨i, u, a, b, e, f⟩
  · intro S E
    obtain ⟨i, u, a, b, e, f, g⟩ := key S E
    rw [a]; exact g
theorem tk1 : TyOk Try.prog 1 td1 := tyOk_of (fun S E => by kernel_rfl) rfl rfl rfl
theorem tk2 : TyOk Try.prog 2 td2 := tyOk_of (fun S E => by kernel_rfl) rfl rfl rfl
theorem tk3 : TyOk Try.prog 3 td3 := tyOk_of (fun S E => by kernel_rfl) rfl rfl rfl
theorem tk4 : TyOk Try.prog 4 td4 := tyOk_of (fun S E => by kernel_rfl) rfl rfl rfl
theorem tk5 : TyOk Try.prog 5 td5 := tyOk_of (fun S E => by kernel_rfl) rfl rfl rfl
theorem tk6 : TyOk Try.prog 6 td6 := tyOk_of (fun S E => by kernel_rfl) rfl rfl rfl
theorem tk7 : TyOk Try.prog 7 td7 := tyOk_of (fun S E => by kernel_rfl) rfl rfl rfl
theorem tk8 : TyOk Try.prog 8 td8 := tyOk_of (fun S E => by kernel_rfl) rfl rfl rfl
theorem tk9 : TyOk Try.prog 9 td9 := tyOk_of (fun S E => by kernel_rfl) rfl rfl rfl
theorem tk10 : TyOk Try.prog 10 td10 := tyOk_of (fun S E => by kernel_rfl) rfl rfl rfl
theorem tk11 : TyOk Try.prog 11 td11 := tyOk_of (fun S E => by kernel_rfl) rfl rfl rfl
theorem tk12 : TyOk Try.prog 12 td12 := tyOk_of (fun S E => by kernel_rfl) rfl rfl rfl
theorem tk13 : TyOk Try.prog 13 td13 := tyOk_of (fun S E => by kernel_rfl) rfl rfl rfl
theorem tk14 : TyOk Try.prog 14 td14 := tyOk_of (fun S E => by kernel_rfl) rfl rfl rfl
theorem tk15 : TyOk Try.prog 15 td15 := tyOk_of (fun S E => by kernel_rfl) rfl rfl rfl
theorem tk16 : TyOk Try.prog 16 td16 := tyOk_of (fun S E => by kernel_rfl) rfl rfl rfl
theorem tk17 : TyOk Try.prog 17 td17 := tyOk_of (fun S E => by kernel_rfl) rfl rfl rfl
theorem tk18 : TyOk Try.prog 18 td18 := tyOk_of (fun S E => by kernel_rfl) rfl rfl rfl
theorem tk19 : TyOk Try.prog 19 td19 := tyOk_of (fun S E => by kernel_rfl) rfl rfl rfl
theorem tk21 : TyOk Try.prog 21 td21 := tyOk_of (fun S E => by kernel_rfl) rfl rfl rfl
theorem tk22 : TyOk Try.prog 22 td22 := tyOk_of (fun S E => by kernel_rfl) rfl rfl rfl
theorem tk23 : TyOk Try.prog 23 td23 := tyOk_of (fun S E => by kernel_rfl) rfl rfl rfl
theorem tk24 : TyOk Try.prog 24 td24 := tyOk_of (fun S E => by kernel_rfl) rfl rfl rfl
theorem tk25 : TyOk Try.prog 25 td25 := tyOk_of (fun S E => by kernel_rfl) rfl rfl rfl
theorem tk26 : TyOk Try.prog 26 td26 := tyOk_of (fun S E => by kernel_rfl) rfl rfl rfl
theorem tk27 : TyOk Try.prog 27 td27 := tyOk_of (fun S E => by kernel_rfl) rfl rfl rfl
theorem tk28 : TyOk Try.prog 28 td28 := tyOk_of (fun S E => by kernel_rfl) rfl rfl rfl
theorem tk29 : TyOk Try.prog 29 td29 := tyOk_of (fun S E => by kernel_rfl) rfl rfl rfl
theorem tk30 : TyOk Try.prog 30 td30 := tyOk_of (fun S E => by kernel_rfl) rfl rfl rfl
theorem tk31 : TyOk Try.prog 31 td31 := tyOk_of (fun S E => by kernel_rfl) rfl rfl rfl
theorem tk32 : TyOk Try.prog 32 td32 := tyOk_of (fun S E => by kernel_rfl) rfl rfl rfl
theorem tk33 : TyOk Try.prog 33 td33 := tyOk_of (fun S E => by kernel_rfl) rfl rfl rfl
theorem tk34 : TyOk Try.prog 34 td34 := tyOk_of (fun S E => by kernel_rfl) rfl rfl rfl
theorem tk36 : TyOk Try.prog 36 td36 := tyOk_of (fun S E => by kernel_rfl) rfl rfl rfl
theorem tk37 : TyOk Try.prog 37 td37 := tyOk_of (fun S E => by kernel_rfl) rfl rfl rfl
theorem tk38 : TyOk Try.prog 38 td38 := tyOk_of (fun S E => by kernel_rfl) rfl rfl rfl
theorem tk39 : TyOk Try.prog 39 td39 := tyOk_of (fun S E => by kernel_rfl) rfl rfl rfl
theorem tk40 : TyOk Try.prog 40 td40 := tyOk_of (fun S E => by kernel_rfl) rfl rfl rfl
theorem tk41 : TyOk Try.prog 41 td41 := tyOk_of (fun S E => by kernel_rfl) rfl rfl rfl
theorem tk42 : TyOk Try.prog 42 td42 := tyOk_of (fun S E => by kernel_rfl) rfl rfl rfl
theorem tk43 : TyOk Try.prog 43 td43 := tyOk_of (fun S E => by kernel_rfl) rfl rfl rfl
theorem tk44 : TyOk Try.prog 44 td44 := tyOk_of (fun S E => by kernel_rfl) rfl rfl rfl
theorem tk45 : TyOk Try.prog 45 td45 := tyOk_of (fun S E => by kernel_rfl) rfl rfl rfl
theorem tk46 : TyOk Try.prog 46 td46 := tyOk_of (fun S E => by kernel_rfl) rfl rfl rfl
theorem tk47 : TyOk Try.prog 47 td47 := tyOk_of (fun S E => by kernel_rfl) rfl rfl rfl
theorem tk48 : TyOk Try.prog 48 td48 := tyOk_of (fun S E => by kernel_rfl) rfl rfl rfl
theorem tk49 : TyOk Try.prog 49 td49 := tyOk_of (fun S E => by kernel_rfl) rfl rfl rfl
theorem tk50 : TyOk Try.prog 50 td50 := tyOk_of (fun S E => by kernel_rfl) rfl rfl rfl
theorem tk51 : TyOk Try.prog 51 td51 := tyOk_of (fun S E => by kernel_rfl) rfl rfl rfl
theorem tk52 : TyOk Try.prog 52 td52 := tyOk_of (fun S E => by kernel_rfl) rfl rfl rfl
theorem tk53 : TyOk Try.prog 53 td53 := tyOk_of (fun S E => by kernel_rfl) rfl rfl rfl
theorem tk54 : TyOk Try.prog 54 td54 := tyOk_of (fun S E => by kernel_rfl) rfl rfl rfl
theorem tk55 : TyOk Try.prog 55 td55 := tyOk_of (fun S E => by kernel_rfl) rfl rfl rfl
theorem tk56 : TyOk Try.prog 56 td56 := tyOk_of (fun S E => by kernel_rfl) rfl rfl rfl
theorem tk57 : TyOk Try.prog 57 td57 := tyOk_of (fun S E => by kernel_rfl) rfl rfl rfl
theorem tk58 : TyOk Try.prog 58 td58 := tyOk_of (fun S E => by kernel_rfl) rfl rfl rfl
theorem tk59 : TyOk Try.prog 59 td59 := tyOk_of (fun S E => by kernel_rfl) rfl rfl rfl
theorem tk60 : TyOk Try.prog 60 td60 := tyOk_of (fun S E => by kernel_rfl) rfl rfl rfl
theorem tk61 : TyOk Try.prog 61 td61 := tyOk_of (fun S E => by kernel_rfl) rfl rfl rfl
theorem tk62 : TyOk Try.prog 62 td62 := tyOk_of (fun S E => by kernel_rfl) rfl rfl rfl
theorem tk63 : TyOk Try.prog 63 td63 := tyOk_of (fun S E => by kernel_rfl) rfl rfl rfl
theorem tk64 : TyOk Try.prog 64 td64 := tyOk_of (fun S E => by kernel_rfl) rfl rfl rfl
theorem tk65 : TyOk Try.prog 65 td65 := tyOk_of (fun S E => by kernel_rfl) rfl rfl rfl
theorem tk66 : TyOk Try.prog 66 td66 := tyOk_of (fun S E => by kernel_rfl) rfl rfl rfl
theorem tk67 : TyOk Try.prog 67 td67 := tyOk_of (fun S E => by kernel_rfl) rfl rfl rfl
theorem tk68 : TyOk Try.prog 68 td68 := tyOk_of (fun S E => by kernel_rfl) rfl rfl rfl
theorem tk69 : TyOk Try.prog 69 td69 := tyOk_of (fun S E => by kernel_rfl) rfl rfl rfl
theorem tk70 : TyOk Try.prog 70 td70 := tyOk_of (fun S E => by kernel_rfl) rfl rfl rfl
theorem tk71 : TyOk Try.prog 71 td71 := tyOk_of (fun S E => by kernel_rfl) rfl rfl rfl
theorem tk72 : TyOk Try.prog 72 td72 := tyOk_of (fun S E => by kernel_rfl) rfl rfl rfl
theorem tk73 : TyOk Try.prog 73 td73 := tyOk_of (fun S E => by kernel_rfl) rfl rfl rfl
theorem tk74 : TyOk Try.prog 74 td74 := tyOk_of (fun S E => by kernel_rfl) rfl rfl rfl
theorem tk75 : TyOk Try.prog 75 td75 := tyOk_of (fun S E => by kernel_rfl) rfl rfl rfl
theorem tk76 : TyOk Try.prog 76 td76 := tyOk_of (fun S E => by kernel_rfl) rfl rfl rfl
theorem tk77 : TyOk Try.prog 77 td77 := tyOk_of (fun S E => by kernel_rfl) rfl rfl rfl
theorem tk78 : TyOk Try.prog 78 td78 := tyOk_of (fun S E => by kernel_rfl) rfl rfl rfl
theorem tk79 : TyOk Try.prog 79 td79 := tyOk_of (fun S E => by kernel_rfl) rfl rfl rfl
theorem tk80 : TyOk Try.prog 80 td80 := tyOk_of (fun S E => by kernel_rfl) rfl rfl rfl
theorem tk81 : TyOk Try.prog 81 td81 := tyOk_of (fun S E => by kernel_rfl) rfl rfl rfl
theorem tk82 : TyOk Try.prog 82 td82 := tyOk_of (fun S E => by kernel_rfl) rfl rfl rfl
theorem tk83 : TyOk Try.prog 83 td83 := tyOk_of (fun S E => by kernel_rfl) rfl rfl rfl
theorem tk84 : TyOk Try.prog 84 td84 := tyOk_of (fun S E => by kernel_rfl) rfl rfl rfl
theorem tk85 : TyOk Try.prog 85 td85 := tyOk_of (fun S E => by kernel_rfl) rfl rfl rfl
theorem tk86 : TyOk Try.prog 86 td86 := tyOk_of (fun S E => by kernel_rfl) rfl rfl rfl
theorem tk87 : TyOk Try.prog 87 td87 := tyOk_of (fun S E => by kernel_rfl) rfl rfl rfl
theorem tk88 : TyOk Try.prog 88 td88 := tyOk_of (fun S E => by kernel_rfl) rfl rfl rfl
theorem tk89 : TyOk Try.prog 89 td89 := tyOk_of (fun S E => by kernel_rfl) rfl rfl rfl
theorem tk90 : TyOk Try.prog 90 td90 := tyOk_of (fun S E => by kernel_rfl) rfl rfl rfl
theorem tk91 : TyOk Try.prog 91 td91 := tyOk_of (fun S E => by kernel_rfl) rfl rfl rfl
theorem tk92 : TyOk Try.prog 92 td92 := tyOk_of (fun S E => by kernel_rfl) rfl rfl rfl
theorem tk93 : TyOk Try.prog 93 td93 := tyOk_of (fun S E => by kernel_rfl) rfl rfl rfl
theorem tk94 : TyOk Try.prog 94 td94 := tyOk_of (fun S E => by kernel_rfl) rfl rfl rfl
theorem tk95 : TyOk Try.prog 95 td95 := tyOk_of (fun S E => by kernel_rfl) rfl rfl rfl
theorem tk96 : TyOk Try.prog 96 td96 := tyOk_of (fun S E => by kernel_rfl) rfl rfl rfl
theorem tk97 : TyOk Try.prog 97 td97 := tyOk_of (fun S E => by kernel_rfl) rfl rfl rfl
theorem tk98 : TyOk Try.prog 98 td98 := tyOk_of (fun S E => by kernel_rfl) rfl rfl rfl
theorem tk99 : TyOk Try.prog 99 td99 := tyOk_of (fun S E => by kernel_rfl) rfl rfl rfl
theorem tk100 : TyOk Try.prog 100 td100 := tyOk_of (fun S E => by kernel_rfl) rfl rfl rfl
theorem tk101 : TyOk Try.prog 101 td101 := tyOk_of (fun S E => by kernel_rfl) rfl rfl rfl
theorem tk103 : TyOk Try.prog 103 td103 := tyOk_of (fun S E => by kernel_rfl) rfl rfl rfl
theorem tk104 : TyOk Try.prog 104 td104 := tyOk_of (fun S E => by kernel_rfl) rfl rfl rfl
theorem tk105 : TyOk Try.prog 105 td105 := tyOk_of (fun S E => by kernel_rfl) rfl rfl rfl
theorem tk106 : TyOk Try.prog 106 td106 := tyOk_of (fun S E => by kernel_rfl) rfl rfl rfl
theorem tk107 : TyOk Try.prog 107 td107 := tyOk_of (fun S E => by kernel_rfl) rfl rfl rfl
theorem tk108 : TyOk Try.prog 108 td108 := tyOk_of (fun S E => by kernel_rfl) rfl rfl rfl
theorem tk109 : TyOk Try.prog 109 td109 := tyOk_of (fun S E => by kernel_rfl) rfl rfl rfl
theorem tk110 : TyOk Try.prog 110 td110 := tyOk_of (fun S E => by kernel_rfl) rfl rfl rfl
theorem tk111 : TyOk Try.prog 111 td111 := tyOk_of (fun S E => by kernel_rfl) rfl rfl rfl
theorem tk112 : TyOk Try.prog 112 td112 := tyOk_of (fun S E => by kernel_rfl) rfl rfl rfl
theorem tk113 : TyOk Try.prog 113 td113 := tyOk_of (fun S E => by kernel_rfl) rfl rfl rfl
theorem tk114 : TyOk Try.prog 114 td114 := tyOk_of (fun S E => by kernel_rfl) rfl rfl rfl
theorem tk115 : TyOk Try.prog 115 td115 := tyOk_of (fun S E => by kernel_rfl) rfl rfl rfl
theorem tk116 : TyOk Try.prog 116 td116 := tyOk_of (fun S E => by kernel_rfl) rfl rfl rfl
theorem tk117 : TyOk Try.prog 117 td117 := tyOk_of (fun S E => by kernel_rfl) rfl rfl rfl
theorem tk118 : TyOk Try.prog 118 td118 := tyOk_of (fun S E => by kernel_rfl) rfl rfl rfl
theorem tk119 : TyOk Try.prog 119 td119 := tyOk_of (fun S E => by kernel_rfl) rfl rfl rfl
theorem tk120 : TyOk Try.prog 120 td120 := tyOk_of (fun S E => by kernel_rfl) rfl rfl rfl
theorem tk121 : TyOk Try.prog 121 td121 := tyOk_of (fun S E => by kernel_rfl) rfl rfl rfl
theorem tk122 : TyOk Try.prog 122 td122 := tyOk_of (fun S E => by kernel_rfl) rfl rfl rfl
theorem tk123 : TyOk Try.prog 123 td123 := tyOk_of (fun S E => by kernel_rfl) rfl rfl rfl
theorem tk124 : TyOk Try.prog 124 td124 := tyOk_of (fun S E => by kernel_rfl) rfl rfl rfl
theorem tk126 : TyOk Try.prog 126 td126 := tyOk_of (fun S E => by kernel_rfl) rfl rfl rfl
theorem tk127 : TyOk Try.prog 127 td127 := tyOk_of (fun S E => by kernel_rfl) rfl rfl rfl
theorem tk128 : TyOk Try.prog 128 td128 := tyOk_of (fun S E => by kernel_rfl) rfl rfl rfl
theorem tk129 : TyOk Try.prog 129 td129 := tyOk_of (fun S E => by kernel_rfl) rfl rfl rfl
theorem tk130 : TyOk Try.prog 130 td130 := tyOk_of (fun S E => by kernel_rfl) rfl rfl rfl
theorem tk131 : TyOk Try.prog 131 td131 := tyOk_of (fun S E => by kernel_rfl) rfl rfl rfl
theorem tk132 : TyOk Try.prog 132 td132 := tyOk_of (fun S E => by kernel_rfl) rfl rfl rfl
theorem tk133 : TyOk Try.prog 133 td133 := tyOk_of (fun S E => by kernel_rfl) rfl rfl rfl
theorem tk134 : TyOk Try.prog 134 td134 := tyOk_of (fun S E => by kernel_rfl) rfl rfl rfl
theorem tk135 : TyOk Try.prog 135 td135 := tyOk_of (fun S E => by kernel_rfl) rfl rfl rfl
theorem tk136 : TyOk Try.prog 136 td136 := tyOk_of (fun S E => by kernel_rfl) rfl rfl rfl
theorem tk138 : TyOk Try.prog 138 td138 := tyOk_of (fun S E => by kernel_rfl) rfl rfl rfl
theorem tk139 : TyOk Try.prog 139 td139 := tyOk_of (fun S E => by kernel_rfl) rfl rfl rfl
theorem tk140 : TyOk Try.prog 140 td140 := tyOk_of (fun S E => by kernel_rfl) rfl rfl rfl
theorem tk141 : TyOk Try.prog 141 td141 := tyOk_of (fun S E => by kernel_rfl) rfl rfl rfl
theorem tk145 : TyOk Try.prog 145 td145 := tyOk_of (fun S E => by kernel_rfl) rfl rfl rfl
theorem tk146 : TyOk Try.prog 146 td146 := tyOk_of (fun S E => by kernel_rfl) rfl rfl rfl
theorem tk147 : TyOk Try.prog 147 td147 := tyOk_of (fun S E => by kernel_rfl) rfl rfl rfl
theorem tk148 : TyOk Try.prog 148 td148 := tyOk_of (fun S E => by kernel_rfl) rfl rfl rfl
theorem tk149 : TyOk Try.prog 149 td149 := tyOk_of (fun S E => by kernel_rfl) rfl rfl rfl
theorem tk150 : TyOk Try.prog 150 td150 := tyOk_of (fun S E => by kernel_rfl) rfl rfl rfl
theorem tk151 : TyOk Try.prog 151 td151 := tyOk_of (fun S E => by kernel_rfl) rfl rfl rfl
theorem tk152 : TyOk Try.prog 152 td152 := tyOk_of (fun S E => by kernel_rfl) rfl rfl rfl
theorem tk153 : TyOk Try.prog 153 td153 := tyOk_of (fun S E => by kernel_rfl) rfl rfl rfl
theorem tys_ok (t : Nat) (d : TD) (h : tys t = some d) : TyOk Try.prog t d := by
  unfold tys at h
  cases hb0 : Nat.blt t 155 with
  | false => rw [hb0] at h; cases h
  | true =>
    rw [hb0] at h; dsimp only [cond] at h
    have hlt0 : t < 155 := by simpa using hb0
    cases hb : Nat.blt t 77 with
    | true =>
      rw [hb] at h; dsimp only [cond] at h
      have hlt : t < 77 := by simpa using hb
      cases hb : Nat.blt t 38 with
      | true =>
        rw [hb] at h; dsimp only [cond] at h
        have hlt : t < 38 := by simpa using hb
        cases hb : Nat.blt t 19 with
        | true =>
          rw [hb] at h; dsimp only [cond] at h
          have hlt : t < 19 := by simpa using hb
          cases hb : Nat.blt t 9 with
          | true =>
            rw [hb] at h; dsimp only [cond] at h
            have hlt : t < 9 := by simpa using hb
            cases hb : Nat.blt t 4 with
            | true =>
              rw [hb] at h; dsimp only [cond] at h
              have hlt : t < 4 := by simpa using hb
              cases hb : Nat.blt t 2 with
              | true =>
                rw [hb] at h; dsimp only [cond] at h
                have hlt : t < 2 := by simpa using hb
                cases hb : Nat.blt t 1 with
                | true =>
                  rw [hb] at h; dsimp only [cond] at h
                  have hlt : t < 1 := by simpa using hb
                  cases h
                | false =>
                  rw [hb] at h; dsimp only [cond] at h
                  have hge : 1 ≤ t := by have : ¬ t < 1 := (fun hh => by rw [show Nat.blt t 1 = true from (by simpa using hh)] at hb; cases hb); omega
                  have ht : t = 1 := by omega
                  subst ht; injection h with h; subst h; exact tk1
              | false =>
                rw [hb] at h; dsimp only [cond] at h
                have hge : 2 ≤ t := by have : ¬ t < 2 := (fun hh => by rw [show Nat.blt t 2 = true from (by simpa using hh)] at hb; cases hb); omega
                cases hb : Nat.blt t 3 with
                | true =>
                  rw [hb] at h; dsimp only [cond] at h
                  have hlt : t < 3 := by simpa using hb
                  have ht : t = 2 := by omega
                  subst ht; injection h with h; subst h; exact tk2
                | false =>
                  rw [hb] at h; dsimp only [cond] at h
                  have hge : 3 ≤ t := by have : ¬ t < 3 := (fun hh => by rw [show Nat.blt t 3 = true from (by simpa using hh)] at hb; cases hb); omega
                  have ht : t = 3 := by omega
                  subst ht; injection h with h; subst h; exact tk3
            | false =>
              rw [hb] at h; dsimp only [cond] at h
              have hge : 4 ≤ t := by have : ¬ t < 4 := (fun hh => by rw [show Nat.blt t 4 = true from (by simpa using hh)] at hb; cases hb); omega
              cases hb : Nat.blt t 6 with
              | true =>
                rw [hb] at h; dsimp only [cond] at h
                have hlt : t < 6 := by simpa using hb
                cases hb : Nat.blt t 5 with
                | true =>
                  rw [hb] at h; dsimp only [cond] at h
                  have hlt : t < 5 := by simpa using hb
                  have ht : t = 4 := by omega
                  subst ht; injection h with h; subst h; exact tk4
                | false =>
                  rw [hb] at h; dsimp only [cond] at h
                  have hge : 5 ≤ t := by have : ¬ t < 5 := (fun hh => by rw [show Nat.blt t 5 = true from (by simpa using hh)] at hb; cases hb); omega
                  have ht : t = 5 := by omega
                  subst ht; injection h with h; subst h; exact tk5
              | false =>
                rw [hb] at h; dsimp only [cond] at h
                have hge : 6 ≤ t := by have : ¬ t < 6 := (fun hh => by rw [show Nat.blt t 6 = true from (by simpa using hh)] at hb; cases hb); omega
                cases hb : Nat.blt t 7 with
                | true =>
                  rw [hb] at h; dsimp only [cond] at h
                  have hlt : t < 7 := by simpa using hb
                  have ht : t = 6 := by omega
                  subst ht; injection h with h; subst h; exact tk6
                | false =>
                  rw [hb] at h; dsimp only [cond] at h
                  have hge : 7 ≤ t := by have : ¬ t < 7 := (fun hh => by rw [show Nat.blt t 7 = true from (by simpa using hh)] at hb; cases hb); omega
                  cases hb : Nat.blt t 8 with
                  | true =>
                    rw [hb] at h; dsimp only [cond] at h
                    have hlt : t < 8 := by simpa using hb
                    have ht : t = 7 := by omega
                    subst ht; injection h with h; subst h; exact tk7
                  | false =>
                    rw [hb] at h; dsimp only [cond] at h
                    have hge : 8 ≤ t := by have : ¬ t < 8 := (fun hh => by rw [show Nat.blt t 8 = true from (by simpa using hh)] at hb; cases hb); omega
                    have ht : t = 8 := by omega
                    subst ht; injection h with h; subst h; exact tk8
          | false =>
            rw [hb] at h; dsimp only [cond] at h
            have hge : 9 ≤ t := by have : ¬ t < 9 := (fun hh => by rw [show Nat.blt t 9 = true from (by simpa using hh)] at hb; cases hb); omega
            cases hb : Nat.blt t 14 with
            | true =>
              rw [hb] at h; dsimp only [cond] at h
              have hlt : t < 14 := by simpa using hb
              cases hb : Nat.blt t 11 with
              | true =>
                rw [hb] at h; dsimp only [cond] at h
                have hlt : t < 11 := by simpa using hb
                cases hb : Nat.blt t 10 with
                | true =>
                  rw [hb] at h; dsimp only [cond] at h
                  have hlt : t < 10 := by simpa using hb
                  have ht : t = 9 := by omega
                  subst ht; injection h with h; subst h; exact tk9
                | false =>
                  rw [hb] at h; dsimp only [cond] at h
                  have hge : 10 ≤ t := by have : ¬ t < 10 := (fun hh => by rw [show Nat.blt t 10 = true from (by simpa using hh)] at hb; cases hb); omega
                  have ht : t = 10 := by omega
                  subst ht; injection h with h; subst h; exact tk10
              | false =>
                rw [hb] at h; dsimp only [cond] at h
                have hge : 11 ≤ t := by have : ¬ t < 11 := (fun hh => by rw [show Nat.blt t 11 = true from (by simpa using hh)] at hb; cases hb); omega
                cases hb : Nat.blt t 12 with
                | true =>
                  rw [hb] at h; dsimp only [cond] at h
                  have hlt : t < 12 := by simpa using hb
                  have ht : t = 11 := by omega
                  subst ht; injection h with h; subst h; exact tk11
                | false =>
                  rw [hb] at h; dsimp only [cond] at h
                  have hge : 12 ≤ t := by have : ¬ t < 12 := (fun hh => by rw [show Nat.blt t 12 = true from (by simpa using hh)] at hb; cases hb); omega
                  cases hb : Nat.blt t 13 with
                  | true =>
                    rw [hb] at h; dsimp only [cond] at h
                    have hlt : t < 13 := by simpa using hb
                    have ht : t = 12 := by omega
                    subst ht; injection h with h; subst h; exact tk12
                  | false =>
                    rw [hb] at h; dsimp only [cond] at h
                    have hge : 13 ≤ t := by have : ¬ t < 13 := (fun hh => by rw [show Nat.blt t 13 = true from (by simpa using hh)] at hb; cases hb); omega
                    have ht : t = 13 := by omega
                    subst ht; injection h with h; subst h; exact tk13
            | false =>
              rw [hb] at h; dsimp only [cond] at h
              have hge : 14 ≤ t := by have : ¬ t < 14 := (fun hh => by rw [show Nat.blt t 14 = true from (by simpa using hh)] at hb; cases hb); omega
              cases hb : Nat.blt t 16 with
              | true =>
                rw [hb] at h; dsimp only [cond] at h
                have hlt : t < 16 := by simpa using hb
                cases hb : Nat.blt t 15 with
                | true =>
                  rw [hb] at h; dsimp only [cond] at h
                  have hlt : t < 15 := by simpa using hb
                  have ht : t = 14 := by omega
                  subst ht; injection h with h; subst h; exact tk14
                | false =>
                  rw [hb] at h; dsimp only [cond] at h
                  have hge : 15 ≤ t := by have : ¬ t < 15 := (fun hh => by rw [show Nat.blt t 15 = true from (by simpa using hh)] at hb; cases hb); omega
                  have ht : t = 15 := by omega
                  subst ht; injection h with h; subst h; exact tk15
              | false =>
                rw [hb] at h; dsimp only [cond] at h
                have hge : 16 ≤ t := by have : ¬ t < 16 := (fun hh => by rw [show Nat.blt t 16 = true from (by simpa using hh)] at hb; cases hb); omega
                cases hb : Nat.blt t 17 with
                | true =>
                  rw [hb] at h; dsimp only [cond] at h
                  have hlt : t < 17 := by simpa using hb
                  have ht : t = 16 := by omega
                  subst ht; injection h with h; subst h; exact tk16
                | false =>
                  rw [hb] at h; dsimp only [cond] at h
                  have hge : 17 ≤ t := by have : ¬ t < 17 := (fun hh => by rw [show Nat.blt t 17 = true from (by simpa using hh)] at hb; cases hb); omega
                  cases hb : Nat.blt t 18 with
                  | true =>
                    rw [hb] at h; dsimp only [cond] at h
                    have hlt : t < 18 := by simpa using hb
                    have ht : t = 17 := by omega
                    subst ht; injection h with h; subst h; exact tk17
                  | false =>
                    rw [hb] at h; dsimp only [cond] at h
                    have hge : 18 ≤ t := by have : ¬ t < 18 := (fun hh => by rw [show Nat.blt t 18 = true from (by simpa using hh)] at hb; cases hb); omega
                    have ht : t = 18 := by omega
                    subst ht; injection h with h; subst h; exact tk18
        | false =>
          rw [hb] at h; dsimp only [cond] at h
          have hge : 19 ≤ t := by have : ¬ t < 19 := (fun hh => by rw [show Nat.blt t 19 = true from (by simpa using hh)] at hb; cases hb); omega
          cases hb : Nat.blt t 28 with
          | true =>
            rw [hb] at h; dsimp only [cond] at h
            have hlt : t < 28 := by simpa using hb
            cases hb : Nat.blt t 23 with
            | true =>
              rw [hb] at h; dsimp only [cond] at h
              have hlt : t < 23 := by simpa using hb
              cases hb : Nat.blt t 21 with
              | true =>
                rw [hb] at h; dsimp only [cond] at h
                have hlt : t < 21 := by simpa using hb
                cases hb : Nat.blt t 20 with
                | true =>
                  rw [hb] at h; dsimp only [cond] at h
                  have hlt : t < 20 := by simpa using hb
                  have ht : t = 19 := by omega
                  subst ht; injection h with h; subst h; exact tk19
                | false =>
                  rw [hb] at h; dsimp only [cond] at h
                  have hge : 20 ≤ t := by have : ¬ t < 20 := (fun hh => by rw [show Nat.blt t 20 = true from (by simpa using hh)] at hb; cases hb); omega
                  cases h
              | false =>
                rw [hb] at h; dsimp only [cond] at h
                have hge : 21 ≤ t := by have : ¬ t < 21 := (fun hh => by rw [show Nat.blt t 21 = true from (by simpa using hh)] at hb; cases hb); omega
                cases hb : Nat.blt t 22 with
                | true =>
                  rw [hb] at h; dsimp only [cond] at h
                  have hlt : t < 22 := by simpa using hb
                  have ht : t = 21 := by omega
                  subst ht; injection h with h; subst h; exact tk21
                | false =>
                  rw [hb] at h; dsimp only [cond] at h
                  have hge : 22 ≤ t := by have : ¬ t < 22 := (fun hh => by rw [show Nat.blt t 22 = true from (by simpa using hh)] at hb; cases hb); omega
                  have ht : t = 22 := by omega
                  subst ht; injection h with h; subst h; exact tk22
            | false =>
              rw [hb] at h; dsimp only [cond] at h
              have hge : 23 ≤ t := by have : ¬ t < 23 := (fun hh => by rw [show Nat.blt t 23 = true from (by simpa using hh)] at hb; cases hb); omega
              cases hb : Nat.blt t 25 with
              | true =>
                rw [hb] at h; dsimp only [cond] at h
                have hlt : t < 25 := by simpa using hb
                cases hb : Nat.blt t 24 with
                | true =>
                  rw [hb] at h; dsimp only [cond] at h
                  have hlt : t < 24 := by simpa using hb
                  have ht : t = 23 := by omega
                  subst ht; injection h with h; subst h; exact tk23
                | false =>
                  rw [hb] at h; dsimp only [cond] at h
                  have hge : 24 ≤ t := by have : ¬ t < 24 := (fun hh => by rw [show Nat.blt t 24 = true from (by simpa using hh)] at hb; cases hb); omega
                  have ht : t = 24 := by omega
                  subst ht; injection h with h; subst h; exact tk24
              | false =>
                rw [hb] at h; dsimp only [cond] at h
                have hge : 25 ≤ t := by have : ¬ t < 25 := (fun hh => by rw [show Nat.blt t 25 = true from (by simpa using hh)] at hb; cases hb); omega
                cases hb : Nat.blt t 26 with
                | true =>
                  rw [hb] at h; dsimp only [cond] at h
                  have hlt : t < 26 := by simpa using hb
                  have ht : t = 25 := by omega
                  subst ht; injection h with h; subst h; exact tk25
                | false =>
                  rw [hb] at h; dsimp only [cond] at h
                  have hge : 26 ≤ t := by have : ¬ t < 26 := (fun hh => by rw [show Nat.blt t 26 = true from (by simpa using hh)] at hb; cases hb); omega
                  cases hb : Nat.blt t 27 with
                  | true =>
                    rw [hb] at h; dsimp only [cond] at h
                    have hlt : t < 27 := by simpa using hb
                    have ht : t = 26 := by omega
                    subst ht; injection h with h; subst h; exact tk26
                  | false =>
                    rw [hb] at h; dsimp only [cond] at h
                    have hge : 27 ≤ t := by have : ¬ t < 27 := (fun hh => by rw [show Nat.blt t 27 = true from (by simpa using hh)] at hb; cases hb); omega
                    have ht : t = 27 := by omega
                    subst ht; injection h with h; subst h; exact tk27
          | false =>
            rw [hb] at h; dsimp only [cond] at h
            have hge : 28 ≤ t := by have : ¬ t < 28 := (fun hh => by rw [show Nat.blt t 28 = true from (by simpa using hh)] at hb; cases hb); omega
            cases hb : Nat.blt t 33 with
            | true =>
              rw [hb] at h; dsimp only [cond] at h
              have hlt : t < 33 := by simpa using hb
              cases hb : Nat.blt t 30 with
              | true =>
                rw [hb] at h; dsimp only [cond] at h
                have hlt : t < 30 := by simpa using hb
                cases hb : Nat.blt t 29 with
                | true =>
                  rw [hb] at h; dsimp only [cond] at h
                  have hlt : t < 29 := by simpa using hb
                  have ht : t = 28 := by omega
                  subst ht; injection h with h; subst h; exact tk28
                | false =>
                  rw [hb] at h; dsimp only [cond] at h
                  have hge : 29 ≤ t := by have : ¬ t < 29 := (fun hh => by rw [show Nat.blt t 29 = true from (by simpa using hh)] at hb; cases hb); omega
                  have ht : t = 29 := by omega
                  subst ht; injection h with h; subst h; exact tk29
              | false =>
                rw [hb] at h; dsimp only [cond] at h
                have hge : 30 ≤ t := by have : ¬ t < 30 := (fun hh => by rw [show Nat.blt t 30 = true from (by simpa using hh)] at hb; cases hb); omega
                cases hb : Nat.blt t 31 with
                | true =>
                  rw [hb] at h; dsimp only [cond] at h
                  have hlt : t < 31 := by simpa using hb
                  have ht : t = 30 := by omega
                  subst ht; injection h with h; subst h; exact tk30
                | false =>
                  rw [hb] at h; dsimp only [cond] at h
                  have hge : 31 ≤ t := by have : ¬ t < 31 := (fun hh => by rw [show Nat.blt t 31 = true from (by simpa using hh)] at hb; cases hb); omega
                  cases hb : Nat.blt t 32 with
                  | true =>
                    rw [hb] at h; dsimp only [cond] at h
                    have hlt : t < 32 := by simpa using hb
                    have ht : t = 31 := by omega
                    subst ht; injection h with h; subst h; exact tk31
                  | false =>
                    rw [hb] at h; dsimp only [cond] at h
                    have hge : 32 ≤ t := by have : ¬ t < 32 := (fun hh => by rw [show Nat.blt t 32 = true from (by simpa using hh)] at hb; cases hb); omega
                    have ht : t = 32 := by omega
                    subst ht; injection h with h; subst h; exact tk32
            | false =>
              rw [hb] at h; dsimp only [cond] at h
              have hge : 33 ≤ t := by have : ¬ t < 33 := (fun hh => by rw [show Nat.blt t 33 = true from (by simpa using hh)] at hb; cases hb); omega
              cases hb : Nat.blt t 35 with
              | true =>
                rw [hb] at h; dsimp only [cond] at h
                have hlt : t < 35 := by simpa using hb
                cases hb : Nat.blt t 34 with
                | true =>
                  rw [hb] at h; dsimp only [cond] at h
                  have hlt : t < 34 := by simpa using hb
                  have ht : t = 33 := by omega
                  subst ht; injection h with h; subst h; exact tk33
                | false =>
                  rw [hb] at h; dsimp only [cond] at h
                  have hge : 34 ≤ t := by have : ¬ t < 34 := (fun hh => by rw [show Nat.blt t 34 = true from (by simpa using hh)] at hb; cases hb); omega
                  have ht : t = 34 := by omega
                  subst ht; injection h with h; subst h; exact tk34
              | false =>
                rw [hb] at h; dsimp only [cond] at h
                have hge : 35 ≤ t := by have : ¬ t < 35 := (fun hh => by rw [show Nat.blt t 35 = true from (by simpa using hh)] at hb; cases hb); omega
                cases hb : Nat.blt t 36 with
                | true =>
                  rw [hb] at h; dsimp only [cond] at h
                  have hlt : t < 36 := by simpa using hb
                  cases h
                | false =>
                  rw [hb] at h; dsimp only [cond] at h
                  have hge : 36 ≤ t := by have : ¬ t < 36 := (fun hh => by rw [show Nat.blt t 36 = true from (by simpa using hh)] at hb; cases hb); omega
                  cases hb : Nat.blt t 37 with
                  | true =>
                    rw [hb] at h; dsimp only [cond] at h
                    have hlt : t < 37 := by simpa using hb
                    have ht : t = 36 := by omega
                    subst ht; injection h with h; subst h; exact tk36
                  | false =>
                    rw [hb] at h; dsimp only [cond] at h
                    have hge : 37 ≤ t := by have : ¬ t < 37 := (fun hh => by rw [show Nat.blt t 37 = true from (by simpa using hh)] at hb; cases hb); omega
                    have ht : t = 37 := by omega
                    subst ht; injection h with h; subst h; exact tk37
      | false =>
        rw [hb] at h; dsimp only [cond] at h
        have hge : 38 ≤ t := by have : ¬ t < 38 := (fun hh => by rw [show Nat.blt t 38 = true from (by simpa using hh)] at hb; cases hb); omega
        cases hb : Nat.blt t 57 with
        | true =>
          rw [hb] at h; dsimp only [cond] at h
          have hlt : t < 57 := by simpa using hb
          cases hb : Nat.blt t 47 with
          | true =>
            rw [hb] at h; dsimp only [cond] at h
            have hlt : t < 47 := by simpa using hb
            cases hb : Nat.blt t 42 with
            | true =>
              rw [hb] at h; dsimp only [cond] at h
              have hlt : t < 42 := by simpa using hb
              cases hb : Nat.blt t 40 with
              | true =>
                rw [hb] at h; dsimp only [cond] at h
                have hlt : t < 40 := by simpa using hb
                cases hb : Nat.blt t 39 with
                | true =>
                  rw [hb] at h; dsimp only [cond] at h
                  have hlt : t < 39 := by simpa using hb
                  have ht : t = 38 := by omega
                  subst ht; injection h with h; subst h; exact tk38
                | false =>
                  rw [hb] at h; dsimp only [cond] at h
                  have hge : 39 ≤ t := by have : ¬ t < 39 := (fun hh => by rw [show Nat.blt t 39 = true from (by simpa using hh)] at hb; cases hb); omega
                  have ht : t = 39 := by omega
                  subst ht; injection h with h; subst h; exact tk39
              | false =>
                rw [hb] at h; dsimp only [cond] at h
                have hge : 40 ≤ t := by have : ¬ t < 40 := (fun hh => by rw [show Nat.blt t 40 = true from (by simpa using hh)] at hb; cases hb); omega
                cases hb : Nat.blt t 41 with
                | true =>
                  rw [hb] at h; dsimp only [cond] at h
                  have hlt : t < 41 := by simpa using hb
                  have ht : t = 40 := by omega
                  subst ht; injection h with h; subst h; exact tk40
                | false =>
                  rw [hb] at h; dsimp only [cond] at h
                  have hge : 41 ≤ t := by have : ¬ t < 41 := (fun hh => by rw [show Nat.blt t 41 = true from (by simpa using hh)] at hb; cases hb); omega
                  have ht : t = 41 := by omega
                  subst ht; injection h with h; subst h; exact tk41
            | false =>
              rw [hb] at h; dsimp only [cond] at h
              have hge : 42 ≤ t := by have : ¬ t < 42 := (fun hh => by rw [show Nat.blt t 42 = true from (by simpa using hh)] at hb; cases hb); omega
              cases hb : Nat.blt t 44 with
              | true =>
                rw [hb] at h; dsimp only [cond] at h
                have hlt : t < 44 := by simpa using hb
                cases hb : Nat.blt t 43 with
                | true =>
                  rw [hb] at h; dsimp only [cond] at h
                  have hlt : t < 43 := by simpa using hb
                  have ht : t = 42 := by omega
                  subst ht; injection h with h; subst h; exact tk42
                | false =>
                  rw [hb] at h; dsimp only [cond] at h
                  have hge : 43 ≤ t := by have : ¬ t < 43 := (fun hh => by rw [show Nat.blt t 43 = true from (by simpa using hh)] at hb; cases hb); omega
                  have ht : t = 43 := by omega
                  subst ht; injection h with h; subst h; exact tk43
              | false =>
                rw [hb] at h; dsimp only [cond] at h
                have hge : 44 ≤ t := by have : ¬ t < 44 := (fun hh => by rw [show Nat.blt t 44 = true from (by simpa using hh)] at hb; cases hb); omega
                cases hb : Nat.blt t 45 with
                | true =>
                  rw [hb] at h; dsimp only [cond] at h
                  have hlt : t < 45 := by simpa using hb
                  have ht : t = 44 := by omega
                  subst ht; injection h with h; subst h; exact tk44
                | false =>
                  rw [hb] at h; dsimp only [cond] at h
                  have hge : 45 ≤ t := by have : ¬ t < 45 := (fun hh => by rw [show Nat.blt t 45 = true from (by simpa using hh)] at hb; cases hb); omega
                  cases hb : Nat.blt t 46 with
                  | true =>
                    rw [hb] at h; dsimp only [cond] at h
                    have hlt : t < 46 := by simpa using hb
                    have ht : t = 45 := by omega
                    subst ht; injection h with h; subst h; exact tk45
                  | false =>
                    rw [hb] at h; dsimp only [cond] at h
                    have hge : 46 ≤ t := by have : ¬ t < 46 := (fun hh => by rw [show Nat.blt t 46 = true from (by simpa using hh)] at hb; cases hb); omega
                    have ht : t = 46 := by omega
                    subst ht; injection h with h; subst h; exact tk46
          | false =>
            rw [hb] at h; dsimp only [cond] at h
            have hge : 47 ≤ t := by have : ¬ t < 47 := (fun hh => by rw [show Nat.blt t 47 = true from (by simpa using hh)] at hb; cases hb); omega
            cases hb : Nat.blt t 52 with
            | true =>
              rw [hb] at h; dsimp only [cond] at h
              have hlt : t < 52 := by simpa using hb
              cases hb : Nat.blt t 49 with
              | true =>
                rw [hb] at h; dsimp only [cond] at h
                have hlt : t < 49 := by simpa using hb
                cases hb : Nat.blt t 48 with
                | true =>
                  rw [hb] at h; dsimp only [cond] at h
                  have hlt : t < 48 := by simpa using hb
                  have ht : t = 47 := by omega
                  subst ht; injection h with h; subst h; exact tk47
                | false =>
                  rw [hb] at h; dsimp only [cond] at h
                  have hge : 48 ≤ t := by have : ¬ t < 48 := (fun hh => by rw [show Nat.blt t 48 = true from (by simpa using hh)] at hb; cases hb); omega
                  have ht : t = 48 := by omega
                  subst ht; injection h with h; subst h; exact tk48
              | false =>
                rw [hb] at h; dsimp only [cond] at h
                have hge : 49 ≤ t := by have : ¬ t < 49 := (fun hh => by rw [show Nat.blt t 49 = true from (by simpa using hh)] at hb; cases hb); omega
                cases hb : Nat.blt t 50 with
                | true =>
                  rw [hb] at h; dsimp only [cond] at h
                  have hlt : t < 50 := by simpa using hb
                  have ht : t = 49 := by omega
                  subst ht; injection h with h; subst h; exact tk49
                | false =>
                  rw [hb] at h; dsimp only [cond] at h
                  have hge : 50 ≤ t := by have : ¬ t < 50 := (fun hh => by rw [show Nat.blt t 50 = true from (by simpa using hh)] at hb; cases hb); omega
                  cases hb : Nat.blt t 51 with
                  | true =>
                    rw [hb] at h; dsimp only [cond] at h
                    have hlt : t < 51 := by simpa using hb
                    have ht : t = 50 := by omega
                    subst ht; injection h with h; subst h; exact tk50
                  | false =>
                    rw [hb] at h; dsimp only [cond] at h
                    have hge : 51 ≤ t := by have : ¬ t < 51 := (fun hh => by rw [show Nat.blt t 51 = true from (by simpa using hh)] at hb; cases hb); omega
                    have ht : t = 51 := by omega
                    subst ht; injection h with h; subst h; exact tk51
            | false =>
              rw [hb] at h; dsimp only [cond] at h
              have hge : 52 ≤ t := by have : ¬ t < 52 := (fun hh => by rw [show Nat.blt t 52 = true from (by simpa using hh)] at hb; cases hb); omega
              cases hb : Nat.blt t 54 with
              | true =>
                rw [hb] at h; dsimp only [cond] at h
                have hlt : t < 54 := by simpa using hb
                cases hb : Nat.blt t 53 with
                | true =>
                  rw [hb] at h; dsimp only [cond] at h
                  have hlt : t < 53 := by simpa using hb
                  have ht : t = 52 := by omega
                  subst ht; injection h with h; subst h; exact tk52
                | false =>
                  rw [hb] at h; dsimp only [cond] at h
                  have hge : 53 ≤ t := by have : ¬ t < 53 := (fun hh => by rw [show Nat.blt t 53 = true from (by simpa using hh)] at hb; cases hb); omega
                  have ht : t = 53 := by omega
                  subst ht; injection h with h; subst h; exact tk53
              | false =>
                rw [hb] at h; dsimp only [cond] at h
                have hge : 54 ≤ t := by have : ¬ t < 54 := (fun hh => by rw [show Nat.blt t 54 = true from (by simpa using hh)] at hb; cases hb); omega
                cases hb : Nat.blt t 55 with
                | true =>
                  rw [hb] at h; dsimp only [cond] at h
                  have hlt : t < 55 := by simpa using hb
                  have ht : t = 54 := by omega
                  subst ht; injection h with h; subst h; exact tk54
                | false =>
                  rw [hb] at h; dsimp only [cond] at h
                  have hge : 55 ≤ t := by have : ¬ t < 55 := (fun hh => by rw [show Nat.blt t 55 = true from (by simpa using hh)] at hb; cases hb); omega
                  cases hb : Nat.blt t 56 with
                  | true =>
                    rw [hb] at h; dsimp only [cond] at h
                    have hlt : t < 56 := by simpa using hb
                    have ht : t = 55 := by omega
                    subst ht; injection h with h; subst h; exact tk55
                  | false =>
                    rw [hb] at h; dsimp only [cond] at h
                    have hge : 56 ≤ t := by have : ¬ t < 56 := (fun hh => by rw [show Nat.blt t 56 = true from (by simpa using hh)] at hb; cases hb); omega
                    have ht : t = 56 := by omega
                    subst ht; injection h with h; subst h; exact tk56
        | false =>
          rw [hb] at h; dsimp only [cond] at h
          have hge : 57 ≤ t := by have : ¬ t < 57 := (fun hh => by rw [show Nat.blt t 57 = true from (by simpa using hh)] at hb; cases hb); omega
          cases hb : Nat.blt t 67 with
          | true =>
            rw [hb] at h; dsimp only [cond] at h
            have hlt : t < 67 := by simpa using hb
            cases hb : Nat.blt t 62 with
            | true =>
              rw [hb] at h; dsimp only [cond] at h
              have hlt : t < 62 := by simpa using hb
              cases hb : Nat.blt t 59 with
              | true =>
                rw [hb] at h; dsimp only [cond] at h
                have hlt : t < 59 := by simpa using hb
                cases hb : Nat.blt t 58 with
                | true =>
                  rw [hb] at h; dsimp only [cond] at h
                  have hlt : t < 58 := by simpa using hb
                  have ht : t = 57 := by omega
                  subst ht; injection h with h; subst h; exact tk57
                | false =>
                  rw [hb] at h; dsimp only [cond] at h
                  have hge : 58 ≤ t := by have : ¬ t < 58 := (fun hh => by rw [show Nat.blt t 58 = true from (by simpa using hh)] at hb; cases hb); omega
                  have ht : t = 58 := by omega
                  subst ht; injection h with h; subst h; exact tk58
              | false =>
                rw [hb] at h; dsimp only [cond] at h
                have hge : 59 ≤ t := by have : ¬ t < 59 := (fun hh => by rw [show Nat.blt t 59 = true from (by simpa using hh)] at hb; cases hb); omega
                cases hb : Nat.blt t 60 with
                | true =>
                  rw [hb] at h; dsimp only [cond] at h
                  have hlt : t < 60 := by simpa using hb
                  have ht : t = 59 := by omega
                  subst ht; injection h with h; subst h; exact tk59
                | false =>
                  rw [hb] at h; dsimp only [cond] at h
                  have hge : 60 ≤ t := by have : ¬ t < 60 := (fun hh => by rw [show Nat.blt t 60 = true from (by simpa using hh)] at hb; cases hb); omega
                  cases hb : Nat.blt t 61 with
                  | true =>
                    rw [hb] at h; dsimp only [cond] at h
                    have hlt : t < 61 := by simpa using hb
                    have ht : t = 60 := by omega
                    subst ht; injection h with h; subst h; exact tk60
                  | false =>
                    rw [hb] at h; dsimp only [cond] at h
                    have hge : 61 ≤ t := by have : ¬ t < 61 := (fun hh => by rw [show Nat.blt t 61 = true from (by simpa using hh)] at hb; cases hb); omega
                    have ht : t = 61 := by omega
                    subst ht; injection h with h; subst h; exact tk61
            | false =>
              rw [hb] at h; dsimp only [cond] at h
              have hge : 62 ≤ t := by have : ¬ t < 62 := (fun hh => by rw [show Nat.blt t 62 = true from (by simpa using hh)] at hb; cases hb); omega
              cases hb : Nat.blt t 64 with
              | true =>
                rw [hb] at h; dsimp only [cond] at h
                have hlt : t < 64 := by simpa using hb
                cases hb : Nat.blt t 63 with
                | true =>
                  rw [hb] at h; dsimp only [cond] at h
                  have hlt : t < 63 := by simpa using hb
                  have ht : t = 62 := by omega
                  subst ht; injection h with h; subst h; exact tk62
                | false =>
                  rw [hb] at h; dsimp only [cond] at h
                  have hge : 63 ≤ t := by have : ¬ t < 63 := (fun hh => by rw [show Nat.blt t 63 = true from (by simpa using hh)] at hb; cases hb); omega
                  have ht : t = 63 := by omega
                  subst ht; injection h with h; subst h; exact tk63
              | false =>
                rw [hb] at h; dsimp only [cond] at h
                have hge : 64 ≤ t := by have : ¬ t < 64 := (fun hh => by rw [show Nat.blt t 64 = true from (by simpa using hh)] at hb; cases hb); omega
                cases hb : Nat.blt t 65 with
                | true =>
                  rw [hb] at h; dsimp only [cond] at h
                  have hlt : t < 65 := by simpa using hb
                  have ht : t = 64 := by omega
                  subst ht; injection h with h; subst h; exact tk64
                | false =>
                  rw [hb] at h; dsimp only [cond] at h
                  have hge : 65 ≤ t := by have : ¬ t < 65 := (fun hh => by rw [show Nat.blt t 65 = true from (by simpa using hh)] at hb; cases hb); omega
                  cases hb : Nat.blt t 66 with
                  | true =>
                    rw [hb] at h; dsimp only [cond] at h
                    have hlt : t < 66 := by simpa using hb
                    have ht : t = 65 := by omega
                    subst ht; injection h with h; subst h; exact tk65
                  | false =>
                    rw [hb] at h; dsimp only [cond] at h
                    have hge : 66 ≤ t := by have : ¬ t < 66 := (fun hh => by rw [show Nat.blt t 66 = true from (by simpa using hh)] at hb; cases hb); omega
                    have ht : t = 66 := by omega
                    subst ht; injection h with h; subst h; exact tk66
          | false =>
            rw [hb] at h; dsimp only [cond] at h
            have hge : 67 ≤ t := by have : ¬ t < 67 := (fun hh => by rw [show Nat.blt t 67 = true from (by simpa using hh)] at hb; cases hb); omega
            cases hb : Nat.blt t 72 with
            | true =>
              rw [hb] at h; dsimp only [cond] at h
              have hlt : t < 72 := by simpa using hb
              cases hb : Nat.blt t 69 with
              | true =>
                rw [hb] at h; dsimp only [cond] at h
                have hlt : t < 69 := by simpa using hb
                cases hb : Nat.blt t 68 with
                | true =>
                  rw [hb] at h; dsimp only [cond] at h
                  have hlt : t < 68 := by simpa using hb
                  have ht : t = 67 := by omega
                  subst ht; injection h with h; subst h; exact tk67
                | false =>
                  rw [hb] at h; dsimp only [cond] at h
                  have hge : 68 ≤ t := by have : ¬ t < 68 := (fun hh => by rw [show Nat.blt t 68 = true from (by simpa using hh)] at hb; cases hb); omega
                  have ht : t = 68 := by omega
                  subst ht; injection h with h; subst h; exact tk68
              | false =>
                rw [hb] at h; dsimp only [cond] at h
                have hge : 69 ≤ t := by have : ¬ t < 69 := (fun hh => by rw [show Nat.blt t 69 = true from (by simpa using hh)] at hb; cases hb); omega
                cases hb : Nat.blt t 70 with
                | true =>
                  rw [hb] at h; dsimp only [cond] at h
                  have hlt : t < 70 := by simpa using hb
                  have ht : t = 69 := by omega
                  subst ht; injection h with h; subst h; exact tk69
                | false =>
                  rw [hb] at h; dsimp only [cond] at h
                  have hge : 70 ≤ t := by have : ¬ t < 70 := (fun hh => by rw [show Nat.blt t 70 = true from (by simpa using hh)] at hb; cases hb); omega
                  cases hb : Nat.blt t 71 with
                  | true =>
                    rw [hb] at h; dsimp only [cond] at h
                    have hlt : t < 71 := by simpa using hb
                    have ht : t = 70 := by omega
                    subst ht; injection h with h; subst h; exact tk70
                  | false =>
                    rw [hb] at h; dsimp only [cond] at h
                    have hge : 71 ≤ t := by have : ¬ t < 71 := (fun hh => by rw [show Nat.blt t 71 = true from (by simpa using hh)] at hb; cases hb); omega
                    have ht : t = 71 := by omega
                    subst ht; injection h with h; subst h; exact tk71
            | false =>
              rw [hb] at h; dsimp only [cond] at h
              have hge : 72 ≤ t := by have : ¬ t < 72 := (fun hh => by rw [show Nat.blt t 72 = true from (by simpa using hh)] at hb; cases hb); omega
              cases hb : Nat.blt t 74 with
              | true =>
                rw [hb] at h; dsimp only [cond] at h
                have hlt : t < 74 := by simpa using hb
                cases hb : Nat.blt t 73 with
                | true =>
                  rw [hb] at h; dsimp only [cond] at h
                  have hlt : t < 73 := by simpa using hb
                  have ht : t = 72 := by omega
                  subst ht; injection h with h; subst h; exact tk72
                | false =>
                  rw [hb] at h; dsimp only [cond] at h
                  have hge : 73 ≤ t := by have : ¬ t < 73 := (fun hh => by rw [show Nat.blt t 73 = true from (by simpa using hh)] at hb; cases hb); omega
                  have ht : t = 73 := by omega
                  subst ht; injection h with h; subst h; exact tk73
              | false =>
                rw [hb] at h; dsimp only [cond] at h
                have hge : 74 ≤ t := by have : ¬ t < 74 := (fun hh => by rw [show Nat.blt t 74 = true from (by simpa using hh)] at hb; cases hb); omega
                cases hb : Nat.blt t 75 with
                | true =>
                  rw [hb] at h; dsimp only [cond] at h
                  have hlt : t < 75 := by simpa using hb
                  have ht : t = 74 := by omega
                  subst ht; injection h with h; subst h; exact tk74
                | false =>
                  rw [hb] at h; dsimp only [cond] at h
                  have hge : 75 ≤ t := by have : ¬ t < 75 := (fun hh => by rw [show Nat.blt t 75 = true from (by simpa using hh)] at hb; cases hb); omega
                  cases hb : Nat.blt t 76 with
                  | true =>
                    rw [hb] at h; dsimp only [cond] at h
                    have hlt : t < 76 := by simpa using hb
                    have ht : t = 75 := by omega
                    subst ht; injection h with h; subst h; exact tk75
                  | false =>
                    rw [hb] at h; dsimp only [cond] at h
                    have hge : 76 ≤ t := by have : ¬ t < 76 := (fun hh => by rw [show Nat.blt t 76 = true from (by simpa using hh)] at hb; cases hb); omega
                    have ht : t = 76 := by omega
                    subst ht; injection h with h; subst h; exact tk76
    | false =>
      rw [hb] at h; dsimp only [cond] at h
      have hge : 77 ≤ t := by have : ¬ t < 77 := (fun hh => by rw [show Nat.blt t 77 = true from (by simpa using hh)] at hb; cases hb); omega
      cases hb : Nat.blt t 116 with
      | true =>
        rw [hb] at h; dsimp only [cond] at h
        have hlt : t < 116 := by simpa using hb
        cases hb : Nat.blt t 96 with
        | true =>
          rw [hb] at h; dsimp only [cond] at h
          have hlt : t < 96 := by simpa using hb
          cases hb : Nat.blt t 86 with
          | true =>
            rw [hb] at h; dsimp only [cond] at h
            have hlt : t < 86 := by simpa using hb
            cases hb : Nat.blt t 81 with
            | true =>
              rw [hb] at h; dsimp only [cond] at h
              have hlt : t < 81 := by simpa using hb
              cases hb : Nat.blt t 79 with
              | true =>
                rw [hb] at h; dsimp only [cond] at h
                have hlt : t < 79 := by simpa using hb
                cases hb : Nat.blt t 78 with
                | true =>
                  rw [hb] at h; dsimp only [cond] at h
                  have hlt : t < 78 := by simpa using hb
                  have ht : t = 77 := by omega
                  subst ht; injection h with h; subst h; exact tk77
                | false =>
                  rw [hb] at h; dsimp only [cond] at h
                  have hge : 78 ≤ t := by have : ¬ t < 78 := (fun hh => by rw [show Nat.blt t 78 = true from (by simpa using hh)] at hb; cases hb); omega
                  have ht : t = 78 := by omega
                  subst ht; injection h with h; subst h; exact tk78
              | false =>
                rw [hb] at h; dsimp only [cond] at h
                have hge : 79 ≤ t := by have : ¬ t < 79 := (fun hh => by rw [show Nat.blt t 79 = true from (by simpa using hh)] at hb; cases hb); omega
                cases hb : Nat.blt t 80 with
                | true =>
                  rw [hb] at h; dsimp only [cond] at h
                  have hlt : t < 80 := by simpa using hb
                  have ht : t = 79 := by omega
                  subst ht; injection h with h; subst h; exact tk79
                | false =>
                  rw [hb] at h; dsimp only [cond] at h
                  have hge : 80 ≤ t := by have : ¬ t < 80 := (fun hh => by rw [show Nat.blt t 80 = true from (by simpa using hh)] at hb; cases hb); omega
                  have ht : t = 80 := by omega
                  subst ht; injection h with h; subst h; exact tk80
            | false =>
              rw [hb] at h; dsimp only [cond] at h
              have hge : 81 ≤ t := by have : ¬ t < 81 := (fun hh => by rw [show Nat.blt t 81 = true from (by simpa using hh)] at hb; cases hb); omega
              cases hb : Nat.blt t 83 with
              | true =>
                rw [hb] at h; dsimp only [cond] at h
                have hlt : t < 83 := by simpa using hb
                cases hb : Nat.blt t 82 with
                | true =>
                  rw [hb] at h; dsimp only [cond] at h
                  have hlt : t < 82 := by simpa using hb
                  have ht : t = 81 := by omega
                  subst ht; injection h with h; subst h; exact tk81
                | false =>
                  rw [hb] at h; dsimp only [cond] at h
                  have hge : 82 ≤ t := by have : ¬ t < 82 := (fun hh => by rw [show Nat.blt t 82 = true from (by simpa using hh)] at hb; cases hb); omega
                  have ht : t = 82 := by omega
                  subst ht; injection h with h; subst h; exact tk82
              | false =>
                rw [hb] at h; dsimp only [cond] at h
                have hge : 83 ≤ t := by have : ¬ t < 83 := (fun hh => by rw [show Nat.blt t 83 = true from (by simpa using hh)] at hb; cases hb); omega
                cases hb : Nat.blt t 84 with
                | true =>
                  rw [hb] at h; dsimp only [cond] at h
                  have hlt : t < 84 := by simpa using hb
                  have ht : t = 83 := by omega
                  subst ht; injection h with h; subst h; exact tk83
                | false =>
                  rw [hb] at h; dsimp only [cond] at h
                  have hge : 84 ≤ t := by have : ¬ t < 84 := (fun hh => by rw [show Nat.blt t 84 = true from (by simpa using hh)] at hb; cases hb); omega
                  cases hb : Nat.blt t 85 with
                  | true =>
                    rw [hb] at h; dsimp only [cond] at h
                    have hlt : t < 85 := by simpa using hb
                    have ht : t = 84 := by omega
                    subst ht; injection h with h; subst h; exact tk84
                  | false =>
                    rw [hb] at h; dsimp only [cond] at h
                    have hge : 85 ≤ t := by have : ¬ t < 85 := (fun hh => by rw [show Nat.blt t 85 = true from (by simpa using hh)] at hb; cases hb); omega
                    have ht : t = 85 := by omega
                    subst ht; injection h with h; subst h; exact tk85
          | false =>
            rw [hb] at h; dsimp only [cond] at h
            have hge : 86 ≤ t := by have : ¬ t < 86 := (fun hh => by rw [show Nat.blt t 86 = true from (by simpa using hh)] at hb; cases hb); omega
            cases hb : Nat.blt t 91 with
            | true =>
              rw [hb] at h; dsimp only [cond] at h
              have hlt : t < 91 := by simpa using hb
              cases hb : Nat.blt t 88 with
              | true =>
                rw [hb] at h; dsimp only [cond] at h
                have hlt : t < 88 := by simpa using hb
                cases hb : Nat.blt t 87 with
                | true =>
                  rw [hb] at h; dsimp only [cond] at h
                  have hlt : t < 87 := by simpa using hb
                  have ht : t = 86 := by omega
                  subst ht; injection h with h; subst h; exact tk86
                | false =>
                  rw [hb] at h; dsimp only [cond] at h
                  have hge : 87 ≤ t := by have : ¬ t < 87 := (fun hh => by rw [show Nat.blt t 87 = true from (by simpa using hh)] at hb; cases hb); omega
                  have ht : t = 87 := by omega
                  subst ht; injection h with h; subst h; exact tk87
              | false =>
                rw [hb] at h; dsimp only [cond] at h
                have hge : 88 ≤ t := by have : ¬ t < 88 := (fun hh => by rw [show Nat.blt t 88 = true from (by simpa using hh)] at hb; cases hb); omega
                cases hb : Nat.blt t 89 with
                | true =>
                  rw [hb] at h; dsimp only [cond] at h
                  have hlt : t < 89 := by simpa using hb
                  have ht : t = 88 := by omega
                  subst ht; injection h with h; subst h; exact tk88
                | false =>
                  rw [hb] at h; dsimp only [cond] at h
                  have hge : 89 ≤ t := by have : ¬ t < 89 := (fun hh => by rw [show Nat.blt t 89 = true from (by simpa using hh)] at hb; cases hb); omega
                  cases hb : Nat.blt t 90 with
                  | true =>
                    rw [hb] at h; dsimp only [cond] at h
                    have hlt : t < 90 := by simpa using hb
                    have ht : t = 89 := by omega
                    subst ht; injection h with h; subst h; exact tk89
                  | false =>
                    rw [hb] at h; dsimp only [cond] at h
                    have hge : 90 ≤ t := by have : ¬ t < 90 := (fun hh => by rw [show Nat.blt t 90 = true from (by simpa using hh)] at hb; cases hb); omega
                    have ht : t = 90 := by omega
                    subst ht; injection h with h; subst h; exact tk90
            | false =>
              rw [hb] at h; dsimp only [cond] at h
              have hge : 91 ≤ t := by have : ¬ t < 91 := (fun hh => by rw [show Nat.blt t 91 = true from (by simpa using hh)] at hb; cases hb); omega
              cases hb : Nat.blt t 93 with
              | true =>
                rw [hb] at h; dsimp only [cond] at h
                have hlt : t < 93 := by simpa using hb
                cases hb : Nat.blt t 92 with
                | true =>
                  rw [hb] at h; dsimp only [cond] at h
                  have hlt : t < 92 := by simpa using hb
                  have ht : t = 91 := by omega
                  subst ht; injection h with h; subst h; exact tk91
                | false =>
                  rw [hb] at h; dsimp only [cond] at h
                  have hge : 92 ≤ t := by have : ¬ t < 92 := (fun hh => by rw [show Nat.blt t 92 = true from (by simpa using hh)] at hb; cases hb); omega
                  have ht : t = 92 := by omega
                  subst ht; injection h with h; subst h; exact tk92
              | false =>
                rw [hb] at h; dsimp only [cond] at h
                have hge : 93 ≤ t := by have : ¬ t < 93 := (fun hh => by rw [show Nat.blt t 93 = true from (by simpa using hh)] at hb; cases hb); omega
                cases hb : Nat.blt t 94 with
                | true =>
                  rw [hb] at h; dsimp only [cond] at h
                  have hlt : t < 94 := by simpa using hb
                  have ht : t = 93 := by omega
                  subst ht; injection h with h; subst h; exact tk93
                | false =>
                  rw [hb] at h; dsimp only [cond] at h
                  have hge : 94 ≤ t := by have : ¬ t < 94 := (fun hh => by rw [show Nat.blt t 94 = true from (by simpa using hh)] at hb; cases hb); omega
                  cases hb : Nat.blt t 95 with
                  | true =>
                    rw [hb] at h; dsimp only [cond] at h
                    have hlt : t < 95 := by simpa using hb
                    have ht : t = 94 := by omega
                    subst ht; injection h with h; subst h; exact tk94
                  | false =>
                    rw [hb] at h; dsimp only [cond] at h
                    have hge : 95 ≤ t := by have : ¬ t < 95 := (fun hh => by rw [show Nat.blt t 95 = true from (by simpa using hh)] at hb; cases hb); omega
                    have ht : t = 95 := by omega
                    subst ht; injection h with h; subst h; exact tk95
        | false =>
          rw [hb] at h; dsimp only [cond] at h
          have hge : 96 ≤ t := by have : ¬ t < 96 := (fun hh => by rw [show Nat.blt t 96 = true from (by simpa using hh)] at hb; cases hb); omega
          cases hb : Nat.blt t 106 with
          | true =>
            rw [hb] at h; dsimp only [cond] at h
            have hlt : t < 106 := by simpa using hb
            cases hb : Nat.blt t 101 with
            | true =>
              rw [hb] at h; dsimp only [cond] at h
              have hlt : t < 101 := by simpa using hb
              cases hb : Nat.blt t 98 with
              | true =>
                rw [hb] at h; dsimp only [cond] at h
                have hlt : t < 98 := by simpa using hb
                cases hb : Nat.blt t 97 with
                | true =>
                  rw [hb] at h; dsimp only [cond] at h
                  have hlt : t < 97 := by simpa using hb
                  have ht : t = 96 := by omega
                  subst ht; injection h with h; subst h; exact tk96
                | false =>
                  rw [hb] at h; dsimp only [cond] at h
                  have hge : 97 ≤ t := by have : ¬ t < 97 := (fun hh => by rw [show Nat.blt t 97 = true from (by simpa using hh)] at hb; cases hb); omega
                  have ht : t = 97 := by omega
                  subst ht; injection h with h; subst h; exact tk97
              | false =>
                rw [hb] at h; dsimp only [cond] at h
                have hge : 98 ≤ t := by have : ¬ t < 98 := (fun hh => by rw [show Nat.blt t 98 = true from (by simpa using hh)] at hb; cases hb); omega
                cases hb : Nat.blt t 99 with
                | true =>
                  rw [hb] at h; dsimp only [cond] at h
                  have hlt : t < 99 := by simpa using hb
                  have ht : t = 98 := by omega
                  subst ht; injection h with h; subst h; exact tk98
                | false =>
                  rw [hb] at h; dsimp only [cond] at h
                  have hge : 99 ≤ t := by have : ¬ t < 99 := (fun hh => by rw [show Nat.blt t 99 = true from (by simpa using hh)] at hb; cases hb); omega
                  cases hb : Nat.blt t 100 with
                  | true =>
                    rw [hb] at h; dsimp only [cond] at h
                    have hlt : t < 100 := by simpa using hb
                    have ht : t = 99 := by omega
                    subst ht; injection h with h; subst h; exact tk99
                  | false =>
                    rw [hb] at h; dsimp only [cond] at h
                    have hge : 100 ≤ t := by have : ¬ t < 100 := (fun hh => by rw [show Nat.blt t 100 = true from (by simpa using hh)] at hb; cases hb); omega
                    have ht : t = 100 := by omega
                    subst ht; injection h with h; subst h; exact tk100
            | false =>
              rw [hb] at h; dsimp only [cond] at h
              have hge : 101 ≤ t := by have : ¬ t < 101 := (fun hh => by rw [show Nat.blt t 101 = true from (by simpa using hh)] at hb; cases hb); omega
              cases hb : Nat.blt t 103 with
              | true =>
                rw [hb] at h; dsimp only [cond] at h
                have hlt : t < 103 := by simpa using hb
                cases hb : Nat.blt t 102 with
                | true =>
                  rw [hb] at h; dsimp only [cond] at h
                  have hlt : t < 102 := by simpa using hb
                  have ht : t = 101 := by omega
                  subst ht; injection h with h; subst h; exact tk101
                | false =>
                  rw [hb] at h; dsimp only [cond] at h
                  have hge : 102 ≤ t := by have : ¬ t < 102 := (fun hh => by rw [show Nat.blt t 102 = true from (by simpa using hh)] at hb; cases hb); omega
                  cases h
              | false =>
                rw [hb] at h; dsimp only [cond] at h
                have hge : 103 ≤ t := by have : ¬ t < 103 := (fun hh => by rw [show Nat.blt t 103 = true from (by simpa using hh)] at hb; cases hb); omega
                cases hb : Nat.blt t 104 with
                | true =>
                  rw [hb] at h; dsimp only [cond] at h
                  have hlt : t < 104 := by simpa using hb
                  have ht : t = 103 := by omega
                  subst ht; injection h with h; subst h; exact tk103
                | false =>
                  rw [hb] at h; dsimp only [cond] at h
                  have hge : 104 ≤ t := by have : ¬ t < 104 := (fun hh => by rw [show Nat.blt t 104 = true from (by simpa using hh)] at hb; cases hb); omega
                  cases hb : Nat.blt t 105 with
                  | true =>
                    rw [hb] at h; dsimp only [cond] at h
                    have hlt : t < 105 := by simpa using hb
                    have ht : t = 104 := by omega
                    subst ht; injection h with h; subst h; exact tk104
                  | false =>
                    rw [hb] at h; dsimp only [cond] at h
                    have hge : 105 ≤ t := by have : ¬ t < 105 := (fun hh => by rw [show Nat.blt t 105 = true from (by simpa using hh)] at hb; cases hb); omega
                    have ht : t = 105 := by omega
                    subst ht; injection h with h; subst h; exact tk105
          | false =>
            rw [hb] at h; dsimp only [cond] at h
            have hge : 106 ≤ t := by have : ¬ t < 106 := (fun hh => by rw [show Nat.blt t 106 = true from (by simpa using hh)] at hb; cases hb); omega
            cases hb : Nat.blt t 111 with
            | true =>
              rw [hb] at h; dsimp only [cond] at h
              have hlt : t < 111 := by simpa using hb
              cases hb : Nat.blt t 108 with
              | true =>
                rw [hb] at h; dsimp only [cond] at h
                have hlt : t < 108 := by simpa using hb
                cases hb : Nat.blt t 107 with
                | true =>
                  rw [hb] at h; dsimp only [cond] at h
                  have hlt : t < 107 := by simpa using hb
                  have ht : t = 106 := by omega
                  subst ht; injection h with h; subst h; exact tk106
                | false =>
                  rw [hb] at h; dsimp only [cond] at h
                  have hge : 107 ≤ t := by have : ¬ t < 107 := (fun hh => by rw [show Nat.blt t 107 = true from (by simpa using hh)] at hb; cases hb); omega
                  have ht : t = 107 := by omega
                  subst ht; injection h with h; subst h; exact tk107
              | false =>
                rw [hb] at h; dsimp only [cond] at h
                have hge : 108 ≤ t := by have : ¬ t < 108 := (fun hh => by rw [show Nat.blt t 108 = true from (by simpa using hh)] at hb; cases hb); omega
                cases hb : Nat.blt t 109 with
                | true =>
                  rw [hb] at h; dsimp only [cond] at h
                  have hlt : t < 109 := by simpa using hb
                  have ht : t = 108 := by omega
                  subst ht; injection h with h; subst h; exact tk108
                | false =>
                  rw [hb] at h; dsimp only [cond] at h
                  have hge : 109 ≤ t := by have : ¬ t < 109 := (fun hh => by rw [show Nat.blt t 109 = true from (by simpa using hh)] at hb; cases hb); omega
                  cases hb : Nat.blt t 110 with
                  | true =>
                    rw [hb] at h; dsimp only [cond] at h
                    have hlt : t < 110 := by simpa using hb
                    have ht : t = 109 := by omega
                    subst ht; injection h with h; subst h; exact tk109
                  | false =>
                    rw [hb] at h; dsimp only [cond] at h
                    have hge : 110 ≤ t := by have : ¬ t < 110 := (fun hh => by rw [show Nat.blt t 110 = true from (by simpa using hh)] at hb; cases hb); omega
                    have ht : t = 110 := by omega
                    subst ht; injection h with h; subst h; exact tk110
            | false =>
              rw [hb] at h; dsimp only [cond] at h
              have hge : 111 ≤ t := by have : ¬ t < 111 := (fun hh => by rw [show Nat.blt t 111 = true from (by simpa using hh)] at hb; cases hb); omega
              cases hb : Nat.blt t 113 with
              | true =>
                rw [hb] at h; dsimp only [cond] at h
                have hlt : t < 113 := by simpa using hb
                cases hb : Nat.blt t 112 with
                | true =>
                  rw [hb] at h; dsimp only [cond] at h
                  have hlt : t < 112 := by simpa using hb
                  have ht : t = 111 := by omega
                  subst ht; injection h with h; subst h; exact tk111
                | false =>
                  rw [hb] at h; dsimp only [cond] at h
                  have hge : 112 ≤ t := by have : ¬ t < 112 := (fun hh => by rw [show Nat.blt t 112 = true from (by simpa using hh)] at hb; cases hb); omega
                  have ht : t = 112 := by omega
                  subst ht; injection h with h; subst h; exact tk112
              | false =>
                rw [hb] at h; dsimp only [cond] at h
                have hge : 113 ≤ t := by have : ¬ t < 113 := (fun hh => by rw [show Nat.blt t 113 = true from (by simpa using hh)] at hb; cases hb); omega
                cases hb : Nat.blt t 114 with
                | true =>
                  rw [hb] at h; dsimp only [cond] at h
                  have hlt : t < 114 := by simpa using hb
                  have ht : t = 113 := by omega
                  subst ht; injection h with h; subst h; exact tk113
                | false =>
                  rw [hb] at h; dsimp only [cond] at h
                  have hge : 114 ≤ t := by have : ¬ t < 114 := (fun hh => by rw [show Nat.blt t 114 = true from (by simpa using hh)] at hb; cases hb); omega
                  cases hb : Nat.blt t 115 with
                  | true =>
                    rw [hb] at h; dsimp only [cond] at h
                    have hlt : t < 115 := by simpa using hb
                    have ht : t = 114 := by omega
                    subst ht; injection h with h; subst h; exact tk114
                  | false =>
                    rw [hb] at h; dsimp only [cond] at h
                    have hge : 115 ≤ t := by have : ¬ t < 115 := (fun hh => by rw [show Nat.blt t 115 = true from (by simpa using hh)] at hb; cases hb); omega
                    have ht : t = 115 := by omega
                    subst ht; injection h with h; subst h; exact tk115
      | false =>
        rw [hb] at h; dsimp only [cond] at h
        have hge : 116 ≤ t := by have : ¬ t < 116 := (fun hh => by rw [show Nat.blt t 116 = true from (by simpa using hh)] at hb; cases hb); omega
        cases hb : Nat.blt t 135 with
        | true =>
          rw [hb] at h; dsimp only [cond] at h
          have hlt : t < 135 := by simpa using hb
          cases hb : Nat.blt t 125 with
          | true =>
            rw [hb] at h; dsimp only [cond] at h
            have hlt : t < 125 := by simpa using hb
            cases hb : Nat.blt t 120 with
            | true =>
              rw [hb] at h; dsimp only [cond] at h
              have hlt : t < 120 := by simpa using hb
              cases hb : Nat.blt t 118 with
              | true =>
                rw [hb] at h; dsimp only [cond] at h
                have hlt : t < 118 := by simpa using hb
                cases hb : Nat.blt t 117 with
                | true =>
                  rw [hb] at h; dsimp only [cond] at h
                  have hlt : t < 117 := by simpa using hb
                  have ht : t = 116 := by omega
                  subst ht; injection h with h; subst h; exact tk116
                | false =>
                  rw [hb] at h; dsimp only [cond] at h
                  have hge : 117 ≤ t := by have : ¬ t < 117 := (fun hh => by rw [show Nat.blt t 117 = true from (by simpa using hh)] at hb; cases hb); omega
                  have ht : t = 117 := by omega
                  subst ht; injection h with h; subst h; exact tk117
              | false =>
                rw [hb] at h; dsimp only [cond] at h
                have hge : 118 ≤ t := by have : ¬ t < 118 := (fun hh => by rw [show Nat.blt t 118 = true from (by simpa using hh)] at hb; cases hb); omega
                cases hb : Nat.blt t 119 with
                | true =>
                  rw [hb] at h; dsimp only [cond] at h
                  have hlt : t < 119 := by simpa using hb
                  have ht : t = 118 := by omega
                  subst ht; injection h with h; subst h; exact tk118
                | false =>
                  rw [hb] at h; dsimp only [cond] at h
                  have hge : 119 ≤ t := by have : ¬ t < 119 := (fun hh => by rw [show Nat.blt t 119 = true from (by simpa using hh)] at hb; cases hb); omega
                  have ht : t = 119 := by omega
                  subst ht; injection h with h; subst h; exact tk119
            | false =>
              rw [hb] at h; dsimp only [cond] at h
              have hge : 120 ≤ t := by have : ¬ t < 120 := (fun hh => by rw [show Nat.blt t 120 = true from (by simpa using hh)] at hb; cases hb); omega
              cases hb : Nat.blt t 122 with
              | true =>
                rw [hb] at h; dsimp only [cond] at h
                have hlt : t < 122 := by simpa using hb
                cases hb : Nat.blt t 121 with
                | true =>
                  rw [hb] at h; dsimp only [cond] at h
                  have hlt : t < 121 := by simpa using hb
                  have ht : t = 120 := by omega
                  subst ht; injection h with h; subst h; exact tk120
                | false =>
                  rw [hb] at h; dsimp only [cond] at h
                  have hge : 121 ≤ t := by have : ¬ t < 121 := (fun hh => by rw [show Nat.blt t 121 = true from (by simpa using hh)] at hb; cases hb); omega
                  have ht : t = 121 := by omega
                  subst ht; injection h with h; subst h; exact tk121
              | false =>
                rw [hb] at h; dsimp only [cond] at h
                have hge : 122 ≤ t := by have : ¬ t < 122 := (fun hh => by rw [show Nat.blt t 122 = true from (by simpa using hh)] at hb; cases hb); omega
                cases hb : Nat.blt t 123 with
                | true =>
                  rw [hb] at h; dsimp only [cond] at h
                  have hlt : t < 123 := by simpa using hb
                  have ht : t = 122 := by omega
                  subst ht; injection h with h; subst h; exact tk122
                | false =>
                  rw [hb] at h; dsimp only [cond] at h
                  have hge : 123 ≤ t := by have : ¬ t < 123 := (fun hh => by rw [show Nat.blt t 123 = true from (by simpa using hh)] at hb; cases hb); omega
                  cases hb : Nat.blt t 124 with
                  | true =>
                    rw [hb] at h; dsimp only [cond] at h
                    have hlt : t < 124 := by simpa using hb
                    have ht : t = 123 := by omega
                    subst ht; injection h with h; subst h; exact tk123
                  | false =>
                    rw [hb] at h; dsimp only [cond] at h
                    have hge : 124 ≤ t := by have : ¬ t < 124 := (fun hh => by rw [show Nat.blt t 124 = true from (by simpa using hh)] at hb; cases hb); omega
                    have ht : t = 124 := by omega
                    subst ht; injection h with h; subst h; exact tk124
          | false =>
            rw [hb] at h; dsimp only [cond] at h
            have hge : 125 ≤ t := by have : ¬ t < 125 := (fun hh => by rw [show Nat.blt t 125 = true from (by simpa using hh)] at hb; cases hb); omega
            cases hb : Nat.blt t 130 with
            | true =>
              rw [hb] at h; dsimp only [cond] at h
              have hlt : t < 130 := by simpa using hb
              cases hb : Nat.blt t 127 with
              | true =>
                rw [hb] at h; dsimp only [cond] at h
                have hlt : t < 127 := by simpa using hb
                cases hb : Nat.blt t 126 with
                | true =>
                  rw [hb] at h; dsimp only [cond] at h
                  have hlt : t < 126 := by simpa using hb
                  cases h
                | false =>
                  rw [hb] at h; dsimp only [cond] at h
                  have hge : 126 ≤ t := by have : ¬ t < 126 := (fun hh => by rw [show Nat.blt t 126 = true from (by simpa using hh)] at hb; cases hb); omega
                  have ht : t = 126 := by omega
                  subst ht; injection h with h; subst h; exact tk126
              | false =>
                rw [hb] at h; dsimp only [cond] at h
                have hge : 127 ≤ t := by have : ¬ t < 127 := (fun hh => by rw [show Nat.blt t 127 = true from (by simpa using hh)] at hb; cases hb); omega
                cases hb : Nat.blt t 128 with
                | true =>
                  rw [hb] at h; dsimp only [cond] at h
                  have hlt : t < 128 := by simpa using hb
                  have ht : t = 127 := by omega
                  subst ht; injection h with h; subst h; exact tk127
                | false =>
                  rw [hb] at h; dsimp only [cond] at h
                  have hge : 128 ≤ t := by have : ¬ t < 128 := (fun hh => by rw [show Nat.blt t 128 = true from (by simpa using hh)] at hb; cases hb); omega
                  cases hb : Nat.blt t 129 with
                  | true =>
                    rw [hb] at h; dsimp only [cond] at h
                    have hlt : t < 129 := by simpa using hb
                    have ht : t = 128 := by omega
                    subst ht; injection h with h; subst h; exact tk128
                  | false =>
                    rw [hb] at h; dsimp only [cond] at h
                    have hge : 129 ≤ t := by have : ¬ t < 129 := (fun hh => by rw [show Nat.blt t 129 = true from (by simpa using hh)] at hb; cases hb); omega
                    have ht : t = 129 := by omega
                    subst ht; injection h with h; subst h; exact tk129
            | false =>
              rw [hb] at h; dsimp only [cond] at h
              have hge : 130 ≤ t := by have : ¬ t < 130 := (fun hh => by rw [show Nat.blt t 130 = true from (by simpa using hh)] at hb; cases hb); omega
              cases hb : Nat.blt t 132 with
              | true =>
                rw [hb] at h; dsimp only [cond] at h
                have hlt : t < 132 := by simpa using hb
                cases hb : Nat.blt t 131 with
                | true =>
                  rw [hb] at h; dsimp only [cond] at h
                  have hlt : t < 131 := by simpa using hb
                  have ht : t = 130 := by omega
                  subst ht; injection h with h; subst h; exact tk130
                | false =>
                  rw [hb] at h; dsimp only [cond] at h
                  have hge : 131 ≤ t := by have : ¬ t < 131 := (fun hh => by rw [show Nat.blt t 131 = true from (by simpa using hh)] at hb; cases hb); omega
                  have ht : t = 131 := by omega
                  subst ht; injection h with h; subst h; exact tk131
              | false =>
                rw [hb] at h; dsimp only [cond] at h
                have hge : 132 ≤ t := by have : ¬ t < 132 := (fun hh => by rw [show Nat.blt t 132 = true from (by simpa using hh)] at hb; cases hb); omega
                cases hb : Nat.blt t 133 with
                | true =>
                  rw [hb] at h; dsimp only [cond] at h
                  have hlt : t < 133 := by simpa using hb
                  have ht : t = 132 := by omega
                  subst ht; injection h with h; subst h; exact tk132
                | false =>
                  rw [hb] at h; dsimp only [cond] at h
                  have hge : 133 ≤ t := by have : ¬ t < 133 := (fun hh => by rw [show Nat.blt t 133 = true from (by simpa using hh)] at hb; cases hb); omega
                  cases hb : Nat.blt t 134 with
                  | true =>
                    rw [hb] at h; dsimp only [cond] at h
                    have hlt : t < 134 := by simpa using hb
                    have ht : t = 133 := by omega
                    subst ht; injection h with h; subst h; exact tk133
                  | false =>
                    rw [hb] at h; dsimp only [cond] at h
                    have hge : 134 ≤ t := by have : ¬ t < 134 := (fun hh => by rw [show Nat.blt t 134 = true from (by simpa using hh)] at hb; cases hb); omega
                    have ht : t = 134 := by omega
                    subst ht; injection h with h; subst h; exact tk134
        | false =>
          rw [hb] at h; dsimp only [cond] at h
          have hge : 135 ≤ t := by have : ¬ t < 135 := (fun hh => by rw [show Nat.blt t 135 = true from (by simpa using hh)] at hb; cases hb); omega
          cases hb : Nat.blt t 145 with
          | true =>
            rw [hb] at h; dsimp only [cond] at h
            have hlt : t < 145 := by simpa using hb
            cases hb : Nat.blt t 140 with
            | true =>
              rw [hb] at h; dsimp only [cond] at h
              have hlt : t < 140 := by simpa using hb
              cases hb : Nat.blt t 137 with
              | true =>
                rw [hb] at h; dsimp only [cond] at h
                have hlt : t < 137 := by simpa using hb
                cases hb : Nat.blt t 136 with
                | true =>
                  rw [hb] at h; dsimp only [cond] at h
                  have hlt : t < 136 := by simpa using hb
                  have ht : t = 135 := by omega
                  subst ht; injection h with h; subst h; exact tk135
                | false =>
                  rw [hb] at h; dsimp only [cond] at h
                  have hge : 136 ≤ t := by have : ¬ t < 136 := (fun hh => by rw [show Nat.blt t 136 = true from (by simpa using hh)] at hb; cases hb); omega
                  have ht : t = 136 := by omega
                  subst ht; injection h with h; subst h; exact tk136
              | false =>
                rw [hb] at h; dsimp only [cond] at h
                have hge : 137 ≤ t := by have : ¬ t < 137 := (fun hh => by rw [show Nat.blt t 137 = true from (by simpa using hh)] at hb; cases hb); omega
                cases hb : Nat.blt t 138 with
                | true =>
                  rw [hb] at h; dsimp only [cond] at h
                  have hlt : t < 138 := by simpa using hb
                  cases h
                | false =>
                  rw [hb] at h; dsimp only [cond] at h
                  have hge : 138 ≤ t := by have : ¬ t < 138 := (fun hh => by rw [show Nat.blt t 138 = true from (by simpa using hh)] at hb; cases hb); omega
                  cases hb : Nat.blt t 139 with
                  | true =>
                    rw [hb] at h; dsimp only [cond] at h
                    have hlt : t < 139 := by simpa using hb
                    have ht : t = 138 := by omega
                    subst ht; injection h with h; subst h; exact tk138
                  | false =>
                    rw [hb] at h; dsimp only [cond] at h
                    have hge : 139 ≤ t := by have : ¬ t < 139 := (fun hh => by rw [show Nat.blt t 139 = true from (by simpa using hh)] at hb; cases hb); omega
                    have ht : t = 139 := by omega
                    subst ht; injection h with h; subst h; exact tk139
            | false =>
              rw [hb] at h; dsimp only [cond] at h
              have hge : 140 ≤ t := by have : ¬ t < 140 := (fun hh => by rw [show Nat.blt t 140 = true from (by simpa using hh)] at hb; cases hb); omega
              cases hb : Nat.blt t 142 with
              | true =>
                rw [hb] at h; dsimp only [cond] at h
                have hlt : t < 142 := by simpa using hb
                cases hb : Nat.blt t 141 with
                | true =>
                  rw [hb] at h; dsimp only [cond] at h
                  have hlt : t < 141 := by simpa using hb
                  have ht : t = 140 := by omega
                  subst ht; injection h with h; subst h; exact tk140
                | false =>
                  rw [hb] at h; dsimp only [cond] at h
                  have hge : 141 ≤ t := by have : ¬ t < 141 := (fun hh => by rw [show Nat.blt t 141 = true from (by simpa using hh)] at hb; cases hb); omega
                  have ht : t = 141 := by omega
                  subst ht; injection h with h; subst h; exact tk141
              | false =>
                rw [hb] at h; dsimp only [cond] at h
                have hge : 142 ≤ t := by have : ¬ t < 142 := (fun hh => by rw [show Nat.blt t 142 = true from (by simpa using hh)] at hb; cases hb); omega
                cases hb : Nat.blt t 143 with
                | true =>
                  rw [hb] at h; dsimp only [cond] at h
                  have hlt : t < 143 := by simpa using hb
                  cases h
                | false =>
                  rw [hb] at h; dsimp only [cond] at h
                  have hge : 143 ≤ t := by have : ¬ t < 143 := (fun hh => by rw [show Nat.blt t 143 = true from (by simpa using hh)] at hb; cases hb); omega
                  cases hb : Nat.blt t 144 with
                  | true =>
                    rw [hb] at h; dsimp only [cond] at h
                    have hlt : t < 144 := by simpa using hb
                    cases h
                  | false =>
                    rw [hb] at h; dsimp only [cond] at h
                    have hge : 144 ≤ t := by have : ¬ t < 144 := (fun hh => by rw [show Nat.blt t 144 = true from (by simpa using hh)] at hb; cases hb); omega
                    cases h
          | false =>
            rw [hb] at h; dsimp only [cond] at h
            have hge : 145 ≤ t := by have : ¬ t < 145 := (fun hh => by rw [show Nat.blt t 145 = true from (by simpa using hh)] at hb; cases hb); omega
            cases hb : Nat.blt t 150 with
            | true =>
              rw [hb] at h; dsimp only [cond] at h
              have hlt : t < 150 := by simpa using hb
              cases hb : Nat.blt t 147 with
              | true =>
                rw [hb] at h; dsimp only [cond] at h
                have hlt : t < 147 := by simpa using hb
                cases hb : Nat.blt t 146 with
                | true =>
                  rw [hb] at h; dsimp only [cond] at h
                  have hlt : t < 146 := by simpa using hb
                  have ht : t = 145 := by omega
                  subst ht; injection h with h; subst h; exact tk145
                | false =>
                  rw [hb] at h; dsimp only [cond] at h
                  have hge : 146 ≤ t := by have : ¬ t < 146 := (fun hh => by rw [show Nat.blt t 146 = true from (by simpa using hh)] at hb; cases hb); omega
                  have ht : t = 146 := by omega
                  subst ht; injection h with h; subst h; exact tk146
              | false =>
                rw [hb] at h; dsimp only [cond] at h
                have hge : 147 ≤ t := by have : ¬ t < 147 := (fun hh => by rw [show Nat.blt t 147 = true from (by simpa using hh)] at hb; cases hb); omega
                cases hb : Nat.blt t 148 with
                | true =>
                  rw [hb] at h; dsimp only [cond] at h
                  have hlt : t < 148 := by simpa using hb
                  have ht : t = 147 := by omega
                  subst ht; injection h with h; subst h; exact tk147
                | false =>
                  rw [hb] at h; dsimp only [cond] at h
                  have hge : 148 ≤ t := by have : ¬ t < 148 := (fun hh => by rw [show Nat.blt t 148 = true from (by simpa using hh)] at hb; cases hb); omega
                  cases hb : Nat.blt t 149 with
                  | true =>
                    rw [hb] at h; dsimp only [cond] at h
                    have hlt : t < 149 := by simpa using hb
                    have ht : t = 148 := by omega
                    subst ht; injection h with h; subst h; exact tk148
                  | false =>
                    rw [hb] at h; dsimp only [cond] at h
                    have hge : 149 ≤ t := by have : ¬ t < 149 := (fun hh => by rw [show Nat.blt t 149 = true from (by simpa using hh)] at hb; cases hb); omega
                    have ht : t = 149 := by omega
                    subst ht; injection h with h; subst h; exact tk149
            | false =>
              rw [hb] at h; dsimp only [cond] at h
              have hge : 150 ≤ t := by have : ¬ t < 150 := (fun hh => by rw [show Nat.blt t 150 = true from (by simpa using hh)] at hb; cases hb); omega
              cases hb : Nat.blt t 152 with
              | true =>
                rw [hb] at h; dsimp only [cond] at h
                have hlt : t < 152 := by simpa using hb
                cases hb : Nat.blt t 151 with
                | true =>
                  rw [hb] at h; dsimp only [cond] at h
                  have hlt : t < 151 := by simpa using hb
                  have ht : t = 150 := by omega
                  subst ht; injection h with h; subst h; exact tk150
                | false =>
                  rw [hb] at h; dsimp only [cond] at h
                  have hge : 151 ≤ t := by have : ¬ t < 151 := (fun hh => by rw [show Nat.blt t 151 = true from (by simpa using hh)] at hb; cases hb); omega
                  have ht : t = 151 := by omega
                  subst ht; injection h with h; subst h; exact tk151
              | false =>
                rw [hb] at h; dsimp only [cond] at h
                have hge : 152 ≤ t := by have : ¬ t < 152 := (fun hh => by rw [show Nat.blt t 152 = true from (by simpa using hh)] at hb; cases hb); omega
                cases hb : Nat.blt t 153 with
                | true =>
                  rw [hb] at h; dsimp only [cond] at h
                  have hlt : t < 153 := by simpa using hb
                  have ht : t = 152 := by omega
                  subst ht; injection h with h; subst h; exact tk152
                | false =>
                  rw [hb] at h; dsimp only [cond] at h
                  have hge : 153 ≤ t := by have : ¬ t < 153 := (fun hh => by rw [show Nat.blt t 153 = true from (by simpa using hh)] at hb; cases hb); omega
                  cases hb : Nat.blt t 154 with
                  | true =>
                    rw [hb] at h; dsimp only [cond] at h
                    have hlt : t < 154 := by simpa using hb
                    have ht : t = 153 := by omega
                    subst ht; injection h with h; subst h; exact tk153
                  | false =>
                    rw [hb] at h; dsimp only [cond] at h
                    have hge : 154 ≤ t := by have : ¬ t < 154 := (fun hh => by rw [show Nat.blt t 154 = true from (by simpa using hh)] at hb; cases hb); omega
                    cases h
def structTys : List Nat := [7, 8, 29, 30, 33, 34, 52, 53, 56, 57, 65, 66, 68, 69, 70, 71, 72, 73, 74, 75, 76, 77, 91, 96, 97, 114, 115]
theorem structTys_ok : (structTys.all fun t => !(Try.prog.stoodInHeld t) && !(Try.prog.eqGuardType Try.prog.depth t)) = true := by kernel_rfl
theorem structNames_ok : (structTys.all fun t => match Try.prog.underlying t with | some (.struct fs) => fs.toList.all fun f => f.name != "_" | _ => false) = true := by kernel_rfl
theorem tys_flds0 : ((List.range 155).all fun t => match tys t with | some ⟨_, .strct fs, _⟩ => fs.all fun f => (tys f.2).isSome | _ => true) = true := by kernel_rfl
theorem tys_flds (t z1 : Nat) (fs : List (Nat × TypeId)) (z2 : SV) (h : tys t = some ⟨z1, .strct fs, z2⟩) : (fs.all fun f => (tys f.2).isSome) = true := by
  have hlt : t < 155 := by
    unfold tys at h
    cases hb : Nat.blt t 155 with
    | false => rw [hb] at h; cases h
    | true => simpa using hb
  have := List.all_eq_true.1 tys_flds0 t (List.mem_range.2 hlt)
  rw [h] at this
  exact this
theorem tys_small0 : ((List.range 155).all fun t => match Try.prog.info? t with | some i => Nat.ble i.bytes 1048576 | none => true) = true := by kernel_rfl
theorem tys_small (t : Nat) (d : TD) (i : TypeInfo) (h : tys t = some d) (hi : Try.prog.info? t = some i) : i.bytes ≤ 1048576 := by
  have hlt : t < 155 := by
    unfold tys at h
    cases hb : Nat.blt t 155 with
    | false => rw [hb] at h; cases h
    | true => simpa using hb
  have := List.all_eq_true.1 tys_small0 t (List.mem_range.2 hlt)
  rw [hi] at this
  simpa using this
theorem mixed : Try.prog.follows .mixedOrders = true := by kernel_rfl
end Go.Proofs.Ytfncoeoaniclmaa
