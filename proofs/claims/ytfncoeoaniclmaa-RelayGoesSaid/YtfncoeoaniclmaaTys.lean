/- The table of types, and that it is right. Printed by gentys.py of this repo. -/
import Derived.Test.YtfncoeoaniclmaaPerf
import Derived.KernelRfl
set_option linter.unusedVariables false
set_option maxRecDepth 100000
namespace Go.Proofs.Ytfncoeoaniclmaa
open Go Go.RowKit
def td1 : TD := ⟨1, .func, .v .nilFunc⟩
def td2 : TD := ⟨1, .int .i64, .ki .i64 0⟩
def td3 : TD := ⟨1, .int .i64, .ki .i64 0⟩
def td4 : TD := ⟨1, .bool, .kb false⟩
def td5 : TD := ⟨1, .int .u8, .ki .u8 0⟩
def td6 : TD := ⟨1, .int .u8, .ki .u8 0⟩
def td7 : TD := ⟨4, .strct [(0, 2), (1, 3), (2, 4), (3, 6)], .agg [.ki .i64 0, .ki .i64 0, .kb false, .ki .u8 0]⟩
def td8 : TD := ⟨4, .strct [(0, 2), (1, 3), (2, 4), (3, 6)], .agg [.ki .i64 0, .ki .i64 0, .kb false, .ki .u8 0]⟩
def td9 : TD := ⟨1, .str, .v (.string ⟨#[]⟩)⟩
def td10 : TD := ⟨1, .str, .v (.string ⟨#[]⟩)⟩
def td11 : TD := ⟨1, .str, .v (.string ⟨#[]⟩)⟩
def td12 : TD := ⟨1, .int .u64, .ki .u64 0⟩
def td13 : TD := ⟨2, .strct [(0, 9), (1, 12)], .agg [.v (.string ⟨#[]⟩), .ki .u64 0]⟩
def td14 : TD := ⟨2, .strct [(0, 9), (1, 12)], .agg [.v (.string ⟨#[]⟩), .ki .u64 0]⟩
def td15 : TD := ⟨1, .ptr 141, .v (.pointer none)⟩
def td16 : TD := ⟨1, .ptr 144, .v (.pointer none)⟩
def td17 : TD := ⟨1, .ptr 153, .v (.pointer none)⟩
def td18 : TD := ⟨1, .strct [(0, 17)], .agg [.v (.pointer none)]⟩
def td19 : TD := ⟨1, .strct [(0, 17)], .agg [.v (.pointer none)]⟩
def td21 : TD := ⟨1, .int .i32, .ki .i32 0⟩
def td22 : TD := ⟨1, .func, .v .nilFunc⟩
def td23 : TD := ⟨1, .ptr 95, .v (.pointer none)⟩
def td24 : TD := ⟨1, .func, .v .nilFunc⟩
def td25 : TD := ⟨1, .slice 30, .v (.slice none 0 0)⟩
def td26 : TD := ⟨1, .func, .v .nilFunc⟩
def td27 : TD := ⟨1, .func, .v .nilFunc⟩
def td28 : TD := ⟨1, .int .u64, .ki .u64 0⟩
def td29 : TD := ⟨3, .strct [(0, 28), (1, 3), (2, 3)], .rcd (.entry ⟨0, 0, 0⟩)⟩
def td30 : TD := ⟨3, .strct [(0, 28), (1, 3), (2, 3)], .rcd (.entry ⟨0, 0, 0⟩)⟩
def td31 : TD := ⟨1, .func, .v .nilFunc⟩
def td32 : TD := ⟨1, .slice 34, .v (.slice none 0 0)⟩
def td33 : TD := ⟨4, .strct [(0, 3), (1, 28), (2, 3), (3, 3)], .rcd (.fact ⟨0, 0, 0, 0⟩)⟩
def td34 : TD := ⟨4, .strct [(0, 3), (1, 28), (2, 3), (3, 3)], .rcd (.fact ⟨0, 0, 0, 0⟩)⟩
def td36 : TD := ⟨1, .func, .v .nilFunc⟩
def td37 : TD := ⟨1, .int .u64, .ki .u64 0⟩
def td38 : TD := ⟨1, .func, .v .nilFunc⟩
def td39 : TD := ⟨1, .func, .v .nilFunc⟩
def td40 : TD := ⟨1, .func, .v .nilFunc⟩
def td41 : TD := ⟨1, .func, .v .nilFunc⟩
def td42 : TD := ⟨1, .ptr 45, .v (.pointer none)⟩
def td43 : TD := ⟨1, .slice 91, .v (.slice none 0 0)⟩
def td44 : TD := ⟨3, .strct [(0, 3), (1, 3), (2, 43)], .agg [.ki .i64 0, .ki .i64 0, .v (.slice none 0 0)]⟩
def td45 : TD := ⟨3, .strct [(0, 3), (1, 3), (2, 43)], .agg [.ki .i64 0, .ki .i64 0, .v (.slice none 0 0)]⟩
def td46 : TD := ⟨1, .func, .v .nilFunc⟩
def td47 : TD := ⟨1, .func, .v .nilFunc⟩
def td48 : TD := ⟨1, .slice 28, .v (.slice none 0 0)⟩
def td49 : TD := ⟨1, .func, .v .nilFunc⟩
def td50 : TD := ⟨1, .func, .v .nilFunc⟩
def td51 : TD := ⟨1, .func, .v .nilFunc⟩
def td52 : TD := ⟨4, .strct [(0, 3), (1, 3), (2, 3), (3, 3)], .rcd (.times ⟨0, 0, 0, 0⟩)⟩
def td53 : TD := ⟨4, .strct [(0, 3), (1, 3), (2, 3), (3, 3)], .rcd (.times ⟨0, 0, 0, 0⟩)⟩
def td54 : TD := ⟨1, .int .u32, .ki .u32 0⟩
def td55 : TD := ⟨1, .int .u16, .ki .u16 0⟩
def td56 : TD := ⟨5, .strct [(0, 28), (1, 54), (2, 28), (3, 55), (4, 55)], .rcd (.vec ⟨0, 0, 0, 0, 0⟩)⟩
def td57 : TD := ⟨5, .strct [(0, 28), (1, 54), (2, 28), (3, 55), (4, 55)], .rcd (.vec ⟨0, 0, 0, 0, 0⟩)⟩
def td58 : TD := ⟨1, .slice 77, .v (.slice none 0 0)⟩
def td59 : TD := ⟨1, .slice 115, .v (.slice none 0 0)⟩
def td60 : TD := ⟨1, .slice 3, .v (.slice none 0 0)⟩
def td61 : TD := ⟨20, .strct [(0, 28), (1, 4), (2, 53), (6, 3), (7, 57), (12, 3), (13, 53), (17, 58), (18, 59), (19, 60)], .agg [.ki .u64 0, .kb false, .rcd (.times ⟨0, 0, 0, 0⟩), .ki .i64 0, .rcd (.vec ⟨0, 0, 0, 0, 0⟩), .ki .i64 0, .rcd (.times ⟨0, 0, 0, 0⟩), .v (.slice none 0 0), .v (.slice none 0 0), .v (.slice none 0 0)]⟩
def td62 : TD := ⟨20, .strct [(0, 28), (1, 4), (2, 53), (6, 3), (7, 57), (12, 3), (13, 53), (17, 58), (18, 59), (19, 60)], .agg [.ki .u64 0, .kb false, .rcd (.times ⟨0, 0, 0, 0⟩), .ki .i64 0, .rcd (.vec ⟨0, 0, 0, 0, 0⟩), .ki .i64 0, .rcd (.times ⟨0, 0, 0, 0⟩), .v (.slice none 0 0), .v (.slice none 0 0), .v (.slice none 0 0)]⟩
def td63 : TD := ⟨1, .slice 66, .v (.slice none 0 0)⟩
def td64 : TD := ⟨1, .func, .v .nilFunc⟩
def td65 : TD := ⟨3, .strct [(0, 3), (1, 28), (2, 28)], .rcd (.frame ⟨0, 0, 0⟩)⟩
def td66 : TD := ⟨3, .strct [(0, 3), (1, 28), (2, 28)], .rcd (.frame ⟨0, 0, 0⟩)⟩
def td67 : TD := ⟨1, .func, .v .nilFunc⟩
def td68 : TD := ⟨9, .strct [(0, 3), (1, 3), (2, 3), (3, 3), (4, 3), (5, 3), (6, 3), (7, 3), (8, 3)], .rcd (.clocks ⟨0, 0, 0, 0, 0, 0, 0, 0, 0⟩)⟩
def td69 : TD := ⟨9, .strct [(0, 3), (1, 3), (2, 3), (3, 3), (4, 3), (5, 3), (6, 3), (7, 3), (8, 3)], .rcd (.clocks ⟨0, 0, 0, 0, 0, 0, 0, 0, 0⟩)⟩
def td70 : TD := ⟨7, .strct [(0, 3), (1, 3), (2, 3), (3, 3), (4, 3), (5, 3), (6, 3)], .rcd (.states ⟨0, 0, 0, 0, 0, 0, 0⟩)⟩
def td71 : TD := ⟨7, .strct [(0, 3), (1, 3), (2, 3), (3, 3), (4, 3), (5, 3), (6, 3)], .rcd (.states ⟨0, 0, 0, 0, 0, 0, 0⟩)⟩
def td72 : TD := ⟨29, .strct [(0, 4), (1, 4), (2, 4), (3, 4), (4, 4), (5, 4), (6, 4), (7, 4), (8, 4), (9, 4), (10, 4), (11, 4), (12, 4), (13, 4), (14, 4), (15, 4), (16, 4), (17, 4), (18, 4), (19, 4), (20, 4), (21, 4), (22, 4), (23, 4), (24, 4), (25, 4), (26, 4), (27, 4), (28, 4)], .rcd (.flags ⟨false, false, false, false, false, false, false, false, false, false, false, false, false, false, false, false, false, false, false, false, false, false, false, false, false, false, false, false, false⟩)⟩
def td73 : TD := ⟨29, .strct [(0, 4), (1, 4), (2, 4), (3, 4), (4, 4), (5, 4), (6, 4), (7, 4), (8, 4), (9, 4), (10, 4), (11, 4), (12, 4), (13, 4), (14, 4), (15, 4), (16, 4), (17, 4), (18, 4), (19, 4), (20, 4), (21, 4), (22, 4), (23, 4), (24, 4), (25, 4), (26, 4), (27, 4), (28, 4)], .rcd (.flags ⟨false, false, false, false, false, false, false, false, false, false, false, false, false, false, false, false, false, false, false, false, false, false, false, false, false, false, false, false, false⟩)⟩
def td74 : TD := ⟨17, .strct [(0, 3), (1, 4), (2, 4), (3, 4), (4, 4), (5, 4), (6, 4), (7, 3), (8, 57), (13, 53)], .rcd (.msg ⟨0, false, false, false, false, false, false, 0, ⟨0, 0, 0, 0, 0⟩, ⟨0, 0, 0, 0⟩⟩)⟩
def td75 : TD := ⟨17, .strct [(0, 3), (1, 4), (2, 4), (3, 4), (4, 4), (5, 4), (6, 4), (7, 3), (8, 57), (13, 53)], .rcd (.msg ⟨0, false, false, false, false, false, false, 0, ⟨0, 0, 0, 0, 0⟩, ⟨0, 0, 0, 0⟩⟩)⟩
def td76 : TD := ⟨89, .strct [(0, 55), (1, 54), (2, 4), (3, 4), (4, 4), (5, 4), (6, 69), (15, 71), (22, 73), (51, 75), (68, 57), (73, 57), (78, 53), (82, 53), (86, 3), (87, 3), (88, 3)], .rcd (.port ⟨0, 0, false, false, false, false, ⟨0, 0, 0, 0, 0, 0, 0, 0, 0⟩, ⟨0, 0, 0, 0, 0, 0, 0⟩, ⟨false, false, false, false, false, false, false, false, false, false, false, false, false, false, false, false, false, false, false, false, false, false, false, false, false, false, false, false, false⟩, ⟨0, false, false, false, false, false, false, 0, ⟨0, 0, 0, 0, 0⟩, ⟨0, 0, 0, 0⟩⟩, ⟨0, 0, 0, 0, 0⟩, ⟨0, 0, 0, 0, 0⟩, ⟨0, 0, 0, 0⟩, ⟨0, 0, 0, 0⟩, 0, 0, 0⟩)⟩
def td77 : TD := ⟨89, .strct [(0, 55), (1, 54), (2, 4), (3, 4), (4, 4), (5, 4), (6, 69), (15, 71), (22, 73), (51, 75), (68, 57), (73, 57), (78, 53), (82, 53), (86, 3), (87, 3), (88, 3)], .rcd (.port ⟨0, 0, false, false, false, false, ⟨0, 0, 0, 0, 0, 0, 0, 0, 0⟩, ⟨0, 0, 0, 0, 0, 0, 0⟩, ⟨false, false, false, false, false, false, false, false, false, false, false, false, false, false, false, false, false, false, false, false, false, false, false, false, false, false, false, false, false⟩, ⟨0, false, false, false, false, false, false, 0, ⟨0, 0, 0, 0, 0⟩, ⟨0, 0, 0, 0⟩⟩, ⟨0, 0, 0, 0, 0⟩, ⟨0, 0, 0, 0, 0⟩, ⟨0, 0, 0, 0⟩, ⟨0, 0, 0, 0⟩, 0, 0, 0⟩)⟩
def td78 : TD := ⟨1, .func, .v .nilFunc⟩
def td79 : TD := ⟨1, .func, .v .nilFunc⟩
def td80 : TD := ⟨1, .func, .v .nilFunc⟩
def td81 : TD := ⟨1, .func, .v .nilFunc⟩
def td82 : TD := ⟨1, .func, .v .nilFunc⟩
def td83 : TD := ⟨1, .func, .v .nilFunc⟩
def td84 : TD := ⟨1, .func, .v .nilFunc⟩
def td85 : TD := ⟨1, .func, .v .nilFunc⟩
def td86 : TD := ⟨1, .func, .v .nilFunc⟩
def td87 : TD := ⟨1, .func, .v .nilFunc⟩
def td88 : TD := ⟨1, .ptr 62, .v (.pointer none)⟩
def td89 : TD := ⟨1, .func, .v .nilFunc⟩
def td90 : TD := ⟨1, .func, .v .nilFunc⟩
def td91 : TD := ⟨3, .strct [(0, 28), (1, 3), (2, 3)], .rcd (.entry ⟨0, 0, 0⟩)⟩
def td92 : TD := ⟨1, .func, .v .nilFunc⟩
def td93 : TD := ⟨1, .map 28 97, .v (.map none)⟩
def td94 : TD := ⟨3, .strct [(0, 3), (1, 3), (2, 93)], .agg [.ki .i64 0, .ki .i64 0, .v (.map none)]⟩
def td95 : TD := ⟨3, .strct [(0, 3), (1, 3), (2, 93)], .agg [.ki .i64 0, .ki .i64 0, .v (.map none)]⟩
def td96 : TD := ⟨2, .strct [(0, 3), (1, 3)], .rcd (.place ⟨0, 0⟩)⟩
def td97 : TD := ⟨2, .strct [(0, 3), (1, 3)], .rcd (.place ⟨0, 0⟩)⟩
def td98 : TD := ⟨1, .func, .v .nilFunc⟩
def td99 : TD := ⟨1, .func, .v .nilFunc⟩
def td100 : TD := ⟨1, .func, .v .nilFunc⟩
def td101 : TD := ⟨1, .func, .v .nilFunc⟩
def td103 : TD := ⟨1, .func, .v .nilFunc⟩
def td104 : TD := ⟨1, .func, .v .nilFunc⟩
def td105 : TD := ⟨1, .func, .v .nilFunc⟩
def td106 : TD := ⟨1, .func, .v .nilFunc⟩
def td107 : TD := ⟨1, .func, .v .nilFunc⟩
def td108 : TD := ⟨1, .func, .v .nilFunc⟩
def td109 : TD := ⟨1, .func, .v .nilFunc⟩
def td110 : TD := ⟨1, .func, .v .nilFunc⟩
def td111 : TD := ⟨1, .func, .v .nilFunc⟩
def td112 : TD := ⟨1, .func, .v .nilFunc⟩
def td113 : TD := ⟨1, .func, .v .nilFunc⟩
def td114 : TD := ⟨18, .strct [(0, 3), (1, 75)], .rcd (.sent ⟨0, ⟨0, false, false, false, false, false, false, 0, ⟨0, 0, 0, 0, 0⟩, ⟨0, 0, 0, 0⟩⟩⟩)⟩
def td115 : TD := ⟨18, .strct [(0, 3), (1, 75)], .rcd (.sent ⟨0, ⟨0, false, false, false, false, false, false, 0, ⟨0, 0, 0, 0, 0⟩, ⟨0, 0, 0, 0⟩⟩⟩)⟩
def td116 : TD := ⟨1, .func, .v .nilFunc⟩
def td117 : TD := ⟨1, .func, .v .nilFunc⟩
def td118 : TD := ⟨1, .func, .v .nilFunc⟩
def td119 : TD := ⟨1, .func, .v .nilFunc⟩
def td120 : TD := ⟨1, .func, .v .nilFunc⟩
def td121 : TD := ⟨1, .func, .v .nilFunc⟩
def td122 : TD := ⟨1, .func, .v .nilFunc⟩
def td123 : TD := ⟨1, .func, .v .nilFunc⟩
def td124 : TD := ⟨1, .int .i64, .ki .i64 0⟩
def td126 : TD := ⟨1, .func, .v .nilFunc⟩
def td127 : TD := ⟨1, .func, .v .nilFunc⟩
def td128 : TD := ⟨1, .func, .v .nilFunc⟩
def td129 : TD := ⟨1, .func, .v .nilFunc⟩
def td130 : TD := ⟨1, .func, .v .nilFunc⟩
def td131 : TD := ⟨1, .int .u64, .ki .u64 0⟩
def td132 : TD := ⟨1, .func, .v .nilFunc⟩
def td133 : TD := ⟨1, .func, .v .nilFunc⟩
def td134 : TD := ⟨1, .ptr 3, .v (.pointer none)⟩
def td135 : TD := ⟨1, .func, .v .nilFunc⟩
def td136 : TD := ⟨1, .ptr 131, .v (.pointer none)⟩
def td138 : TD := ⟨1, .func, .v .nilFunc⟩
def td139 : TD := ⟨1, .func, .v .nilFunc⟩
def td140 : TD := ⟨4, .strct [(0, 17), (1, 17), (2, 17), (3, 9)], .agg [.v (.pointer none), .v (.pointer none), .v (.pointer none), .v (.string ⟨#[]⟩)]⟩
def td141 : TD := ⟨4, .strct [(0, 17), (1, 17), (2, 17), (3, 9)], .agg [.v (.pointer none), .v (.pointer none), .v (.pointer none), .v (.string ⟨#[]⟩)]⟩
def td145 : TD := ⟨1, .func, .v .nilFunc⟩
def td146 : TD := ⟨1, .int .u8, .ki .u8 0⟩
def td147 : TD := ⟨1, .int .u8, .ki .u8 0⟩
def td148 : TD := ⟨1, .func, .v .nilFunc⟩
def td149 : TD := ⟨1, .ptr 5, .v (.pointer none)⟩
def td150 : TD := ⟨1, .int .i32, .ki .i32 0⟩
def td151 : TD := ⟨1, .int .i32, .ki .i32 0⟩
def td152 : TD := ⟨11, .strct [(0, 12), (1, 12), (2, 54), (3, 146), (4, 5), (5, 5), (6, 147), (7, 148), (8, 149), (9, 150), (10, 151)], .agg [.ki .u64 0, .ki .u64 0, .ki .u32 0, .ki .u8 0, .ki .u8 0, .ki .u8 0, .ki .u8 0, .v .nilFunc, .v (.pointer none), .ki .i32 0, .ki .i32 0]⟩
def td153 : TD := ⟨11, .strct [(0, 12), (1, 12), (2, 54), (3, 146), (4, 5), (5, 5), (6, 147), (7, 148), (8, 149), (9, 150), (10, 151)], .agg [.ki .u64 0, .ki .u64 0, .ki .u32 0, .ki .u8 0, .ki .u8 0, .ki .u8 0, .ki .u8 0, .v .nilFunc, .v (.pointer none), .ki .i32 0, .ki .i32 0]⟩
def tys (t : Nat) : Option TD := bif Nat.blt t 155 then (bif Nat.blt t 77 then (bif Nat.blt t 38 then (bif Nat.blt t 19 then (bif Nat.blt t 9 then (bif Nat.blt t 4 then (bif Nat.blt t 2 then (bif Nat.blt t 1 then (none) else (some td1)) else (bif Nat.blt t 3 then (some td2) else (some td3))) else (bif Nat.blt t 6 then (bif Nat.blt t 5 then (some td4) else (some td5)) else (bif Nat.blt t 7 then (some td6) else (bif Nat.blt t 8 then (some td7) else (some td8))))) else (bif Nat.blt t 14 then (bif Nat.blt t 11 then (bif Nat.blt t 10 then (some td9) else (some td10)) else (bif Nat.blt t 12 then (some td11) else (bif Nat.blt t 13 then (some td12) else (some td13)))) else (bif Nat.blt t 16 then (bif Nat.blt t 15 then (some td14) else (some td15)) else (bif Nat.blt t 17 then (some td16) else (bif Nat.blt t 18 then (some td17) else (some td18)))))) else (bif Nat.blt t 28 then (bif Nat.blt t 23 then (bif Nat.blt t 21 then (bif Nat.blt t 20 then (some td19) else (none)) else (bif Nat.blt t 22 then (some td21) else (some td22))) else (bif Nat.blt t 25 then (bif Nat.blt t 24 then (some td23) else (some td24)) else (bif Nat.blt t 26 then (some td25) else (bif Nat.blt t 27 then (some td26) else (some td27))))) else (bif Nat.blt t 33 then (bif Nat.blt t 30 then (bif Nat.blt t 29 then (some td28) else (some td29)) else (bif Nat.blt t 31 then (some td30) else (bif Nat.blt t 32 then (some td31) else (some td32)))) else (bif Nat.blt t 35 then (bif Nat.blt t 34 then (some td33) else (some td34)) else (bif Nat.blt t 36 then (none) else (bif Nat.blt t 37 then (some td36) else (some td37))))))) else (bif Nat.blt t 57 then (bif Nat.blt t 47 then (bif Nat.blt t 42 then (bif Nat.blt t 40 then (bif Nat.blt t 39 then (some td38) else (some td39)) else (bif Nat.blt t 41 then (some td40) else (some td41))) else (bif Nat.blt t 44 then (bif Nat.blt t 43 then (some td42) else (some td43)) else (bif Nat.blt t 45 then (some td44) else (bif Nat.blt t 46 then (some td45) else (some td46))))) else (bif Nat.blt t 52 then (bif Nat.blt t 49 then (bif Nat.blt t 48 then (some td47) else (some td48)) else (bif Nat.blt t 50 then (some td49) else (bif Nat.blt t 51 then (some td50) else (some td51)))) else (bif Nat.blt t 54 then (bif Nat.blt t 53 then (some td52) else (some td53)) else (bif Nat.blt t 55 then (some td54) else (bif Nat.blt t 56 then (some td55) else (some td56)))))) else (bif Nat.blt t 67 then (bif Nat.blt t 62 then (bif Nat.blt t 59 then (bif Nat.blt t 58 then (some td57) else (some td58)) else (bif Nat.blt t 60 then (some td59) else (bif Nat.blt t 61 then (some td60) else (some td61)))) else (bif Nat.blt t 64 then (bif Nat.blt t 63 then (some td62) else (some td63)) else (bif Nat.blt t 65 then (some td64) else (bif Nat.blt t 66 then (some td65) else (some td66))))) else (bif Nat.blt t 72 then (bif Nat.blt t 69 then (bif Nat.blt t 68 then (some td67) else (some td68)) else (bif Nat.blt t 70 then (some td69) else (bif Nat.blt t 71 then (some td70) else (some td71)))) else (bif Nat.blt t 74 then (bif Nat.blt t 73 then (some td72) else (some td73)) else (bif Nat.blt t 75 then (some td74) else (bif Nat.blt t 76 then (some td75) else (some td76)))))))) else (bif Nat.blt t 116 then (bif Nat.blt t 96 then (bif Nat.blt t 86 then (bif Nat.blt t 81 then (bif Nat.blt t 79 then (bif Nat.blt t 78 then (some td77) else (some td78)) else (bif Nat.blt t 80 then (some td79) else (some td80))) else (bif Nat.blt t 83 then (bif Nat.blt t 82 then (some td81) else (some td82)) else (bif Nat.blt t 84 then (some td83) else (bif Nat.blt t 85 then (some td84) else (some td85))))) else (bif Nat.blt t 91 then (bif Nat.blt t 88 then (bif Nat.blt t 87 then (some td86) else (some td87)) else (bif Nat.blt t 89 then (some td88) else (bif Nat.blt t 90 then (some td89) else (some td90)))) else (bif Nat.blt t 93 then (bif Nat.blt t 92 then (some td91) else (some td92)) else (bif Nat.blt t 94 then (some td93) else (bif Nat.blt t 95 then (some td94) else (some td95)))))) else (bif Nat.blt t 106 then (bif Nat.blt t 101 then (bif Nat.blt t 98 then (bif Nat.blt t 97 then (some td96) else (some td97)) else (bif Nat.blt t 99 then (some td98) else (bif Nat.blt t 100 then (some td99) else (some td100)))) else (bif Nat.blt t 103 then (bif Nat.blt t 102 then (some td101) else (none)) else (bif Nat.blt t 104 then (some td103) else (bif Nat.blt t 105 then (some td104) else (some td105))))) else (bif Nat.blt t 111 then (bif Nat.blt t 108 then (bif Nat.blt t 107 then (some td106) else (some td107)) else (bif Nat.blt t 109 then (some td108) else (bif Nat.blt t 110 then (some td109) else (some td110)))) else (bif Nat.blt t 113 then (bif Nat.blt t 112 then (some td111) else (some td112)) else (bif Nat.blt t 114 then (some td113) else (bif Nat.blt t 115 then (some td114) else (some td115))))))) else (bif Nat.blt t 135 then (bif Nat.blt t 125 then (bif Nat.blt t 120 then (bif Nat.blt t 118 then (bif Nat.blt t 117 then (some td116) else (some td117)) else (bif Nat.blt t 119 then (some td118) else (some td119))) else (bif Nat.blt t 122 then (bif Nat.blt t 121 then (some td120) else (some td121)) else (bif Nat.blt t 123 then (some td122) else (bif Nat.blt t 124 then (some td123) else (some td124))))) else (bif Nat.blt t 130 then (bif Nat.blt t 127 then (bif Nat.blt t 126 then (none) else (some td126)) else (bif Nat.blt t 128 then (some td127) else (bif Nat.blt t 129 then (some td128) else (some td129)))) else (bif Nat.blt t 132 then (bif Nat.blt t 131 then (some td130) else (some td131)) else (bif Nat.blt t 133 then (some td132) else (bif Nat.blt t 134 then (some td133) else (some td134)))))) else (bif Nat.blt t 145 then (bif Nat.blt t 140 then (bif Nat.blt t 137 then (bif Nat.blt t 136 then (some td135) else (some td136)) else (bif Nat.blt t 138 then (none) else (bif Nat.blt t 139 then (some td138) else (some td139)))) else (bif Nat.blt t 142 then (bif Nat.blt t 141 then (some td140) else (some td141)) else (bif Nat.blt t 143 then (none) else (bif Nat.blt t 144 then (none) else (none))))) else (bif Nat.blt t 150 then (bif Nat.blt t 147 then (bif Nat.blt t 146 then (some td145) else (some td146)) else (bif Nat.blt t 148 then (some td147) else (bif Nat.blt t 149 then (some td148) else (some td149)))) else (bif Nat.blt t 152 then (bif Nat.blt t 151 then (some td150) else (some td151)) else (bif Nat.blt t 153 then (some td152) else (bif Nat.blt t 154 then (some td153) else (none))))))))) else none
noncomputable def factL (t : TypeId) : Option (Nat × Sh × Option Value) := (Try.prog.info? t).bind fun i => (Try.prog.underlying t).map fun u => (i.size, shapeOf u, i.zero)
theorem tyOk_of {t : TypeId} {d : TD} (h : ∀ S E, factL t = some (d.size, d.sh, some (d.zero.den S E))) (h1 : d.zero.one = true) (h2 : d.sh.agg = d.zero.aggr) (h3 : d.zero.size = d.size) : TyOk Try.prog t d := by
  have key : ∀ S E, ∃ i u, Try.prog.info? t = some i ∧ Try.prog.underlying t = some u ∧ i.size = d.size ∧ shapeOf u = d.sh ∧ i.zero = some (d.zero.den S E) := by
    intro S E
    have hh := h S E
    unfold factL at hh
    cases hi : Try.prog.info? t with
    | none => rw [hi] at hh; cases hh
    | some i =>
      cases hu : Try.prog.underlying t with
      | none => rw [hi, hu] at hh; cases hh
      | some u =>
        rw [hi, hu] at hh
        simp only [Option.bind_some, Option.map_some, Option.some.injEq, Prod.mk.injEq] at hh
        exact ⟨i, u, rfl, rfl, hh.1, hh.2.1, hh.2.2⟩
  refine ⟨?_, ?_, h1, h2, h3⟩
  · obtain ⟨i, u, a, b, e, f, _⟩ := key ⟨fun _ => (none, 0, 0), fun _ => 0, fun _ => false⟩ ⟨fun _ => default, fun _ => (0, false)⟩
    exact ⟨i, u, a, b, e, f⟩
  · intro S E
    obtain ⟨i, u, a, b, e, f, g⟩ := key S E
    rw [a]; exact g
theorem tk1 : TyOk Try.prog 1 td1 := tyOk_of (fun S E => by kernel_rfl) rfl rfl rfl
theorem tk2 : TyOk Try.prog 2 td2 := tyOk_of (fun S E => by kernel_rfl) rfl rfl rfl
theorem tk3 : TyOk Try.prog 3 td3 := tyOk_of (fun S E => by kernel_rfl) rfl rfl rfl
theorem tk4 : TyOk Try.prog 4 td4 := tyOk_of (fun S E => by kernel_rfl) rfl rfl rfl
theorem tk5 : TyOk Try.prog 5 td5 := tyOk_of (fun S E => by kernel_rfl) rfl rfl rfl
theorem tk6 : TyOk Try.prog 6 td6 := tyOk_of (fun S E => by kernel_rfl) rfl rfl rfl
theorem tk7 : TyOk Try.prog 7 td7 := tyOk_of (fun S E => by kernel_rfl) rfl rfl rfl
theorem tk8 : TyOk Try.prog 8 td8 := tyOk_of (fun S E => by kernel_rfl) rfl rfl rfl
theorem tk9 : TyOk Try.prog 9 td9 := tyOk_of (fun S E => by kernel_rfl) rfl rfl rfl
theorem tk10 : TyOk Try.prog 10 td10 := tyOk_of (fun S E => by kernel_rfl) rfl rfl rfl
theorem tk11 : TyOk Try.prog 11 td11 := tyOk_of (fun S E => by kernel_rfl) rfl rfl rfl
theorem tk12 : TyOk Try.prog 12 td12 := tyOk_of (fun S E => by kernel_rfl) rfl rfl rfl
theorem tk13 : TyOk Try.prog 13 td13 := tyOk_of (fun S E => by kernel_rfl) rfl rfl rfl
theorem tk14 : TyOk Try.prog 14 td14 := tyOk_of (fun S E => by kernel_rfl) rfl rfl rfl
theorem tk15 : TyOk Try.prog 15 td15 := tyOk_of (fun S E => by kernel_rfl) rfl rfl rfl
theorem tk16 : TyOk Try.prog 16 td16 := tyOk_of (fun S E => by kernel_rfl) rfl rfl rfl
theorem tk17 : TyOk Try.prog 17 td17 := tyOk_of (fun S E => by kernel_rfl) rfl rfl rfl
theorem tk18 : TyOk Try.prog 18 td18 := tyOk_of (fun S E => by kernel_rfl) rfl rfl rfl
theorem tk19 : TyOk Try.prog 19 td19 := tyOk_of (fun S E => by kernel_rfl) rfl rfl rfl
theorem tk21 : TyOk Try.prog 21 td21 := tyOk_of (fun S E => by kernel_rfl) rfl rfl rfl
theorem tk22 : TyOk Try.prog 22 td22 := tyOk_of (fun S E => by kernel_rfl) rfl rfl rfl
theorem tk23 : TyOk Try.prog 23 td23 := tyOk_of (fun S E => by kernel_rfl) rfl rfl rfl
theorem tk24 : TyOk Try.prog 24 td24 := tyOk_of (fun S E => by kernel_rfl) rfl rfl rfl
theorem tk25 : TyOk Try.prog 25 td25 := tyOk_of (fun S E => by kernel_rfl) rfl rfl rfl
theorem tk26 : TyOk Try.prog 26 td26 := tyOk_of (fun S E => by kernel_rfl) rfl rfl rfl
theorem tk27 : TyOk Try.prog 27 td27 := tyOk_of (fun S E => by kernel_rfl) rfl rfl rfl
theorem tk28 : TyOk Try.prog 28 td28 := tyOk_of (fun S E => by kernel_rfl) rfl rfl rfl
theorem tk29 : TyOk Try.prog 29 td29 := tyOk_of (fun S E => by kernel_rfl) rfl rfl rfl
theorem tk30 : TyOk Try.prog 30 td30 := tyOk_of (fun S E => by kernel_rfl) rfl rfl rfl
theorem tk31 : TyOk Try.prog 31 td31 := tyOk_of (fun S E => by kernel_rfl) rfl rfl rfl
theorem tk32 : TyOk Try.prog 32 td32 := tyOk_of (fun S E => by kernel_rfl) rfl rfl rfl
theorem tk33 : TyOk Try.prog 33 td33 := tyOk_of (fun S E => by kernel_rfl) rfl rfl rfl
theorem tk34 : TyOk Try.prog 34 td34 := tyOk_of (fun S E => by kernel_rfl) rfl rfl rfl
theorem tk36 : TyOk Try.prog 36 td36 := tyOk_of (fun S E => by kernel_rfl) rfl rfl rfl
theorem tk37 : TyOk Try.prog 37 td37 := tyOk_of (fun S E => by kernel_rfl) rfl rfl rfl
theorem tk38 : TyOk Try.prog 38 td38 := tyOk_of (fun S E => by kernel_rfl) rfl rfl rfl
theorem tk39 : TyOk Try.prog 39 td39 := tyOk_of (fun S E => by kernel_rfl) rfl rfl rfl
theorem tk40 : TyOk Try.prog 40 td40 := tyOk_of (fun S E => by kernel_rfl) rfl rfl rfl
theorem tk41 : TyOk Try.prog 41 td41 := tyOk_of (fun S E => by kernel_rfl) rfl rfl rfl
theorem tk42 : TyOk Try.prog 42 td42 := tyOk_of (fun S E => by kernel_rfl) rfl rfl rfl
theorem tk43 : TyOk Try.prog 43 td43 := tyOk_of (fun S E => by kernel_rfl) rfl rfl rfl
theorem tk44 : TyOk Try.prog 44 td44 := tyOk_of (fun S E => by kernel_rfl) rfl rfl rfl
theorem tk45 : TyOk Try.prog 45 td45 := tyOk_of (fun S E => by kernel_rfl) rfl rfl rfl
theorem tk46 : TyOk Try.prog 46 td46 := tyOk_of (fun S E => by kernel_rfl) rfl rfl rfl
theorem tk47 : TyOk Try.prog 47 td47 := tyOk_of (fun S E => by kernel_rfl) rfl rfl rfl
theorem tk48 : TyOk Try.prog 48 td48 := tyOk_of (fun S E => by kernel_rfl) rfl rfl rfl
theorem tk49 : TyOk Try.prog 49 td49 := tyOk_of (fun S E => by kernel_rfl) rfl rfl rfl
theorem tk50 : TyOk Try.prog 50 td50 := tyOk_of (fun S E => by kernel_rfl) rfl rfl rfl
theorem tk51 : TyOk Try.prog 51 td51 := tyOk_of (fun S E => by kernel_rfl) rfl rfl rfl
theorem tk52 : TyOk Try.prog 52 td52 := tyOk_of (fun S E => by kernel_rfl) rfl rfl rfl
theorem tk53 : TyOk Try.prog 53 td53 := tyOk_of (fun S E => by kernel_rfl) rfl rfl rfl
theorem tk54 : TyOk Try.prog 54 td54 := tyOk_of (fun S E => by kernel_rfl) rfl rfl rfl
theorem tk55 : TyOk Try.prog 55 td55 := tyOk_of (fun S E => by kernel_rfl) rfl rfl rfl
theorem tk56 : TyOk Try.prog 56 td56 := tyOk_of (fun S E => by kernel_rfl) rfl rfl rfl
theorem tk57 : TyOk Try.prog 57 td57 := tyOk_of (fun S E => by kernel_rfl) rfl rfl rfl
theorem tk58 : TyOk Try.prog 58 td58 := tyOk_of (fun S E => by kernel_rfl) rfl rfl rfl
theorem tk59 : TyOk Try.prog 59 td59 := tyOk_of (fun S E => by kernel_rfl) rfl rfl rfl
theorem tk60 : TyOk Try.prog 60 td60 := tyOk_of (fun S E => by kernel_rfl) rfl rfl rfl
theorem tk61 : TyOk Try.prog 61 td61 := tyOk_of (fun S E => by kernel_rfl) rfl rfl rfl
theorem tk62 : TyOk Try.prog 62 td62 := tyOk_of (fun S E => by kernel_rfl) rfl rfl rfl
theorem tk63 : TyOk Try.prog 63 td63 := tyOk_of (fun S E => by kernel_rfl) rfl rfl rfl
theorem tk64 : TyOk Try.prog 64 td64 := tyOk_of (fun S E => by kernel_rfl) rfl rfl rfl
theorem tk65 : TyOk Try.prog 65 td65 := tyOk_of (fun S E => by kernel_rfl) rfl rfl rfl
theorem tk66 : TyOk Try.prog 66 td66 := tyOk_of (fun S E => by kernel_rfl) rfl rfl rfl
theorem tk67 : TyOk Try.prog 67 td67 := tyOk_of (fun S E => by kernel_rfl) rfl rfl rfl
theorem tk68 : TyOk Try.prog 68 td68 := tyOk_of (fun S E => by kernel_rfl) rfl rfl rfl
theorem tk69 : TyOk Try.prog 69 td69 := tyOk_of (fun S E => by kernel_rfl) rfl rfl rfl
theorem tk70 : TyOk Try.prog 70 td70 := tyOk_of (fun S E => by kernel_rfl) rfl rfl rfl
theorem tk71 : TyOk Try.prog 71 td71 := tyOk_of (fun S E => by kernel_rfl) rfl rfl rfl
theorem tk72 : TyOk Try.prog 72 td72 := tyOk_of (fun S E => by kernel_rfl) rfl rfl rfl
theorem tk73 : TyOk Try.prog 73 td73 := tyOk_of (fun S E => by kernel_rfl) rfl rfl rfl
theorem tk74 : TyOk Try.prog 74 td74 := tyOk_of (fun S E => by kernel_rfl) rfl rfl rfl
theorem tk75 : TyOk Try.prog 75 td75 := tyOk_of (fun S E => by kernel_rfl) rfl rfl rfl
theorem tk76 : TyOk Try.prog 76 td76 := tyOk_of (fun S E => by kernel_rfl) rfl rfl rfl
theorem tk77 : TyOk Try.prog 77 td77 := tyOk_of (fun S E => by kernel_rfl) rfl rfl rfl
theorem tk78 : TyOk Try.prog 78 td78 := tyOk_of (fun S E => by kernel_rfl) rfl rfl rfl
theorem tk79 : TyOk Try.prog 79 td79 := tyOk_of (fun S E => by kernel_rfl) rfl rfl rfl
theorem tk80 : TyOk Try.prog 80 td80 := tyOk_of (fun S E => by kernel_rfl) rfl rfl rfl
theorem tk81 : TyOk Try.prog 81 td81 := tyOk_of (fun S E => by kernel_rfl) rfl rfl rfl
theorem tk82 : TyOk Try.prog 82 td82 := tyOk_of (fun S E => by kernel_rfl) rfl rfl rfl
theorem tk83 : TyOk Try.prog 83 td83 := tyOk_of (fun S E => by kernel_rfl) rfl rfl rfl
theorem tk84 : TyOk Try.prog 84 td84 := tyOk_of (fun S E => by kernel_rfl) rfl rfl rfl
theorem tk85 : TyOk Try.prog 85 td85 := tyOk_of (fun S E => by kernel_rfl) rfl rfl rfl
theorem tk86 : TyOk Try.prog 86 td86 := tyOk_of (fun S E => by kernel_rfl) rfl rfl rfl
theorem tk87 : TyOk Try.prog 87 td87 := tyOk_of (fun S E => by kernel_rfl) rfl rfl rfl
theorem tk88 : TyOk Try.prog 88 td88 := tyOk_of (fun S E => by kernel_rfl) rfl rfl rfl
theorem tk89 : TyOk Try.prog 89 td89 := tyOk_of (fun S E => by kernel_rfl) rfl rfl rfl
theorem tk90 : TyOk Try.prog 90 td90 := tyOk_of (fun S E => by kernel_rfl) rfl rfl rfl
theorem tk91 : TyOk Try.prog 91 td91 := tyOk_of (fun S E => by kernel_rfl) rfl rfl rfl
theorem tk92 : TyOk Try.prog 92 td92 := tyOk_of (fun S E => by kernel_rfl) rfl rfl rfl
theorem tk93 : TyOk Try.prog 93 td93 := tyOk_of (fun S E => by kernel_rfl) rfl rfl rfl
theorem tk94 : TyOk Try.prog 94 td94 := tyOk_of (fun S E => by kernel_rfl) rfl rfl rfl
theorem tk95 : TyOk Try.prog 95 td95 := tyOk_of (fun S E => by kernel_rfl) rfl rfl rfl
theorem tk96 : TyOk Try.prog 96 td96 := tyOk_of (fun S E => by kernel_rfl) rfl rfl rfl
theorem tk97 : TyOk Try.prog 97 td97 := tyOk_of (fun S E => by kernel_rfl) rfl rfl rfl
theorem tk98 : TyOk Try.prog 98 td98 := tyOk_of (fun S E => by kernel_rfl) rfl rfl rfl
theorem tk99 : TyOk Try.prog 99 td99 := tyOk_of (fun S E => by kernel_rfl) rfl rfl rfl
theorem tk100 : TyOk Try.prog 100 td100 := tyOk_of (fun S E => by kernel_rfl) rfl rfl rfl
theorem tk101 : TyOk Try.prog 101 td101 := tyOk_of (fun S E => by kernel_rfl) rfl rfl rfl
theorem tk103 : TyOk Try.prog 103 td103 := tyOk_of (fun S E => by kernel_rfl) rfl rfl rfl
theorem tk104 : TyOk Try.prog 104 td104 := tyOk_of (fun S E => by kernel_rfl) rfl rfl rfl
theorem tk105 : TyOk Try.prog 105 td105 := tyOk_of (fun S E => by kernel_rfl) rfl rfl rfl
theorem tk106 : TyOk Try.prog 106 td106 := tyOk_of (fun S E => by kernel_rfl) rfl rfl rfl
theorem tk107 : TyOk Try.prog 107 td107 := tyOk_of (fun S E => by kernel_rfl) rfl rfl rfl
theorem tk108 : TyOk Try.prog 108 td108 := tyOk_of (fun S E => by kernel_rfl) rfl rfl rfl
theorem tk109 : TyOk Try.prog 109 td109 := tyOk_of (fun S E => by kernel_rfl) rfl rfl rfl
theorem tk110 : TyOk Try.prog 110 td110 := tyOk_of (fun S E => by kernel_rfl) rfl rfl rfl
theorem tk111 : TyOk Try.prog 111 td111 := tyOk_of (fun S E => by kernel_rfl) rfl rfl rfl
theorem tk112 : TyOk Try.prog 112 td112 := tyOk_of (fun S E => by kernel_rfl) rfl rfl rfl
theorem tk113 : TyOk Try.prog 113 td113 := tyOk_of (fun S E => by kernel_rfl) rfl rfl rfl
theorem tk114 : TyOk Try.prog 114 td114 := tyOk_of (fun S E => by kernel_rfl) rfl rfl rfl
theorem tk115 : TyOk Try.prog 115 td115 := tyOk_of (fun S E => by kernel_rfl) rfl rfl rfl
theorem tk116 : TyOk Try.prog 116 td116 := tyOk_of (fun S E => by kernel_rfl) rfl rfl rfl
theorem tk117 : TyOk Try.prog 117 td117 := tyOk_of (fun S E => by kernel_rfl) rfl rfl rfl
theorem tk118 : TyOk Try.prog 118 td118 := tyOk_of (fun S E => by kernel_rfl) rfl rfl rfl
theorem tk119 : TyOk Try.prog 119 td119 := tyOk_of (fun S E => by kernel_rfl) rfl rfl rfl
theorem tk120 : TyOk Try.prog 120 td120 := tyOk_of (fun S E => by kernel_rfl) rfl rfl rfl
theorem tk121 : TyOk Try.prog 121 td121 := tyOk_of (fun S E => by kernel_rfl) rfl rfl rfl
theorem tk122 : TyOk Try.prog 122 td122 := tyOk_of (fun S E => by kernel_rfl) rfl rfl rfl
theorem tk123 : TyOk Try.prog 123 td123 := tyOk_of (fun S E => by kernel_rfl) rfl rfl rfl
theorem tk124 : TyOk Try.prog 124 td124 := tyOk_of (fun S E => by kernel_rfl) rfl rfl rfl
theorem tk126 : TyOk Try.prog 126 td126 := tyOk_of (fun S E => by kernel_rfl) rfl rfl rfl
theorem tk127 : TyOk Try.prog 127 td127 := tyOk_of (fun S E => by kernel_rfl) rfl rfl rfl
theorem tk128 : TyOk Try.prog 128 td128 := tyOk_of (fun S E => by kernel_rfl) rfl rfl rfl
theorem tk129 : TyOk Try.prog 129 td129 := tyOk_of (fun S E => by kernel_rfl) rfl rfl rfl
theorem tk130 : TyOk Try.prog 130 td130 := tyOk_of (fun S E => by kernel_rfl) rfl rfl rfl
theorem tk131 : TyOk Try.prog 131 td131 := tyOk_of (fun S E => by kernel_rfl) rfl rfl rfl
theorem tk132 : TyOk Try.prog 132 td132 := tyOk_of (fun S E => by kernel_rfl) rfl rfl rfl
theorem tk133 : TyOk Try.prog 133 td133 := tyOk_of (fun S E => by kernel_rfl) rfl rfl rfl
theorem tk134 : TyOk Try.prog 134 td134 := tyOk_of (fun S E => by kernel_rfl) rfl rfl rfl
theorem tk135 : TyOk Try.prog 135 td135 := tyOk_of (fun S E => by kernel_rfl) rfl rfl rfl
theorem tk136 : TyOk Try.prog 136 td136 := tyOk_of (fun S E => by kernel_rfl) rfl rfl rfl
theorem tk138 : TyOk Try.prog 138 td138 := tyOk_of (fun S E => by kernel_rfl) rfl rfl rfl
theorem tk139 : TyOk Try.prog 139 td139 := tyOk_of (fun S E => by kernel_rfl) rfl rfl rfl
theorem tk140 : TyOk Try.prog 140 td140 := tyOk_of (fun S E => by kernel_rfl) rfl rfl rfl
theorem tk141 : TyOk Try.prog 141 td141 := tyOk_of (fun S E => by kernel_rfl) rfl rfl rfl
theorem tk145 : TyOk Try.prog 145 td145 := tyOk_of (fun S E => by kernel_rfl) rfl rfl rfl
theorem tk146 : TyOk Try.prog 146 td146 := tyOk_of (fun S E => by kernel_rfl) rfl rfl rfl
theorem tk147 : TyOk Try.prog 147 td147 := tyOk_of (fun S E => by kernel_rfl) rfl rfl rfl
theorem tk148 : TyOk Try.prog 148 td148 := tyOk_of (fun S E => by kernel_rfl) rfl rfl rfl
theorem tk149 : TyOk Try.prog 149 td149 := tyOk_of (fun S E => by kernel_rfl) rfl rfl rfl
theorem tk150 : TyOk Try.prog 150 td150 := tyOk_of (fun S E => by kernel_rfl) rfl rfl rfl
theorem tk151 : TyOk Try.prog 151 td151 := tyOk_of (fun S E => by kernel_rfl) rfl rfl rfl
theorem tk152 : TyOk Try.prog 152 td152 := tyOk_of (fun S E => by kernel_rfl) rfl rfl rfl
theorem tk153 : TyOk Try.prog 153 td153 := tyOk_of (fun S E => by kernel_rfl) rfl rfl rfl
def TyIn (lo hi : Nat) (x : Option TD) (t : Nat) : Prop := lo ≤ t → t < hi → ∀ d, x = some d → TyOk Try.prog t d
theorem TyIn.n {lo k hi t : Nat} {x y : Option TD} (hx : TyIn lo k x t) (hy : TyIn k hi y t) : TyIn lo hi (bif Nat.blt t k then x else y) t := by
  intro h1 h2 d hd
  cases hb : Nat.blt t k with
  | true => rw [hb] at hd; exact hx h1 (by simpa using hb) d hd
  | false => rw [hb] at hd; exact hy (by have : ¬ t < k := (fun hh => by rw [show Nat.blt t k = true from (by simpa using hh)] at hb; cases hb); omega) h2 d hd
theorem TyIn.l {k t : Nat} {d : TD} (h : TyOk Try.prog k d) : TyIn k (k + 1) (some d) t := by
  intro h1 h2 e he
  obtain rfl : t = k := by omega
  injection he with he; subst he; exact h
theorem TyIn.o {lo hi t : Nat} : TyIn lo hi none t := fun _ _ _ h => by cases h
theorem tys_ok (t : Nat) (d : TD) (h : tys t = some d) : TyOk Try.prog t d := by
  unfold tys at h
  cases hb0 : Nat.blt t 155 with
  | false => rw [hb0] at h; cases h
  | true =>
    rw [hb0] at h; dsimp only [cond] at h
    exact (show TyIn 0 155 _ t from (.n (.n (.n (.n (.n (.n (.n .o (.l tk1)) (.n (.l tk2) (.l tk3))) (.n (.n (.l tk4) (.l tk5)) (.n (.l tk6) (.n (.l tk7) (.l tk8))))) (.n (.n (.n (.l tk9) (.l tk10)) (.n (.l tk11) (.n (.l tk12) (.l tk13)))) (.n (.n (.l tk14) (.l tk15)) (.n (.l tk16) (.n (.l tk17) (.l tk18)))))) (.n (.n (.n (.n (.l tk19) .o) (.n (.l tk21) (.l tk22))) (.n (.n (.l tk23) (.l tk24)) (.n (.l tk25) (.n (.l tk26) (.l tk27))))) (.n (.n (.n (.l tk28) (.l tk29)) (.n (.l tk30) (.n (.l tk31) (.l tk32)))) (.n (.n (.l tk33) (.l tk34)) (.n .o (.n (.l tk36) (.l tk37))))))) (.n (.n (.n (.n (.n (.l tk38) (.l tk39)) (.n (.l tk40) (.l tk41))) (.n (.n (.l tk42) (.l tk43)) (.n (.l tk44) (.n (.l tk45) (.l tk46))))) (.n (.n (.n (.l tk47) (.l tk48)) (.n (.l tk49) (.n (.l tk50) (.l tk51)))) (.n (.n (.l tk52) (.l tk53)) (.n (.l tk54) (.n (.l tk55) (.l tk56)))))) (.n (.n (.n (.n (.l tk57) (.l tk58)) (.n (.l tk59) (.n (.l tk60) (.l tk61)))) (.n (.n (.l tk62) (.l tk63)) (.n (.l tk64) (.n (.l tk65) (.l tk66))))) (.n (.n (.n (.l tk67) (.l tk68)) (.n (.l tk69) (.n (.l tk70) (.l tk71)))) (.n (.n (.l tk72) (.l tk73)) (.n (.l tk74) (.n (.l tk75) (.l tk76)))))))) (.n (.n (.n (.n (.n (.n (.l tk77) (.l tk78)) (.n (.l tk79) (.l tk80))) (.n (.n (.l tk81) (.l tk82)) (.n (.l tk83) (.n (.l tk84) (.l tk85))))) (.n (.n (.n (.l tk86) (.l tk87)) (.n (.l tk88) (.n (.l tk89) (.l tk90)))) (.n (.n (.l tk91) (.l tk92)) (.n (.l tk93) (.n (.l tk94) (.l tk95)))))) (.n (.n (.n (.n (.l tk96) (.l tk97)) (.n (.l tk98) (.n (.l tk99) (.l tk100)))) (.n (.n (.l tk101) .o) (.n (.l tk103) (.n (.l tk104) (.l tk105))))) (.n (.n (.n (.l tk106) (.l tk107)) (.n (.l tk108) (.n (.l tk109) (.l tk110)))) (.n (.n (.l tk111) (.l tk112)) (.n (.l tk113) (.n (.l tk114) (.l tk115))))))) (.n (.n (.n (.n (.n (.l tk116) (.l tk117)) (.n (.l tk118) (.l tk119))) (.n (.n (.l tk120) (.l tk121)) (.n (.l tk122) (.n (.l tk123) (.l tk124))))) (.n (.n (.n .o (.l tk126)) (.n (.l tk127) (.n (.l tk128) (.l tk129)))) (.n (.n (.l tk130) (.l tk131)) (.n (.l tk132) (.n (.l tk133) (.l tk134)))))) (.n (.n (.n (.n (.l tk135) (.l tk136)) (.n .o (.n (.l tk138) (.l tk139)))) (.n (.n (.l tk140) (.l tk141)) (.n .o (.n .o .o)))) (.n (.n (.n (.l tk145) (.l tk146)) (.n (.l tk147) (.n (.l tk148) (.l tk149)))) (.n (.n (.l tk150) (.l tk151)) (.n (.l tk152) (.n (.l tk153) .o))))))))) (Nat.zero_le t) (by simpa using hb0) d h
def structTys : List Nat := [7, 8, 29, 30, 33, 34, 52, 53, 56, 57, 65, 66, 68, 69, 70, 71, 72, 73, 74, 75, 76, 77, 91, 96, 97, 114, 115]
theorem structTys_ok : (structTys.all fun t => !(Try.prog.stoodInHeld t) && !(Try.prog.eqGuardType Try.prog.depth t)) = true := by kernel_rfl
theorem structNames_ok : (structTys.all fun t => match Try.prog.underlying t with | some (.struct fs) => fs.toList.all fun f => f.name != "_" | _ => false) = true := by kernel_rfl
theorem tys_flds0 : ((List.range 155).all fun t => match tys t with | some ⟨_, .strct fs, _⟩ => fs.all fun f => (tys f.2).isSome | _ => true) = true := by kernel_rfl
theorem tys_flds (t z1 : Nat) (fs : List (Nat × TypeId)) (z2 : SV) (h : tys t = some ⟨z1, .strct fs, z2⟩) : (fs.all fun f => (tys f.2).isSome) = true := by
  have hlt : t < 155 := by
    unfold tys at h
    cases hb : Nat.blt t 155 with
    | false => rw [hb] at h; cases h
    | true => simpa using hb
  have := List.all_eq_true.1 tys_flds0 t (List.mem_range.2 hlt)
  rw [h] at this
  exact this
theorem tys_small0 : ((List.range 155).all fun t => match Try.prog.info? t with | some i => Nat.ble i.bytes 1048576 | none => true) = true := by kernel_rfl
theorem tys_small (t : Nat) (d : TD) (i : TypeInfo) (h : tys t = some d) (hi : Try.prog.info? t = some i) : i.bytes ≤ 1048576 := by
  have hlt : t < 155 := by
    unfold tys at h
    cases hb : Nat.blt t 155 with
    | false => rw [hb] at h; cases h
    | true => simpa using hb
  have := List.all_eq_true.1 tys_small0 t (List.mem_range.2 hlt)
  rw [hi] at this
  simpa using this
theorem mixed : Try.prog.follows .mixedOrders = true := by kernel_rfl
end Go.Proofs.Ytfncoeoaniclmaa
