import Derived.Test.YtjemfkoamfnofaaGreatPerf
import Derived.KernelRfl
set_option linter.unusedVariables false
set_option maxRecDepth 100000
namespace Go.Proofs.YtjemfkoamfnofaaGreat
open Go Go.RowKit
def td1 : TD := ⟨1, .func, .v .nilFunc⟩
def td2 : TD := ⟨1, .int .i64, .ki .i64 0⟩
def td3 : TD := ⟨1, .int .i64, .ki .i64 0⟩
def td4 : TD := ⟨1, .bool, .kb false⟩
def td5 : TD := ⟨1, .int .u8, .ki .u8 0⟩
def td6 : TD := ⟨1, .int .u8, .ki .u8 0⟩
def td7 : TD := ⟨4, .strct [(0, 2), (1, 3), (2, 4), (3, 6)], .agg [.ki .i64 0, .ki .i64 0, .kb false, .ki .u8 0]⟩
def td8 : TD := ⟨4, .strct [(0, 2), (1, 3), (2, 4), (3, 6)], .agg [.ki .i64 0, .ki .i64 0, .kb false, .ki .u8 0]⟩
def td9 : TD := ⟨1, .str, .v (.string ⟨#[]⟩)⟩
def td10 : TD := ⟨1, .str, .v (.string ⟨#[]⟩)⟩
def td11 : TD := ⟨1, .str, .v (.string ⟨#[]⟩)⟩
def td12 : TD := ⟨1, .int .u64, .ki .u64 0⟩
def td13 : TD := ⟨2, .strct [(0, 9), (1, 12)], .agg [.v (.string ⟨#[]⟩), .ki .u64 0]⟩
def td14 : TD := ⟨2, .strct [(0, 9), (1, 12)], .agg [.v (.string ⟨#[]⟩), .ki .u64 0]⟩
def td15 : TD := ⟨1, .ptr 162, .v (.pointer none)⟩
def td16 : TD := ⟨1, .ptr 165, .v (.pointer none)⟩
def td17 : TD := ⟨1, .ptr 174, .v (.pointer none)⟩
def td18 : TD := ⟨1, .strct [(0, 17)], .agg [.v (.pointer none)]⟩
def td19 : TD := ⟨1, .strct [(0, 17)], .agg [.v (.pointer none)]⟩
def td21 : TD := ⟨1, .int .i32, .ki .i32 0⟩
def td22 : TD := ⟨1, .int .u64, .ki .u64 0⟩
def td23 : TD := ⟨4, .strct [(0, 3), (1, 3), (2, 3), (3, 3)], .rcd (.times ⟨0, 0, 0, 0⟩)⟩
def td24 : TD := ⟨4, .strct [(0, 3), (1, 3), (2, 3), (3, 3)], .rcd (.times ⟨0, 0, 0, 0⟩)⟩
def td25 : TD := ⟨1, .slice 76, .v (.slice none 0 0)⟩
def td26 : TD := ⟨1, .func, .v .nilFunc⟩
def td27 : TD := ⟨1, .int .u32, .ki .u32 0⟩
def td28 : TD := ⟨1, .int .u16, .ki .u16 0⟩
def td29 : TD := ⟨5, .strct [(0, 22), (1, 27), (2, 22), (3, 28), (4, 28)], .rcd (.vec ⟨0, 0, 0, 0, 0⟩)⟩
def td30 : TD := ⟨5, .strct [(0, 22), (1, 27), (2, 22), (3, 28), (4, 28)], .rcd (.vec ⟨0, 0, 0, 0, 0⟩)⟩
def td31 : TD := ⟨1, .slice 60, .v (.slice none 0 0)⟩
def td32 : TD := ⟨1, .slice 71, .v (.slice none 0 0)⟩
def td33 : TD := ⟨1, .slice 3, .v (.slice none 0 0)⟩
def td34 : TD := ⟨20, .strct [(0, 22), (1, 4), (2, 24), (6, 3), (7, 30), (12, 3), (13, 24), (17, 31), (18, 32), (19, 33)], .agg [.ki .u64 0, .kb false, .rcd (.times ⟨0, 0, 0, 0⟩), .ki .i64 0, .rcd (.vec ⟨0, 0, 0, 0, 0⟩), .ki .i64 0, .rcd (.times ⟨0, 0, 0, 0⟩), .v (.slice none 0 0), .v (.slice none 0 0), .v (.slice none 0 0)]⟩
def td35 : TD := ⟨20, .strct [(0, 22), (1, 4), (2, 24), (6, 3), (7, 30), (12, 3), (13, 24), (17, 31), (18, 32), (19, 33)], .agg [.ki .u64 0, .kb false, .rcd (.times ⟨0, 0, 0, 0⟩), .ki .i64 0, .rcd (.vec ⟨0, 0, 0, 0, 0⟩), .ki .i64 0, .rcd (.times ⟨0, 0, 0, 0⟩), .v (.slice none 0 0), .v (.slice none 0 0), .v (.slice none 0 0)]⟩
def td37 : TD := ⟨1, .func, .v .nilFunc⟩
def td38 : TD := ⟨1, .slice 73, .v (.slice none 0 0)⟩
def td39 : TD := ⟨1, .func, .v .nilFunc⟩
def td40 : TD := ⟨1, .func, .v .nilFunc⟩
def td41 : TD := ⟨1, .func, .v .nilFunc⟩
def td42 : TD := ⟨1, .func, .v .nilFunc⟩
def td43 : TD := ⟨1, .slice 48, .v (.slice none 0 0)⟩
def td44 : TD := ⟨1, .func, .v .nilFunc⟩
def td45 : TD := ⟨17, .strct [(0, 3), (1, 4), (2, 4), (3, 4), (4, 4), (5, 4), (6, 4), (7, 3), (8, 30), (13, 24)], .rcd (.msg ⟨0, false, false, false, false, false, false, 0, ⟨0, 0, 0, 0, 0⟩, ⟨0, 0, 0, 0⟩⟩)⟩
def td46 : TD := ⟨17, .strct [(0, 3), (1, 4), (2, 4), (3, 4), (4, 4), (5, 4), (6, 4), (7, 3), (8, 30), (13, 24)], .rcd (.msg ⟨0, false, false, false, false, false, false, 0, ⟨0, 0, 0, 0, 0⟩, ⟨0, 0, 0, 0⟩⟩)⟩
def td47 : TD := ⟨20, .strct [(0, 5), (1, 5), (2, 4), (3, 46)], .rcd (.todo ⟨0, 0, false, ⟨0, false, false, false, false, false, false, 0, ⟨0, 0, 0, 0, 0⟩, ⟨0, 0, 0, 0⟩⟩⟩)⟩
def td48 : TD := ⟨20, .strct [(0, 5), (1, 5), (2, 4), (3, 46)], .rcd (.todo ⟨0, 0, false, ⟨0, false, false, false, false, false, false, 0, ⟨0, 0, 0, 0, 0⟩, ⟨0, 0, 0, 0⟩⟩⟩)⟩
def td49 : TD := ⟨1, .func, .v .nilFunc⟩
def td51 : TD := ⟨1, .func, .v .nilFunc⟩
def td52 : TD := ⟨1, .ptr 35, .v (.pointer none)⟩
def td53 : TD := ⟨9, .strct [(0, 3), (1, 3), (2, 3), (3, 3), (4, 3), (5, 3), (6, 3), (7, 3), (8, 3)], .rcd (.clocks ⟨0, 0, 0, 0, 0, 0, 0, 0, 0⟩)⟩
def td54 : TD := ⟨9, .strct [(0, 3), (1, 3), (2, 3), (3, 3), (4, 3), (5, 3), (6, 3), (7, 3), (8, 3)], .rcd (.clocks ⟨0, 0, 0, 0, 0, 0, 0, 0, 0⟩)⟩
def td55 : TD := ⟨7, .strct [(0, 3), (1, 3), (2, 3), (3, 3), (4, 3), (5, 3), (6, 3)], .rcd (.states ⟨0, 0, 0, 0, 0, 0, 0⟩)⟩
def td56 : TD := ⟨7, .strct [(0, 3), (1, 3), (2, 3), (3, 3), (4, 3), (5, 3), (6, 3)], .rcd (.states ⟨0, 0, 0, 0, 0, 0, 0⟩)⟩
def td57 : TD := ⟨29, .strct [(0, 4), (1, 4), (2, 4), (3, 4), (4, 4), (5, 4), (6, 4), (7, 4), (8, 4), (9, 4), (10, 4), (11, 4), (12, 4), (13, 4), (14, 4), (15, 4), (16, 4), (17, 4), (18, 4), (19, 4), (20, 4), (21, 4), (22, 4), (23, 4), (24, 4), (25, 4), (26, 4), (27, 4), (28, 4)], .rcd (.flags ⟨false, false, false, false, false, false, false, false, false, false, false, false, false, false, false, false, false, false, false, false, false, false, false, false, false, false, false, false, false⟩)⟩
def td58 : TD := ⟨29, .strct [(0, 4), (1, 4), (2, 4), (3, 4), (4, 4), (5, 4), (6, 4), (7, 4), (8, 4), (9, 4), (10, 4), (11, 4), (12, 4), (13, 4), (14, 4), (15, 4), (16, 4), (17, 4), (18, 4), (19, 4), (20, 4), (21, 4), (22, 4), (23, 4), (24, 4), (25, 4), (26, 4), (27, 4), (28, 4)], .rcd (.flags ⟨false, false, false, false, false, false, false, false, false, false, false, false, false, false, false, false, false, false, false, false, false, false, false, false, false, false, false, false, false⟩)⟩
def td59 : TD := ⟨89, .strct [(0, 28), (1, 27), (2, 4), (3, 4), (4, 4), (5, 4), (6, 54), (15, 56), (22, 58), (51, 46), (68, 30), (73, 30), (78, 24), (82, 24), (86, 3), (87, 3), (88, 3)], .rcd (.port ⟨0, 0, false, false, false, false, ⟨0, 0, 0, 0, 0, 0, 0, 0, 0⟩, ⟨0, 0, 0, 0, 0, 0, 0⟩, ⟨false, false, false, false, false, false, false, false, false, false, false, false, false, false, false, false, false, false, false, false, false, false, false, false, false, false, false, false, false⟩, ⟨0, false, false, false, false, false, false, 0, ⟨0, 0, 0, 0, 0⟩, ⟨0, 0, 0, 0⟩⟩, ⟨0, 0, 0, 0, 0⟩, ⟨0, 0, 0, 0, 0⟩, ⟨0, 0, 0, 0⟩, ⟨0, 0, 0, 0⟩, 0, 0, 0⟩)⟩
def td60 : TD := ⟨89, .strct [(0, 28), (1, 27), (2, 4), (3, 4), (4, 4), (5, 4), (6, 54), (15, 56), (22, 58), (51, 46), (68, 30), (73, 30), (78, 24), (82, 24), (86, 3), (87, 3), (88, 3)], .rcd (.port ⟨0, 0, false, false, false, false, ⟨0, 0, 0, 0, 0, 0, 0, 0, 0⟩, ⟨0, 0, 0, 0, 0, 0, 0⟩, ⟨false, false, false, false, false, false, false, false, false, false, false, false, false, false, false, false, false, false, false, false, false, false, false, false, false, false, false, false, false⟩, ⟨0, false, false, false, false, false, false, 0, ⟨0, 0, 0, 0, 0⟩, ⟨0, 0, 0, 0⟩⟩, ⟨0, 0, 0, 0, 0⟩, ⟨0, 0, 0, 0, 0⟩, ⟨0, 0, 0, 0⟩, ⟨0, 0, 0, 0⟩, 0, 0, 0⟩)⟩
def td61 : TD := ⟨1, .func, .v .nilFunc⟩
def td62 : TD := ⟨1, .slice 4, .v (.slice none 0 0)⟩
def td63 : TD := ⟨1, .func, .v .nilFunc⟩
def td64 : TD := ⟨1, .func, .v .nilFunc⟩
def td65 : TD := ⟨1, .func, .v .nilFunc⟩
def td66 : TD := ⟨1, .func, .v .nilFunc⟩
def td67 : TD := ⟨1, .func, .v .nilFunc⟩
def td68 : TD := ⟨1, .func, .v .nilFunc⟩
def td69 : TD := ⟨1, .func, .v .nilFunc⟩
def td70 : TD := ⟨18, .strct [(0, 3), (1, 46)], .rcd (.sent ⟨0, ⟨0, false, false, false, false, false, false, 0, ⟨0, 0, 0, 0, 0⟩, ⟨0, 0, 0, 0⟩⟩⟩)⟩
def td71 : TD := ⟨18, .strct [(0, 3), (1, 46)], .rcd (.sent ⟨0, ⟨0, false, false, false, false, false, false, 0, ⟨0, 0, 0, 0, 0⟩, ⟨0, 0, 0, 0⟩⟩⟩)⟩
def td72 : TD := ⟨5, .strct [(0, 28), (1, 27), (2, 4), (3, 4), (4, 4)], .rcd (.conf ⟨0, 0, false, false, false⟩)⟩
def td73 : TD := ⟨5, .strct [(0, 28), (1, 27), (2, 4), (3, 4), (4, 4)], .rcd (.conf ⟨0, 0, false, false, false⟩)⟩
def td74 : TD := ⟨1, .func, .v .nilFunc⟩
def td75 : TD := ⟨1, .func, .v .nilFunc⟩
def td76 : TD := ⟨5, .strct [(0, 28), (1, 27), (2, 4), (3, 4), (4, 4)], .rcd (.conf ⟨0, 0, false, false, false⟩)⟩
def td77 : TD := ⟨1, .func, .v .nilFunc⟩
def td78 : TD := ⟨1, .func, .v .nilFunc⟩
def td79 : TD := ⟨1, .func, .v .nilFunc⟩
def td80 : TD := ⟨1, .func, .v .nilFunc⟩
def td81 : TD := ⟨1, .func, .v .nilFunc⟩
def td82 : TD := ⟨1, .func, .v .nilFunc⟩
def td83 : TD := ⟨8, .arr 8 77, .agg [.v .nilFunc, .v .nilFunc, .v .nilFunc, .v .nilFunc, .v .nilFunc, .v .nilFunc, .v .nilFunc, .v .nilFunc]⟩
def td84 : TD := ⟨1, .func, .v .nilFunc⟩
def td85 : TD := ⟨1, .ptr 3, .v (.pointer none)⟩
def td86 : TD := ⟨9, .arr 9 85, .agg [.v (.pointer none), .v (.pointer none), .v (.pointer none), .v (.pointer none), .v (.pointer none), .v (.pointer none), .v (.pointer none), .v (.pointer none), .v (.pointer none)]⟩
def td87 : TD := ⟨1, .func, .v .nilFunc⟩
def td88 : TD := ⟨1, .ptr 54, .v (.pointer none)⟩
def td89 : TD := ⟨1, .ptr 60, .v (.pointer none)⟩
def td90 : TD := ⟨1, .func, .v .nilFunc⟩
def td91 : TD := ⟨1, .func, .v .nilFunc⟩
def td92 : TD := ⟨1, .func, .v .nilFunc⟩
def td93 : TD := ⟨1, .func, .v .nilFunc⟩
def td95 : TD := ⟨1, .func, .v .nilFunc⟩
def td96 : TD := ⟨1, .func, .v .nilFunc⟩
def td97 : TD := ⟨1, .func, .v .nilFunc⟩
def td98 : TD := ⟨1, .func, .v .nilFunc⟩
def td99 : TD := ⟨1, .func, .v .nilFunc⟩
def td100 : TD := ⟨1, .func, .v .nilFunc⟩
def td101 : TD := ⟨1, .strct [(0, 89)], .agg [.v (.pointer none)]⟩
def td102 : TD := ⟨1, .strct [(0, 89)], .agg [.v (.pointer none)]⟩
def td103 : TD := ⟨1, .func, .v .nilFunc⟩
def td104 : TD := ⟨1, .slice 109, .v (.slice none 0 0)⟩
def td105 : TD := ⟨1, .func, .v .nilFunc⟩
def td106 : TD := ⟨1, .func, .v .nilFunc⟩
def td107 : TD := ⟨1, .func, .v .nilFunc⟩
def td108 : TD := ⟨3, .strct [(0, 3), (1, 106), (2, 107)], .agg [.ki .i64 0, .v .nilFunc, .v .nilFunc]⟩
def td109 : TD := ⟨3, .strct [(0, 3), (1, 106), (2, 107)], .agg [.ki .i64 0, .v .nilFunc, .v .nilFunc]⟩
def td110 : TD := ⟨2, .arr 2 81, .agg [.v .nilFunc, .v .nilFunc]⟩
def td111 : TD := ⟨2, .strct [(0, 89), (1, 4)], .agg [.v (.pointer none), .kb false]⟩
def td112 : TD := ⟨2, .strct [(0, 89), (1, 4)], .agg [.v (.pointer none), .kb false]⟩
def td113 : TD := ⟨1, .func, .v .nilFunc⟩
def td114 : TD := ⟨1, .func, .v .nilFunc⟩
def td115 : TD := ⟨1, .ptr 58, .v (.pointer none)⟩
def td116 : TD := ⟨5, .strct [(0, 52), (1, 3), (2, 89), (3, 115), (4, 88)], .agg [.v (.pointer none), .ki .i64 0, .v (.pointer none), .v (.pointer none), .v (.pointer none)]⟩
def td117 : TD := ⟨5, .strct [(0, 52), (1, 3), (2, 89), (3, 115), (4, 88)], .agg [.v (.pointer none), .ki .i64 0, .v (.pointer none), .v (.pointer none), .v (.pointer none)]⟩
def td118 : TD := ⟨1, .slice 121, .v (.slice none 0 0)⟩
def td119 : TD := ⟨1, .func, .v .nilFunc⟩
def td120 : TD := ⟨2, .strct [(0, 4), (1, 1)], .agg [.kb false, .v .nilFunc]⟩
def td121 : TD := ⟨2, .strct [(0, 4), (1, 1)], .agg [.kb false, .v .nilFunc]⟩
def td122 : TD := ⟨1, .slice 126, .v (.slice none 0 0)⟩
def td123 : TD := ⟨1, .func, .v .nilFunc⟩
def td124 : TD := ⟨1, .func, .v .nilFunc⟩
def td125 : TD := ⟨4, .strct [(0, 3), (1, 3), (2, 124), (3, 3)], .agg [.ki .i64 0, .ki .i64 0, .v .nilFunc, .ki .i64 0]⟩
def td126 : TD := ⟨4, .strct [(0, 3), (1, 3), (2, 124), (3, 3)], .agg [.ki .i64 0, .ki .i64 0, .v .nilFunc, .ki .i64 0]⟩
def td127 : TD := ⟨1, .func, .v .nilFunc⟩
def td128 : TD := ⟨4, .strct [(0, 52), (1, 3), (2, 89), (3, 115)], .agg [.v (.pointer none), .ki .i64 0, .v (.pointer none), .v (.pointer none)]⟩
def td129 : TD := ⟨4, .strct [(0, 52), (1, 3), (2, 89), (3, 115)], .agg [.v (.pointer none), .ki .i64 0, .v (.pointer none), .v (.pointer none)]⟩
def td130 : TD := ⟨1, .func, .v .nilFunc⟩
def td131 : TD := ⟨1, .func, .v .nilFunc⟩
def td132 : TD := ⟨1, .func, .v .nilFunc⟩
def td133 : TD := ⟨1, .func, .v .nilFunc⟩
def td134 : TD := ⟨1, .func, .v .nilFunc⟩
def td135 : TD := ⟨1, .func, .v .nilFunc⟩
def td136 : TD := ⟨1, .func, .v .nilFunc⟩
def td137 : TD := ⟨1, .func, .v .nilFunc⟩
def td138 : TD := ⟨1, .func, .v .nilFunc⟩
def td139 : TD := ⟨4, .arr 4 4, .agg [.kb false, .kb false, .kb false, .kb false]⟩
def td140 : TD := ⟨1, .func, .v .nilFunc⟩
def td141 : TD := ⟨1, .func, .v .nilFunc⟩
def td142 : TD := ⟨1, .func, .v .nilFunc⟩
def td143 : TD := ⟨1, .func, .v .nilFunc⟩
def td144 : TD := ⟨5, .strct [(0, 22), (1, 27), (2, 22), (3, 28), (4, 28)], .rcd (.vec ⟨0, 0, 0, 0, 0⟩)⟩
def td145 : TD := ⟨1, .func, .v .nilFunc⟩
def td146 : TD := ⟨1, .map 3 113, .v (.map none)⟩
def td147 : TD := ⟨1, .func, .v .nilFunc⟩
def td148 : TD := ⟨1, .func, .v .nilFunc⟩
def td149 : TD := ⟨1, .func, .v .nilFunc⟩
def td150 : TD := ⟨1, .func, .v .nilFunc⟩
def td151 : TD := ⟨1, .slice 142, .v (.slice none 0 0)⟩
def td152 : TD := ⟨1, .func, .v .nilFunc⟩
def td153 : TD := ⟨1, .func, .v .nilFunc⟩
def td154 : TD := ⟨1, .func, .v .nilFunc⟩
def td155 : TD := ⟨1, .func, .v .nilFunc⟩
def td156 : TD := ⟨1, .func, .v .nilFunc⟩
def td157 : TD := ⟨1, .func, .v .nilFunc⟩
def td158 : TD := ⟨1, .func, .v .nilFunc⟩
def td159 : TD := ⟨1, .func, .v .nilFunc⟩
def td160 : TD := ⟨1, .func, .v .nilFunc⟩
def td161 : TD := ⟨4, .strct [(0, 17), (1, 17), (2, 17), (3, 9)], .agg [.v (.pointer none), .v (.pointer none), .v (.pointer none), .v (.string ⟨#[]⟩)]⟩
def td162 : TD := ⟨4, .strct [(0, 17), (1, 17), (2, 17), (3, 9)], .agg [.v (.pointer none), .v (.pointer none), .v (.pointer none), .v (.string ⟨#[]⟩)]⟩
def td166 : TD := ⟨1, .func, .v .nilFunc⟩
def td167 : TD := ⟨1, .int .u8, .ki .u8 0⟩
def td168 : TD := ⟨1, .int .u8, .ki .u8 0⟩
def td169 : TD := ⟨1, .func, .v .nilFunc⟩
def td170 : TD := ⟨1, .ptr 5, .v (.pointer none)⟩
def td171 : TD := ⟨1, .int .i32, .ki .i32 0⟩
def td172 : TD := ⟨1, .int .i32, .ki .i32 0⟩
def td173 : TD := ⟨11, .strct [(0, 12), (1, 12), (2, 27), (3, 167), (4, 5), (5, 5), (6, 168), (7, 169), (8, 170), (9, 171), (10, 172)], .agg [.ki .u64 0, .ki .u64 0, .ki .u32 0, .ki .u8 0, .ki .u8 0, .ki .u8 0, .ki .u8 0, .v .nilFunc, .v (.pointer none), .ki .i32 0, .ki .i32 0]⟩
def td174 : TD := ⟨11, .strct [(0, 12), (1, 12), (2, 27), (3, 167), (4, 5), (5, 5), (6, 168), (7, 169), (8, 170), (9, 171), (10, 172)], .agg [.ki .u64 0, .ki .u64 0, .ki .u32 0, .ki .u8 0, .ki .u8 0, .ki .u8 0, .ki .u8 0, .v .nilFunc, .v (.pointer none), .ki .i32 0, .ki .i32 0]⟩
def tys (t : Nat) : Option TD := bif Nat.blt t 176 then (bif Nat.blt t 88 then (bif Nat.blt t 44 then (bif Nat.blt t 22 then (bif Nat.blt t 11 then (bif Nat.blt t 5 then (bif Nat.blt t 2 then (bif Nat.blt t 1 then (none) else (some td1)) else (bif Nat.blt t 3 then (some td2) else (bif Nat.blt t 4 then (some td3) else (some td4)))) else (bif Nat.blt t 8 then (bif Nat.blt t 6 then (some td5) else (bif Nat.blt t 7 then (some td6) else (some td7))) else (bif Nat.blt t 9 then (some td8) else (bif Nat.blt t 10 then (some td9) else (some td10))))) else (bif Nat.blt t 16 then (bif Nat.blt t 13 then (bif Nat.blt t 12 then (some td11) else (some td12)) else (bif Nat.blt t 14 then (some td13) else (bif Nat.blt t 15 then (some td14) else (some td15)))) else (bif Nat.blt t 19 then (bif Nat.blt t 17 then (some td16) else (bif Nat.blt t 18 then (some td17) else (some td18))) else (bif Nat.blt t 20 then (some td19) else (bif Nat.blt t 21 then (none) else (some td21)))))) else (bif Nat.blt t 33 then (bif Nat.blt t 27 then (bif Nat.blt t 24 then (bif Nat.blt t 23 then (some td22) else (some td23)) else (bif Nat.blt t 25 then (some td24) else (bif Nat.blt t 26 then (some td25) else (some td26)))) else (bif Nat.blt t 30 then (bif Nat.blt t 28 then (some td27) else (bif Nat.blt t 29 then (some td28) else (some td29))) else (bif Nat.blt t 31 then (some td30) else (bif Nat.blt t 32 then (some td31) else (some td32))))) else (bif Nat.blt t 38 then (bif Nat.blt t 35 then (bif Nat.blt t 34 then (some td33) else (some td34)) else (bif Nat.blt t 36 then (some td35) else (bif Nat.blt t 37 then (none) else (some td37)))) else (bif Nat.blt t 41 then (bif Nat.blt t 39 then (some td38) else (bif Nat.blt t 40 then (some td39) else (some td40))) else (bif Nat.blt t 42 then (some td41) else (bif Nat.blt t 43 then (some td42) else (some td43))))))) else (bif Nat.blt t 66 then (bif Nat.blt t 55 then (bif Nat.blt t 49 then (bif Nat.blt t 46 then (bif Nat.blt t 45 then (some td44) else (some td45)) else (bif Nat.blt t 47 then (some td46) else (bif Nat.blt t 48 then (some td47) else (some td48)))) else (bif Nat.blt t 52 then (bif Nat.blt t 50 then (some td49) else (bif Nat.blt t 51 then (none) else (some td51))) else (bif Nat.blt t 53 then (some td52) else (bif Nat.blt t 54 then (some td53) else (some td54))))) else (bif Nat.blt t 60 then (bif Nat.blt t 57 then (bif Nat.blt t 56 then (some td55) else (some td56)) else (bif Nat.blt t 58 then (some td57) else (bif Nat.blt t 59 then (some td58) else (some td59)))) else (bif Nat.blt t 63 then (bif Nat.blt t 61 then (some td60) else (bif Nat.blt t 62 then (some td61) else (some td62))) else (bif Nat.blt t 64 then (some td63) else (bif Nat.blt t 65 then (some td64) else (some td65)))))) else (bif Nat.blt t 77 then (bif Nat.blt t 71 then (bif Nat.blt t 68 then (bif Nat.blt t 67 then (some td66) else (some td67)) else (bif Nat.blt t 69 then (some td68) else (bif Nat.blt t 70 then (some td69) else (some td70)))) else (bif Nat.blt t 74 then (bif Nat.blt t 72 then (some td71) else (bif Nat.blt t 73 then (some td72) else (some td73))) else (bif Nat.blt t 75 then (some td74) else (bif Nat.blt t 76 then (some td75) else (some td76))))) else (bif Nat.blt t 82 then (bif Nat.blt t 79 then (bif Nat.blt t 78 then (some td77) else (some td78)) else (bif Nat.blt t 80 then (some td79) else (bif Nat.blt t 81 then (some td80) else (some td81)))) else (bif Nat.blt t 85 then (bif Nat.blt t 83 then (some td82) else (bif Nat.blt t 84 then (some td83) else (some td84))) else (bif Nat.blt t 86 then (some td85) else (bif Nat.blt t 87 then (some td86) else (some td87)))))))) else (bif Nat.blt t 132 then (bif Nat.blt t 110 then (bif Nat.blt t 99 then (bif Nat.blt t 93 then (bif Nat.blt t 90 then (bif Nat.blt t 89 then (some td88) else (some td89)) else (bif Nat.blt t 91 then (some td90) else (bif Nat.blt t 92 then (some td91) else (some td92)))) else (bif Nat.blt t 96 then (bif Nat.blt t 94 then (some td93) else (bif Nat.blt t 95 then (none) else (some td95))) else (bif Nat.blt t 97 then (some td96) else (bif Nat.blt t 98 then (some td97) else (some td98))))) else (bif Nat.blt t 104 then (bif Nat.blt t 101 then (bif Nat.blt t 100 then (some td99) else (some td100)) else (bif Nat.blt t 102 then (some td101) else (bif Nat.blt t 103 then (some td102) else (some td103)))) else (bif Nat.blt t 107 then (bif Nat.blt t 105 then (some td104) else (bif Nat.blt t 106 then (some td105) else (some td106))) else (bif Nat.blt t 108 then (some td107) else (bif Nat.blt t 109 then (some td108) else (some td109)))))) else (bif Nat.blt t 121 then (bif Nat.blt t 115 then (bif Nat.blt t 112 then (bif Nat.blt t 111 then (some td110) else (some td111)) else (bif Nat.blt t 113 then (some td112) else (bif Nat.blt t 114 then (some td113) else (some td114)))) else (bif Nat.blt t 118 then (bif Nat.blt t 116 then (some td115) else (bif Nat.blt t 117 then (some td116) else (some td117))) else (bif Nat.blt t 119 then (some td118) else (bif Nat.blt t 120 then (some td119) else (some td120))))) else (bif Nat.blt t 126 then (bif Nat.blt t 123 then (bif Nat.blt t 122 then (some td121) else (some td122)) else (bif Nat.blt t 124 then (some td123) else (bif Nat.blt t 125 then (some td124) else (some td125)))) else (bif Nat.blt t 129 then (bif Nat.blt t 127 then (some td126) else (bif Nat.blt t 128 then (some td127) else (some td128))) else (bif Nat.blt t 130 then (some td129) else (bif Nat.blt t 131 then (some td130) else (some td131))))))) else (bif Nat.blt t 154 then (bif Nat.blt t 143 then (bif Nat.blt t 137 then (bif Nat.blt t 134 then (bif Nat.blt t 133 then (some td132) else (some td133)) else (bif Nat.blt t 135 then (some td134) else (bif Nat.blt t 136 then (some td135) else (some td136)))) else (bif Nat.blt t 140 then (bif Nat.blt t 138 then (some td137) else (bif Nat.blt t 139 then (some td138) else (some td139))) else (bif Nat.blt t 141 then (some td140) else (bif Nat.blt t 142 then (some td141) else (some td142))))) else (bif Nat.blt t 148 then (bif Nat.blt t 145 then (bif Nat.blt t 144 then (some td143) else (some td144)) else (bif Nat.blt t 146 then (some td145) else (bif Nat.blt t 147 then (some td146) else (some td147)))) else (bif Nat.blt t 151 then (bif Nat.blt t 149 then (some td148) else (bif Nat.blt t 150 then (some td149) else (some td150))) else (bif Nat.blt t 152 then (some td151) else (bif Nat.blt t 153 then (some td152) else (some td153)))))) else (bif Nat.blt t 165 then (bif Nat.blt t 159 then (bif Nat.blt t 156 then (bif Nat.blt t 155 then (some td154) else (some td155)) else (bif Nat.blt t 157 then (some td156) else (bif Nat.blt t 158 then (some td157) else (some td158)))) else (bif Nat.blt t 162 then (bif Nat.blt t 160 then (some td159) else (bif Nat.blt t 161 then (some td160) else (some td161))) else (bif Nat.blt t 163 then (some td162) else (bif Nat.blt t 164 then (none) else (none))))) else (bif Nat.blt t 170 then (bif Nat.blt t 167 then (bif Nat.blt t 166 then (none) else (some td166)) else (bif Nat.blt t 168 then (some td167) else (bif Nat.blt t 169 then (some td168) else (some td169)))) else (bif Nat.blt t 173 then (bif Nat.blt t 171 then (some td170) else (bif Nat.blt t 172 then (some td171) else (some td172))) else (bif Nat.blt t 174 then (some td173) else (bif Nat.blt t 175 then (some td174) else (none))))))))) else none
noncomputable def factL (t : TypeId) : Option (Nat × Sh × Option Value) := (Tryz.prog.info? t).bind fun i => (Tryz.prog.underlying t).map fun u => (i.size, shapeOf u, i.zero)
theorem tyOk_of {t : TypeId} {d : TD} (h : ∀ S E, factL t = some (d.size, d.sh, some (d.zero.den S E))) (h1 : d.zero.one = true) (h2 : d.sh.agg = d.zero.aggr) (h3 : d.zero.size = d.size) : TyOk Tryz.prog t d := by
 have key : ∀ S E, ∃ i u, Tryz.prog.info? t = some i ∧ Tryz.prog.underlying t = some u ∧ i.size = d.size ∧ shapeOf u = d.sh ∧ i.zero = some (d.zero.den S E) := by
   intro S E
   have hh := h S E
   unfold factL at hh
   cases hi : Tryz.prog.info? t with
   | none => rw [hi] at hh; cases hh
   | some i =>
     cases hu : Tryz.prog.underlying t with
     | none => rw [hi, hu] at hh; cases hh
     | some u =>
       rw [hi, hu] at hh
       simp only [Option.bind_some, Option.map_some, Option.some.injEq, Prod.mk.injEq] at hh
       exact ⟨i, u, rfl, rfl, hh.1, hh.2.1, hh.2.2⟩
 refine ⟨?_, ?_, h1, h2, h3⟩
 · obtain ⟨i, u, a, b, e, f, _⟩ := key ⟨fun _ => (none, 0, 0), fun _ => 0, fun _ => false⟩ ⟨fun _ => default, fun _ => (0, false)⟩
   exact ⟨i, u, a, b, e, f⟩
 · intro S E
   obtain ⟨i, u, a, b, e, f, g⟩ := key S E
   rw [a]; exact g
theorem tk1 : TyOk Tryz.prog 1 td1 := tyOk_of (fun S E => by kernel_rfl) rfl rfl rfl
theorem tk2 : TyOk Tryz.prog 2 td2 := tyOk_of (fun S E => by kernel_rfl) rfl rfl rfl
theorem tk3 : TyOk Tryz.prog 3 td3 := tyOk_of (fun S E => by kernel_rfl) rfl rfl rfl
theorem tk4 : TyOk Tryz.prog 4 td4 := tyOk_of (fun S E => by kernel_rfl) rfl rfl rfl
theorem tk5 : TyOk Tryz.prog 5 td5 := tyOk_of (fun S E => by kernel_rfl) rfl rfl rfl
theorem tk6 : TyOk Tryz.prog 6 td6 := tyOk_of (fun S E => by kernel_rfl) rfl rfl rfl
theorem tk7 : TyOk Tryz.prog 7 td7 := tyOk_of (fun S E => by kernel_rfl) rfl rfl rfl
theorem tk8 : TyOk Tryz.prog 8 td8 := tyOk_of (fun S E => by kernel_rfl) rfl rfl rfl
theorem tk9 : TyOk Tryz.prog 9 td9 := tyOk_of (fun S E => by kernel_rfl) rfl rfl rfl
theorem tk10 : TyOk Tryz.prog 10 td10 := tyOk_of (fun S E => by kernel_rfl) rfl rfl rfl
theorem tk11 : TyOk Tryz.prog 11 td11 := tyOk_of (fun S E => by kernel_rfl) rfl rfl rfl
theorem tk12 : TyOk Tryz.prog 12 td12 := tyOk_of (fun S E => by kernel_rfl) rfl rfl rfl
theorem tk13 : TyOk Tryz.prog 13 td13 := tyOk_of (fun S E => by kernel_rfl) rfl rfl rfl
theorem tk14 : TyOk Tryz.prog 14 td14 := tyOk_of (fun S E => by kernel_rfl) rfl rfl rfl
theorem tk15 : TyOk Tryz.prog 15 td15 := tyOk_of (fun S E => by kernel_rfl) rfl rfl rfl
theorem tk16 : TyOk Tryz.prog 16 td16 := tyOk_of (fun S E => by kernel_rfl) rfl rfl rfl
theorem tk17 : TyOk Tryz.prog 17 td17 := tyOk_of (fun S E => by kernel_rfl) rfl rfl rfl
theorem tk18 : TyOk Tryz.prog 18 td18 := tyOk_of (fun S E => by kernel_rfl) rfl rfl rfl
theorem tk19 : TyOk Tryz.prog 19 td19 := tyOk_of (fun S E => by kernel_rfl) rfl rfl rfl
theorem tk21 : TyOk Tryz.prog 21 td21 := tyOk_of (fun S E => by kernel_rfl) rfl rfl rfl
theorem tk22 : TyOk Tryz.prog 22 td22 := tyOk_of (fun S E => by kernel_rfl) rfl rfl rfl
theorem tk23 : TyOk Tryz.prog 23 td23 := tyOk_of (fun S E => by kernel_rfl) rfl rfl rfl
theorem tk24 : TyOk Tryz.prog 24 td24 := tyOk_of (fun S E => by kernel_rfl) rfl rfl rfl
theorem tk25 : TyOk Tryz.prog 25 td25 := tyOk_of (fun S E => by kernel_rfl) rfl rfl rfl
theorem tk26 : TyOk Tryz.prog 26 td26 := tyOk_of (fun S E => by kernel_rfl) rfl rfl rfl
theorem tk27 : TyOk Tryz.prog 27 td27 := tyOk_of (fun S E => by kernel_rfl) rfl rfl rfl
theorem tk28 : TyOk Tryz.prog 28 td28 := tyOk_of (fun S E => by kernel_rfl) rfl rfl rfl
theorem tk29 : TyOk Tryz.prog 29 td29 := tyOk_of (fun S E => by kernel_rfl) rfl rfl rfl
theorem tk30 : TyOk Tryz.prog 30 td30 := tyOk_of (fun S E => by kernel_rfl) rfl rfl rfl
theorem tk31 : TyOk Tryz.prog 31 td31 := tyOk_of (fun S E => by kernel_rfl) rfl rfl rfl
theorem tk32 : TyOk Tryz.prog 32 td32 := tyOk_of (fun S E => by kernel_rfl) rfl rfl rfl
theorem tk33 : TyOk Tryz.prog 33 td33 := tyOk_of (fun S E => by kernel_rfl) rfl rfl rfl
theorem tk34 : TyOk Tryz.prog 34 td34 := tyOk_of (fun S E => by kernel_rfl) rfl rfl rfl
theorem tk35 : TyOk Tryz.prog 35 td35 := tyOk_of (fun S E => by kernel_rfl) rfl rfl rfl
theorem tk37 : TyOk Tryz.prog 37 td37 := tyOk_of (fun S E => by kernel_rfl) rfl rfl rfl
theorem tk38 : TyOk Tryz.prog 38 td38 := tyOk_of (fun S E => by kernel_rfl) rfl rfl rfl
theorem tk39 : TyOk Tryz.prog 39 td39 := tyOk_of (fun S E => by kernel_rfl) rfl rfl rfl
theorem tk40 : TyOk Tryz.prog 40 td40 := tyOk_of (fun S E => by kernel_rfl) rfl rfl rfl
theorem tk41 : TyOk Tryz.prog 41 td41 := tyOk_of (fun S E => by kernel_rfl) rfl rfl rfl
theorem tk42 : TyOk Tryz.prog 42 td42 := tyOk_of (fun S E => by kernel_rfl) rfl rfl rfl
theorem tk43 : TyOk Tryz.prog 43 td43 := tyOk_of (fun S E => by kernel_rfl) rfl rfl rfl
theorem tk44 : TyOk Tryz.prog 44 td44 := tyOk_of (fun S E => by kernel_rfl) rfl rfl rfl
theorem tk45 : TyOk Tryz.prog 45 td45 := tyOk_of (fun S E => by kernel_rfl) rfl rfl rfl
theorem tk46 : TyOk Tryz.prog 46 td46 := tyOk_of (fun S E => by kernel_rfl) rfl rfl rfl
theorem tk47 : TyOk Tryz.prog 47 td47 := tyOk_of (fun S E => by kernel_rfl) rfl rfl rfl
theorem tk48 : TyOk Tryz.prog 48 td48 := tyOk_of (fun S E => by kernel_rfl) rfl rfl rfl
theorem tk49 : TyOk Tryz.prog 49 td49 := tyOk_of (fun S E => by kernel_rfl) rfl rfl rfl
theorem tk51 : TyOk Tryz.prog 51 td51 := tyOk_of (fun S E => by kernel_rfl) rfl rfl rfl
theorem tk52 : TyOk Tryz.prog 52 td52 := tyOk_of (fun S E => by kernel_rfl) rfl rfl rfl
theorem tk53 : TyOk Tryz.prog 53 td53 := tyOk_of (fun S E => by kernel_rfl) rfl rfl rfl
theorem tk54 : TyOk Tryz.prog 54 td54 := tyOk_of (fun S E => by kernel_rfl) rfl rfl rfl
theorem tk55 : TyOk Tryz.prog 55 td55 := tyOk_of (fun S E => by kernel_rfl) rfl rfl rfl
theorem tk56 : TyOk Tryz.prog 56 td56 := tyOk_of (fun S E => by kernel_rfl) rfl rfl rfl
theorem tk57 : TyOk Tryz.prog 57 td57 := tyOk_of (fun S E => by kernel_rfl) rfl rfl rfl
theorem tk58 : TyOk Tryz.prog 58 td58 := tyOk_of (fun S E => by kernel_rfl) rfl rfl rfl
theorem tk59 : TyOk Tryz.prog 59 td59 := tyOk_of (fun S E => by kernel_rfl) rfl rfl rfl
theorem tk60 : TyOk Tryz.prog 60 td60 := tyOk_of (fun S E => by kernel_rfl) rfl rfl rfl
theorem tk61 : TyOk Tryz.prog 61 td61 := tyOk_of (fun S E => by kernel_rfl) rfl rfl rfl
theorem tk62 : TyOk Tryz.prog 62 td62 := tyOk_of (fun S E => by kernel_rfl) rfl rfl rfl
theorem tk63 : TyOk Tryz.prog 63 td63 := tyOk_of (fun S E => by kernel_rfl) rfl rfl rfl
theorem tk64 : TyOk Tryz.prog 64 td64 := tyOk_of (fun S E => by kernel_rfl) rfl rfl rfl
theorem tk65 : TyOk Tryz.prog 65 td65 := tyOk_of (fun S E => by kernel_rfl) rfl rfl rfl
theorem tk66 : TyOk Tryz.prog 66 td66 := tyOk_of (fun S E => by kernel_rfl) rfl rfl rfl
theorem tk67 : TyOk Tryz.prog 67 td67 := tyOk_of (fun S E => by kernel_rfl) rfl rfl rfl
theorem tk68 : TyOk Tryz.prog 68 td68 := tyOk_of (fun S E => by kernel_rfl) rfl rfl rfl
theorem tk69 : TyOk Tryz.prog 69 td69 := tyOk_of (fun S E => by kernel_rfl) rfl rfl rfl
theorem tk70 : TyOk Tryz.prog 70 td70 := tyOk_of (fun S E => by kernel_rfl) rfl rfl rfl
theorem tk71 : TyOk Tryz.prog 71 td71 := tyOk_of (fun S E => by kernel_rfl) rfl rfl rfl
theorem tk72 : TyOk Tryz.prog 72 td72 := tyOk_of (fun S E => by kernel_rfl) rfl rfl rfl
theorem tk73 : TyOk Tryz.prog 73 td73 := tyOk_of (fun S E => by kernel_rfl) rfl rfl rfl
theorem tk74 : TyOk Tryz.prog 74 td74 := tyOk_of (fun S E => by kernel_rfl) rfl rfl rfl
theorem tk75 : TyOk Tryz.prog 75 td75 := tyOk_of (fun S E => by kernel_rfl) rfl rfl rfl
theorem tk76 : TyOk Tryz.prog 76 td76 := tyOk_of (fun S E => by kernel_rfl) rfl rfl rfl
theorem tk77 : TyOk Tryz.prog 77 td77 := tyOk_of (fun S E => by kernel_rfl) rfl rfl rfl
theorem tk78 : TyOk Tryz.prog 78 td78 := tyOk_of (fun S E => by kernel_rfl) rfl rfl rfl
theorem tk79 : TyOk Tryz.prog 79 td79 := tyOk_of (fun S E => by kernel_rfl) rfl rfl rfl
theorem tk80 : TyOk Tryz.prog 80 td80 := tyOk_of (fun S E => by kernel_rfl) rfl rfl rfl
theorem tk81 : TyOk Tryz.prog 81 td81 := tyOk_of (fun S E => by kernel_rfl) rfl rfl rfl
theorem tk82 : TyOk Tryz.prog 82 td82 := tyOk_of (fun S E => by kernel_rfl) rfl rfl rfl
theorem tk83 : TyOk Tryz.prog 83 td83 := tyOk_of (fun S E => by kernel_rfl) rfl rfl rfl
theorem tk84 : TyOk Tryz.prog 84 td84 := tyOk_of (fun S E => by kernel_rfl) rfl rfl rfl
theorem tk85 : TyOk Tryz.prog 85 td85 := tyOk_of (fun S E => by kernel_rfl) rfl rfl rfl
theorem tk86 : TyOk Tryz.prog 86 td86 := tyOk_of (fun S E => by kernel_rfl) rfl rfl rfl
theorem tk87 : TyOk Tryz.prog 87 td87 := tyOk_of (fun S E => by kernel_rfl) rfl rfl rfl
theorem tk88 : TyOk Tryz.prog 88 td88 := tyOk_of (fun S E => by kernel_rfl) rfl rfl rfl
theorem tk89 : TyOk Tryz.prog 89 td89 := tyOk_of (fun S E => by kernel_rfl) rfl rfl rfl
theorem tk90 : TyOk Tryz.prog 90 td90 := tyOk_of (fun S E => by kernel_rfl) rfl rfl rfl
theorem tk91 : TyOk Tryz.prog 91 td91 := tyOk_of (fun S E => by kernel_rfl) rfl rfl rfl
theorem tk92 : TyOk Tryz.prog 92 td92 := tyOk_of (fun S E => by kernel_rfl) rfl rfl rfl
theorem tk93 : TyOk Tryz.prog 93 td93 := tyOk_of (fun S E => by kernel_rfl) rfl rfl rfl
theorem tk95 : TyOk Tryz.prog 95 td95 := tyOk_of (fun S E => by kernel_rfl) rfl rfl rfl
theorem tk96 : TyOk Tryz.prog 96 td96 := tyOk_of (fun S E => by kernel_rfl) rfl rfl rfl
theorem tk97 : TyOk Tryz.prog 97 td97 := tyOk_of (fun S E => by kernel_rfl) rfl rfl rfl
theorem tk98 : TyOk Tryz.prog 98 td98 := tyOk_of (fun S E => by kernel_rfl) rfl rfl rfl
theorem tk99 : TyOk Tryz.prog 99 td99 := tyOk_of (fun S E => by kernel_rfl) rfl rfl rfl
theorem tk100 : TyOk Tryz.prog 100 td100 := tyOk_of (fun S E => by kernel_rfl) rfl rfl rfl
theorem tk101 : TyOk Tryz.prog 101 td101 := tyOk_of (fun S E => by kernel_rfl) rfl rfl rfl
theorem tk102 : TyOk Tryz.prog 102 td102 := tyOk_of (fun S E => by kernel_rfl) rfl rfl rfl
theorem tk103 : TyOk Tryz.prog 103 td103 := tyOk_of (fun S E => by kernel_rfl) rfl rfl rfl
theorem tk104 : TyOk Tryz.prog 104 td104 := tyOk_of (fun S E => by kernel_rfl) rfl rfl rfl
theorem tk105 : TyOk Tryz.prog 105 td105 := tyOk_of (fun S E => by kernel_rfl) rfl rfl rfl
theorem tk106 : TyOk Tryz.prog 106 td106 := tyOk_of (fun S E => by kernel_rfl) rfl rfl rfl
theorem tk107 : TyOk Tryz.prog 107 td107 := tyOk_of (fun S E => by kernel_rfl) rfl rfl rfl
theorem tk108 : TyOk Tryz.prog 108 td108 := tyOk_of (fun S E => by kernel_rfl) rfl rfl rfl
theorem tk109 : TyOk Tryz.prog 109 td109 := tyOk_of (fun S E => by kernel_rfl) rfl rfl rfl
theorem tk110 : TyOk Tryz.prog 110 td110 := tyOk_of (fun S E => by kernel_rfl) rfl rfl rfl
theorem tk111 : TyOk Tryz.prog 111 td111 := tyOk_of (fun S E => by kernel_rfl) rfl rfl rfl
theorem tk112 : TyOk Tryz.prog 112 td112 := tyOk_of (fun S E => by kernel_rfl) rfl rfl rfl
theorem tk113 : TyOk Tryz.prog 113 td113 := tyOk_of (fun S E => by kernel_rfl) rfl rfl rfl
theorem tk114 : TyOk Tryz.prog 114 td114 := tyOk_of (fun S E => by kernel_rfl) rfl rfl rfl
theorem tk115 : TyOk Tryz.prog 115 td115 := tyOk_of (fun S E => by kernel_rfl) rfl rfl rfl
theorem tk116 : TyOk Tryz.prog 116 td116 := tyOk_of (fun S E => by kernel_rfl) rfl rfl rfl
theorem tk117 : TyOk Tryz.prog 117 td117 := tyOk_of (fun S E => by kernel_rfl) rfl rfl rfl
theorem tk118 : TyOk Tryz.prog 118 td118 := tyOk_of (fun S E => by kernel_rfl) rfl rfl rfl
theorem tk119 : TyOk Tryz.prog 119 td119 := tyOk_of (fun S E => by kernel_rfl) rfl rfl rfl
theorem tk120 : TyOk Tryz.prog 120 td120 := tyOk_of (fun S E => by kernel_rfl) rfl rfl rfl
theorem tk121 : TyOk Tryz.prog 121 td121 := tyOk_of (fun S E => by kernel_rfl) rfl rfl rfl
theorem tk122 : TyOk Tryz.prog 122 td122 := tyOk_of (fun S E => by kernel_rfl) rfl rfl rfl
theorem tk123 : TyOk Tryz.prog 123 td123 := tyOk_of (fun S E => by kernel_rfl) rfl rfl rfl
theorem tk124 : TyOk Tryz.prog 124 td124 := tyOk_of (fun S E => by kernel_rfl) rfl rfl rfl
theorem tk125 : TyOk Tryz.prog 125 td125 := tyOk_of (fun S E => by kernel_rfl) rfl rfl rfl
theorem tk126 : TyOk Tryz.prog 126 td126 := tyOk_of (fun S E => by kernel_rfl) rfl rfl rfl
theorem tk127 : TyOk Tryz.prog 127 td127 := tyOk_of (fun S E => by kernel_rfl) rfl rfl rfl
theorem tk128 : TyOk Tryz.prog 128 td128 := tyOk_of (fun S E => by kernel_rfl) rfl rfl rfl
theorem tk129 : TyOk Tryz.prog 129 td129 := tyOk_of (fun S E => by kernel_rfl) rfl rfl rfl
theorem tk130 : TyOk Tryz.prog 130 td130 := tyOk_of (fun S E => by kernel_rfl) rfl rfl rfl
theorem tk131 : TyOk Tryz.prog 131 td131 := tyOk_of (fun S E => by kernel_rfl) rfl rfl rfl
theorem tk132 : TyOk Tryz.prog 132 td132 := tyOk_of (fun S E => by kernel_rfl) rfl rfl rfl
theorem tk133 : TyOk Tryz.prog 133 td133 := tyOk_of (fun S E => by kernel_rfl) rfl rfl rfl
theorem tk134 : TyOk Tryz.prog 134 td134 := tyOk_of (fun S E => by kernel_rfl) rfl rfl rfl
theorem tk135 : TyOk Tryz.prog 135 td135 := tyOk_of (fun S E => by kernel_rfl) rfl rfl rfl
theorem tk136 : TyOk Tryz.prog 136 td136 := tyOk_of (fun S E => by kernel_rfl) rfl rfl rfl
theorem tk137 : TyOk Tryz.prog 137 td137 := tyOk_of (fun S E => by kernel_rfl) rfl rfl rfl
theorem tk138 : TyOk Tryz.prog 138 td138 := tyOk_of (fun S E => by kernel_rfl) rfl rfl rfl
theorem tk139 : TyOk Tryz.prog 139 td139 := tyOk_of (fun S E => by kernel_rfl) rfl rfl rfl
theorem tk140 : TyOk Tryz.prog 140 td140 := tyOk_of (fun S E => by kernel_rfl) rfl rfl rfl
theorem tk141 : TyOk Tryz.prog 141 td141 := tyOk_of (fun S E => by kernel_rfl) rfl rfl rfl
theorem tk142 : TyOk Tryz.prog 142 td142 := tyOk_of (fun S E => by kernel_rfl) rfl rfl rfl
theorem tk143 : TyOk Tryz.prog 143 td143 := tyOk_of (fun S E => by kernel_rfl) rfl rfl rfl
theorem tk144 : TyOk Tryz.prog 144 td144 := tyOk_of (fun S E => by kernel_rfl) rfl rfl rfl
theorem tk145 : TyOk Tryz.prog 145 td145 := tyOk_of (fun S E => by kernel_rfl) rfl rfl rfl
theorem tk146 : TyOk Tryz.prog 146 td146 := tyOk_of (fun S E => by kernel_rfl) rfl rfl rfl
theorem tk147 : TyOk Tryz.prog 147 td147 := tyOk_of (fun S E => by kernel_rfl) rfl rfl rfl
theorem tk148 : TyOk Tryz.prog 148 td148 := tyOk_of (fun S E => by kernel_rfl) rfl rfl rfl
theorem tk149 : TyOk Tryz.prog 149 td149 := tyOk_of (fun S E => by kernel_rfl) rfl rfl rfl
theorem tk150 : TyOk Tryz.prog 150 td150 := tyOk_of (fun S E => by kernel_rfl) rfl rfl rfl
theorem tk151 : TyOk Tryz.prog 151 td151 := tyOk_of (fun S E => by kernel_rfl) rfl rfl rfl
theorem tk152 : TyOk Tryz.prog 152 td152 := tyOk_of (fun S E => by kernel_rfl) rfl rfl rfl
theorem tk153 : TyOk Tryz.prog 153 td153 := tyOk_of (fun S E => by kernel_rfl) rfl rfl rfl
theorem tk154 : TyOk Tryz.prog 154 td154 := tyOk_of (fun S E => by kernel_rfl) rfl rfl rfl
theorem tk155 : TyOk Tryz.prog 155 td155 := tyOk_of (fun S E => by kernel_rfl) rfl rfl rfl
theorem tk156 : TyOk Tryz.prog 156 td156 := tyOk_of (fun S E => by kernel_rfl) rfl rfl rfl
theorem tk157 : TyOk Tryz.prog 157 td157 := tyOk_of (fun S E => by kernel_rfl) rfl rfl rfl
theorem tk158 : TyOk Tryz.prog 158 td158 := tyOk_of (fun S E => by kernel_rfl) rfl rfl rfl
theorem tk159 : TyOk Tryz.prog 159 td159 := tyOk_of (fun S E => by kernel_rfl) rfl rfl rfl
theorem tk160 : TyOk Tryz.prog 160 td160 := tyOk_of (fun S E => by kernel_rfl) rfl rfl rfl
theorem tk161 : TyOk Tryz.prog 161 td161 := tyOk_of (fun S E => by kernel_rfl) rfl rfl rfl
theorem tk162 : TyOk Tryz.prog 162 td162 := tyOk_of (fun S E => by kernel_rfl) rfl rfl rfl
theorem tk166 : TyOk Tryz.prog 166 td166 := tyOk_of (fun S E => by kernel_rfl) rfl rfl rfl
theorem tk167 : TyOk Tryz.prog 167 td167 := tyOk_of (fun S E => by kernel_rfl) rfl rfl rfl
theorem tk168 : TyOk Tryz.prog 168 td168 := tyOk_of (fun S E => by kernel_rfl) rfl rfl rfl
theorem tk169 : TyOk Tryz.prog 169 td169 := tyOk_of (fun S E => by kernel_rfl) rfl rfl rfl
theorem tk170 : TyOk Tryz.prog 170 td170 := tyOk_of (fun S E => by kernel_rfl) rfl rfl rfl
theorem tk171 : TyOk Tryz.prog 171 td171 := tyOk_of (fun S E => by kernel_rfl) rfl rfl rfl
theorem tk172 : TyOk Tryz.prog 172 td172 := tyOk_of (fun S E => by kernel_rfl) rfl rfl rfl
theorem tk173 : TyOk Tryz.prog 173 td173 := tyOk_of (fun S E => by kernel_rfl) rfl rfl rfl
theorem tk174 : TyOk Tryz.prog 174 td174 := tyOk_of (fun S E => by kernel_rfl) rfl rfl rfl
def TyIn (lo hi : Nat) (x : Option TD) (t : Nat) : Prop := lo ≤ t → t < hi → ∀ d, x = some d → TyOk Tryz.prog t d
theorem TyIn.n {lo k hi t : Nat} {x y : Option TD} (hx : TyIn lo k x t) (hy : TyIn k hi y t) : TyIn lo hi (bif Nat.blt t k then x else y) t := by
 intro h1 h2 d hd
 cases hb : Nat.blt t k with
 | true => rw [hb] at hd; exact hx h1 (by simpa using hb) d hd
 | false => rw [hb] at hd; exact hy (by have : ¬ t < k := (fun hh => by rw [show Nat.blt t k = true from (by simpa using hh)] at hb; cases hb); omega) h2 d hd
theorem TyIn.l {k t : Nat} {d : TD} (h : TyOk Tryz.prog k d) : TyIn k (k + 1) (some d) t := by
 intro h1 h2 e he
 obtain rfl : t = k := by omega
 injection he with he; subst he; exact h
theorem TyIn.o {lo hi t : Nat} : TyIn lo hi none t := fun _ _ _ h => by cases h
theorem tys_ok (t : Nat) (d : TD) (h : tys t = some d) : TyOk Tryz.prog t d := by
 unfold tys at h
 cases hb0 : Nat.blt t 176 with
 | false => rw [hb0] at h; cases h
 | true =>
   rw [hb0] at h; dsimp only [cond] at h
   exact (show TyIn 0 176 _ t from (.n (.n (.n (.n (.n (.n (.n .o (.l tk1)) (.n (.l tk2) (.n (.l tk3) (.l tk4)))) (.n (.n (.l tk5) (.n (.l tk6) (.l tk7))) (.n (.l tk8) (.n (.l tk9) (.l tk10))))) (.n (.n (.n (.l tk11) (.l tk12)) (.n (.l tk13) (.n (.l tk14) (.l tk15)))) (.n (.n (.l tk16) (.n (.l tk17) (.l tk18))) (.n (.l tk19) (.n .o (.l tk21)))))) (.n (.n (.n (.n (.l tk22) (.l tk23)) (.n (.l tk24) (.n (.l tk25) (.l tk26)))) (.n (.n (.l tk27) (.n (.l tk28) (.l tk29))) (.n (.l tk30) (.n (.l tk31) (.l tk32))))) (.n (.n (.n (.l tk33) (.l tk34)) (.n (.l tk35) (.n .o (.l tk37)))) (.n (.n (.l tk38) (.n (.l tk39) (.l tk40))) (.n (.l tk41) (.n (.l tk42) (.l tk43))))))) (.n (.n (.n (.n (.n (.l tk44) (.l tk45)) (.n (.l tk46) (.n (.l tk47) (.l tk48)))) (.n (.n (.l tk49) (.n .o (.l tk51))) (.n (.l tk52) (.n (.l tk53) (.l tk54))))) (.n (.n (.n (.l tk55) (.l tk56)) (.n (.l tk57) (.n (.l tk58) (.l tk59)))) (.n (.n (.l tk60) (.n (.l tk61) (.l tk62))) (.n (.l tk63) (.n (.l tk64) (.l tk65)))))) (.n (.n (.n (.n (.l tk66) (.l tk67)) (.n (.l tk68) (.n (.l tk69) (.l tk70)))) (.n (.n (.l tk71) (.n (.l tk72) (.l tk73))) (.n (.l tk74) (.n (.l tk75) (.l tk76))))) (.n (.n (.n (.l tk77) (.l tk78)) (.n (.l tk79) (.n (.l tk80) (.l tk81)))) (.n (.n (.l tk82) (.n (.l tk83) (.l tk84))) (.n (.l tk85) (.n (.l tk86) (.l tk87)))))))) (.n (.n (.n (.n (.n (.n (.l tk88) (.l tk89)) (.n (.l tk90) (.n (.l tk91) (.l tk92)))) (.n (.n (.l tk93) (.n .o (.l tk95))) (.n (.l tk96) (.n (.l tk97) (.l tk98))))) (.n (.n (.n (.l tk99) (.l tk100)) (.n (.l tk101) (.n (.l tk102) (.l tk103)))) (.n (.n (.l tk104) (.n (.l tk105) (.l tk106))) (.n (.l tk107) (.n (.l tk108) (.l tk109)))))) (.n (.n (.n (.n (.l tk110) (.l tk111)) (.n (.l tk112) (.n (.l tk113) (.l tk114)))) (.n (.n (.l tk115) (.n (.l tk116) (.l tk117))) (.n (.l tk118) (.n (.l tk119) (.l tk120))))) (.n (.n (.n (.l tk121) (.l tk122)) (.n (.l tk123) (.n (.l tk124) (.l tk125)))) (.n (.n (.l tk126) (.n (.l tk127) (.l tk128))) (.n (.l tk129) (.n (.l tk130) (.l tk131))))))) (.n (.n (.n (.n (.n (.l tk132) (.l tk133)) (.n (.l tk134) (.n (.l tk135) (.l tk136)))) (.n (.n (.l tk137) (.n (.l tk138) (.l tk139))) (.n (.l tk140) (.n (.l tk141) (.l tk142))))) (.n (.n (.n (.l tk143) (.l tk144)) (.n (.l tk145) (.n (.l tk146) (.l tk147)))) (.n (.n (.l tk148) (.n (.l tk149) (.l tk150))) (.n (.l tk151) (.n (.l tk152) (.l tk153)))))) (.n (.n (.n (.n (.l tk154) (.l tk155)) (.n (.l tk156) (.n (.l tk157) (.l tk158)))) (.n (.n (.l tk159) (.n (.l tk160) (.l tk161))) (.n (.l tk162) (.n .o .o)))) (.n (.n (.n .o (.l tk166)) (.n (.l tk167) (.n (.l tk168) (.l tk169)))) (.n (.n (.l tk170) (.n (.l tk171) (.l tk172))) (.n (.l tk173) (.n (.l tk174) .o))))))))) (Nat.zero_le t) (by simpa using hb0) d h
def structTys : List Nat := [7, 8, 23, 24, 29, 30, 45, 46, 47, 48, 53, 54, 55, 56, 57, 58, 59, 60, 70, 71, 72, 73, 76, 144]
theorem structTys_ok : (structTys.all fun t => !(Tryz.prog.stoodInHeld t) && !(Tryz.prog.eqGuardType Tryz.prog.depth t)) = true := by kernel_rfl
theorem structNames_ok : (structTys.all fun t => match Tryz.prog.underlying t with | some (.struct fs) => fs.toList.all fun f => f.name != "_" | _ => false) = true := by kernel_rfl
theorem tys_flds0 : ((List.range 176).all fun t => match tys t with | some ⟨_, .strct fs, _⟩ => fs.all fun f => (tys f.2).isSome | _ => true) = true := by kernel_rfl
theorem tys_flds (t z1 : Nat) (fs : List (Nat × TypeId)) (z2 : SV) (h : tys t = some ⟨z1, .strct fs, z2⟩) : (fs.all fun f => (tys f.2).isSome) = true := by
 have hlt : t < 176 := by
   unfold tys at h
   cases hb : Nat.blt t 176 with
   | false => rw [hb] at h; cases h
   | true => simpa using hb
 have := List.all_eq_true.1 tys_flds0 t (List.mem_range.2 hlt)
 rw [h] at this
 exact this
theorem tys_small0 : ((List.range 176).all fun t => match Tryz.prog.info? t with | some i => Nat.ble i.bytes 1048576 | none => true) = true := by kernel_rfl
theorem tys_small (t : Nat) (d : TD) (i : TypeInfo) (h : tys t = some d) (hi : Tryz.prog.info? t = some i) : i.bytes ≤ 1048576 := by
 have hlt : t < 176 := by
   unfold tys at h
   cases hb : Nat.blt t 176 with
   | false => rw [hb] at h; cases h
   | true => simpa using hb
 have := List.all_eq_true.1 tys_small0 t (List.mem_range.2 hlt)
 rw [hi] at this
 simpa using this
theorem mixed : Tryz.prog.follows .mixedOrders = true := by kernel_rfl
end Go.Proofs.YtjemfkoamfnofaaGreat
