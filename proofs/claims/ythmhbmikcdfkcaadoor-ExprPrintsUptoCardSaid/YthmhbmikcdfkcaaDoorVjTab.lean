/-
  The table of types, written out; that it is the program's.
-/
import Derived.Test.YthmhbmikcdfkcaaDoorProg
import Derived.Test.YthmhbmikcdfkcaaDoorVjB
import Derived.KernelRfl
namespace Go.Proofs.YthmhbmikcdfkcaaDoor
open Go.RowKit
def tb1 : TE := ⟨.fn, 1, 8, [.sc .nilFunc], false⟩
def tb2 : TE := ⟨.int .i64, 1, 8, [.sc (.int .i64 0)], false⟩
def tb3 : TE := ⟨.int .i64, 1, 8, [.sc (.int .i64 0)], false⟩
def tb4 : TE := ⟨.bool, 1, 1, [.sc (.bool false)], false⟩
def tb5 : TE := ⟨.int .u8, 1, 1, [.sc (.int .u8 0)], false⟩
def tb6 : TE := ⟨.int .u8, 1, 1, [.sc (.int .u8 0)], false⟩
def tb7 : TE := ⟨.agg [(0, 2), (1, 3), (2, 4), (3, 6)], 4, 24, [.sc (.int .i64 0), .sc (.int .i64 0), .sc (.bool false), .sc (.int .u8 0)], true⟩
def tb8 : TE := ⟨.agg [(0, 2), (1, 3), (2, 4), (3, 6)], 4, 24, [.sc (.int .i64 0), .sc (.int .i64 0), .sc (.bool false), .sc (.int .u8 0)], true⟩
def tb9 : TE := ⟨.str, 1, 16, [.sc (.string ByteArray.empty)], false⟩
def tb10 : TE := ⟨.str, 1, 16, [.sc (.string ByteArray.empty)], false⟩
def tb11 : TE := ⟨.str, 1, 16, [.sc (.string ByteArray.empty)], false⟩
def tb12 : TE := ⟨.int .u64, 1, 8, [.sc (.int .u64 0)], false⟩
def tb13 : TE := ⟨.agg [(0, 9), (1, 12)], 2, 24, [.sc (.string ByteArray.empty), .sc (.int .u64 0)], false⟩
def tb14 : TE := ⟨.agg [(0, 9), (1, 12)], 2, 24, [.sc (.string ByteArray.empty), .sc (.int .u64 0)], false⟩
def tb15 : TE := ⟨.ptr, 1, 8, [.sc (.pointer none)], false⟩
def tb16 : TE := ⟨.ptr, 1, 8, [.sc (.pointer none)], false⟩
def tb17 : TE := ⟨.ptr, 1, 8, [.sc (.pointer none)], false⟩
def tb18 : TE := ⟨.agg [(0, 17)], 1, 8, [.sc (.pointer none)], false⟩
def tb19 : TE := ⟨.agg [(0, 17)], 1, 8, [.sc (.pointer none)], false⟩
def tb20 : TE := ⟨.ifc, 1, 16, [.sc .nilIface], false⟩
def tb21 : TE := ⟨.int .i32, 1, 4, [.sc (.int .i32 0)], false⟩
def tb22 : TE := ⟨.sl 2, 1, 24, [.nl], false⟩
def tb23 : TE := ⟨.fn, 1, 8, [.sc .nilFunc], false⟩
def tb24 : TE := ⟨.fn, 1, 8, [.sc .nilFunc], false⟩
def tb25 : TE := ⟨.fn, 1, 8, [.sc .nilFunc], false⟩
def tb26 : TE := ⟨.sl 56, 1, 24, [.nl], false⟩
def tb27 : TE := ⟨.sl 119, 1, 24, [.nl], false⟩
def tb28 : TE := ⟨.sl 3, 1, 24, [.nl], false⟩
def tb29 : TE := ⟨.sl 63, 1, 24, [.nl], false⟩
def tb30 : TE := ⟨.sl 47, 1, 24, [.nl], false⟩
def tb31 : TE := ⟨.agg [(0, 26), (1, 22), (2, 27), (3, 28), (4, 29), (5, 3), (6, 30)], 7, 152, [.nl, .nl, .nl, .nl, .nl, .sc (.int .i64 0), .nl], false⟩
def tb32 : TE := ⟨.agg [(0, 26), (1, 22), (2, 27), (3, 28), (4, 29), (5, 3), (6, 30)], 7, 152, [.nl, .nl, .nl, .nl, .nl, .sc (.int .i64 0), .nl], false⟩
def tb33 : TE := ⟨.sl 104, 1, 24, [.nl], false⟩
def tb34 : TE := ⟨.sl 53, 1, 24, [.nl], false⟩
def tb35 : TE := ⟨.agg [(0, 22), (1, 33), (2, 34), (3, 3), (4, 3), (5, 3)], 6, 96, [.nl, .nl, .nl, .sc (.int .i64 0), .sc (.int .i64 0), .sc (.int .i64 0)], false⟩
def tb36 : TE := ⟨.agg [(0, 22), (1, 33), (2, 34), (3, 3), (4, 3), (5, 3)], 6, 96, [.nl, .nl, .nl, .sc (.int .i64 0), .sc (.int .i64 0), .sc (.int .i64 0)], false⟩
def tb37 : TE := ⟨.sl 4, 1, 24, [.nl], false⟩
def tb38 : TE := ⟨.agg [(0, 32), (7, 36), (13, 3), (14, 4), (15, 37)], 16, 288, [.nl, .nl, .nl, .nl, .nl, .sc (.int .i64 0), .nl, .nl, .nl, .nl, .sc (.int .i64 0), .sc (.int .i64 0), .sc (.int .i64 0), .sc (.int .i64 0), .sc (.bool false), .nl], false⟩
def tb39 : TE := ⟨.agg [(0, 32), (7, 36), (13, 3), (14, 4), (15, 37)], 16, 288, [.nl, .nl, .nl, .nl, .nl, .sc (.int .i64 0), .nl, .nl, .nl, .nl, .sc (.int .i64 0), .sc (.int .i64 0), .sc (.int .i64 0), .sc (.int .i64 0), .sc (.bool false), .nl], false⟩
def tb40 : TE := ⟨.int .i64, 1, 8, [.sc (.int .i64 0)], false⟩
def tb42 : TE := ⟨.fn, 1, 8, [.sc .nilFunc], false⟩
def tb43 : TE := ⟨.sl 66, 1, 24, [.nl], false⟩
def tb44 : TE := ⟨.agg [(0, 3), (1, 3), (2, 3), (3, 3), (4, 43)], 5, 56, [.sc (.int .i64 0), .sc (.int .i64 0), .sc (.int .i64 0), .sc (.int .i64 0), .nl], false⟩
def tb45 : TE := ⟨.agg [(0, 3), (1, 3), (2, 3), (3, 3), (4, 43)], 5, 56, [.sc (.int .i64 0), .sc (.int .i64 0), .sc (.int .i64 0), .sc (.int .i64 0), .nl], false⟩
def tb46 : TE := ⟨.agg [(0, 3), (1, 2), (2, 3), (3, 3), (4, 3), (5, 45), (10, 28), (11, 28)], 12, 144, [.sc (.int .i64 0), .sc (.int .i64 0), .sc (.int .i64 0), .sc (.int .i64 0), .sc (.int .i64 0), .sc (.int .i64 0), .sc (.int .i64 0), .sc (.int .i64 0), .sc (.int .i64 0), .nl, .nl, .nl], false⟩
def tb47 : TE := ⟨.agg [(0, 3), (1, 2), (2, 3), (3, 3), (4, 3), (5, 45), (10, 28), (11, 28)], 12, 144, [.sc (.int .i64 0), .sc (.int .i64 0), .sc (.int .i64 0), .sc (.int .i64 0), .sc (.int .i64 0), .sc (.int .i64 0), .sc (.int .i64 0), .sc (.int .i64 0), .sc (.int .i64 0), .nl, .nl, .nl], false⟩
def tb49 : TE := ⟨.fn, 1, 8, [.sc .nilFunc], false⟩
def tb51 : TE := ⟨.fn, 1, 8, [.sc .nilFunc], false⟩
def tb52 : TE := ⟨.agg [(0, 3), (1, 3), (2, 3), (3, 22)], 4, 48, [.sc (.int .i64 0), .sc (.int .i64 0), .sc (.int .i64 0), .nl], false⟩
def tb53 : TE := ⟨.agg [(0, 3), (1, 3), (2, 3), (3, 22)], 4, 48, [.sc (.int .i64 0), .sc (.int .i64 0), .sc (.int .i64 0), .nl], false⟩
def tb54 : TE := ⟨.fn, 1, 8, [.sc .nilFunc], false⟩
def tb55 : TE := ⟨.agg [(0, 3), (1, 4)], 2, 16, [.sc (.int .i64 0), .sc (.bool false)], true⟩
def tb56 : TE := ⟨.agg [(0, 3), (1, 4)], 2, 16, [.sc (.int .i64 0), .sc (.bool false)], true⟩
def tb57 : TE := ⟨.sl 158, 1, 24, [.nl], false⟩
def tb58 : TE := ⟨.sl 57, 1, 24, [.nl], false⟩
def tb59 : TE := ⟨.agg [(0, 57), (1, 58), (2, 4), (3, 4), (4, 4), (5, 4), (6, 4)], 7, 56, [.nl, .nl, .sc (.bool false), .sc (.bool false), .sc (.bool false), .sc (.bool false), .sc (.bool false)], false⟩
def tb60 : TE := ⟨.agg [(0, 57), (1, 58), (2, 4), (3, 4), (4, 4), (5, 4), (6, 4)], 7, 56, [.nl, .nl, .sc (.bool false), .sc (.bool false), .sc (.bool false), .sc (.bool false), .sc (.bool false)], false⟩
def tb61 : TE := ⟨.sl 60, 1, 24, [.nl], false⟩
def tb62 : TE := ⟨.agg [(0, 9), (1, 3), (2, 26), (3, 22), (4, 61), (5, 3), (6, 3), (7, 3), (8, 3), (9, 3)], 10, 136, [.sc (.string ByteArray.empty), .sc (.int .i64 0), .nl, .nl, .nl, .sc (.int .i64 0), .sc (.int .i64 0), .sc (.int .i64 0), .sc (.int .i64 0), .sc (.int .i64 0)], false⟩
def tb63 : TE := ⟨.agg [(0, 9), (1, 3), (2, 26), (3, 22), (4, 61), (5, 3), (6, 3), (7, 3), (8, 3), (9, 3)], 10, 136, [.sc (.string ByteArray.empty), .sc (.int .i64 0), .nl, .nl, .nl, .sc (.int .i64 0), .sc (.int .i64 0), .sc (.int .i64 0), .sc (.int .i64 0), .sc (.int .i64 0)], false⟩
def tb64 : TE := ⟨.fn, 1, 8, [.sc .nilFunc], false⟩
def tb65 : TE := ⟨.agg [(0, 3), (1, 3), (2, 3)], 3, 24, [.sc (.int .i64 0), .sc (.int .i64 0), .sc (.int .i64 0)], true⟩
def tb66 : TE := ⟨.agg [(0, 3), (1, 3), (2, 3)], 3, 24, [.sc (.int .i64 0), .sc (.int .i64 0), .sc (.int .i64 0)], true⟩
def tb68 : TE := ⟨.fn, 1, 8, [.sc .nilFunc], false⟩
def tb69 : TE := ⟨.ptr, 1, 8, [.sc (.pointer none)], false⟩
def tb70 : TE := ⟨.sl 5, 1, 24, [.nl], false⟩
def tb71 : TE := ⟨.agg [(0, 69), (1, 70)], 2, 32, [.sc (.pointer none), .nl], false⟩
def tb72 : TE := ⟨.agg [(0, 69), (1, 70)], 2, 32, [.sc (.pointer none), .nl], false⟩
def tb73 : TE := ⟨.fn, 1, 8, [.sc .nilFunc], false⟩
def tb74 : TE := ⟨.ifc, 1, 16, [.sc .nilIface], false⟩
def tb75 : TE := ⟨.ifc, 1, 16, [.sc .nilIface], false⟩
def tb77 : TE := ⟨.fn, 1, 8, [.sc .nilFunc], false⟩
def tb78 : TE := ⟨.fn, 1, 8, [.sc .nilFunc], false⟩
def tb79 : TE := ⟨.fn, 1, 8, [.sc .nilFunc], false⟩
def tb80 : TE := ⟨.int .u64, 1, 8, [.sc (.int .u64 0)], false⟩
def tb81 : TE := ⟨.int .u32, 1, 4, [.sc (.int .u32 0)], false⟩
def tb82 : TE := ⟨.fn, 1, 8, [.sc .nilFunc], false⟩
def tb83 : TE := ⟨.fn, 1, 8, [.sc .nilFunc], false⟩
def tb84 : TE := ⟨.fn, 1, 8, [.sc .nilFunc], false⟩
def tb85 : TE := ⟨.fn, 1, 8, [.sc .nilFunc], false⟩
def tb86 : TE := ⟨.fn, 1, 8, [.sc .nilFunc], false⟩
def tb87 : TE := ⟨.fn, 1, 8, [.sc .nilFunc], false⟩
def tb88 : TE := ⟨.fn, 1, 8, [.sc .nilFunc], false⟩
def tb89 : TE := ⟨.ptr, 1, 8, [.sc (.pointer none)], false⟩
def tb90 : TE := ⟨.fn, 1, 8, [.sc .nilFunc], false⟩
def tb91 : TE := ⟨.fn, 1, 8, [.sc .nilFunc], false⟩
def tb92 : TE := ⟨.fn, 1, 8, [.sc .nilFunc], false⟩
def tb93 : TE := ⟨.fn, 1, 8, [.sc .nilFunc], false⟩
def tb94 : TE := ⟨.ptr, 1, 8, [.sc (.pointer none)], false⟩
def tb95 : TE := ⟨.fn, 1, 8, [.sc .nilFunc], false⟩
def tb96 : TE := ⟨.fn, 1, 8, [.sc .nilFunc], false⟩
def tb97 : TE := ⟨.fn, 1, 8, [.sc .nilFunc], false⟩
def tb98 : TE := ⟨.fn, 1, 8, [.sc .nilFunc], false⟩
def tb99 : TE := ⟨.fn, 1, 8, [.sc .nilFunc], false⟩
def tb100 : TE := ⟨.fn, 1, 8, [.sc .nilFunc], false⟩
def tb101 : TE := ⟨.fn, 1, 8, [.sc .nilFunc], false⟩
def tb102 : TE := ⟨.sl 105, 1, 24, [.nl], false⟩
def tb103 : TE := ⟨.agg [(0, 3), (1, 102)], 2, 32, [.sc (.int .i64 0), .nl], false⟩
def tb104 : TE := ⟨.agg [(0, 3), (1, 102)], 2, 32, [.sc (.int .i64 0), .nl], false⟩
def tb105 : TE := ⟨.sl 2, 1, 24, [.nl], false⟩
def tb106 : TE := ⟨.fn, 1, 8, [.sc .nilFunc], false⟩
def tb108 : TE := ⟨.fn, 1, 8, [.sc .nilFunc], false⟩
def tb109 : TE := ⟨.fn, 1, 8, [.sc .nilFunc], false⟩
def tb110 : TE := ⟨.arr 24 5, 24, 24, [.sc (.int .u8 0), .sc (.int .u8 0), .sc (.int .u8 0), .sc (.int .u8 0), .sc (.int .u8 0), .sc (.int .u8 0), .sc (.int .u8 0), .sc (.int .u8 0), .sc (.int .u8 0), .sc (.int .u8 0), .sc (.int .u8 0), .sc (.int .u8 0), .sc (.int .u8 0), .sc (.int .u8 0), .sc (.int .u8 0), .sc (.int .u8 0), .sc (.int .u8 0), .sc (.int .u8 0), .sc (.int .u8 0), .sc (.int .u8 0), .sc (.int .u8 0), .sc (.int .u8 0), .sc (.int .u8 0), .sc (.int .u8 0)], false⟩
def tb111 : TE := ⟨.fn, 1, 8, [.sc .nilFunc], false⟩
def tb112 : TE := ⟨.fn, 1, 8, [.sc .nilFunc], false⟩
def tb114 : TE := ⟨.fn, 1, 8, [.sc .nilFunc], false⟩
def tb115 : TE := ⟨.fn, 1, 8, [.sc .nilFunc], false⟩
def tb116 : TE := ⟨.fn, 1, 8, [.sc .nilFunc], false⟩
def tb117 : TE := ⟨.fn, 1, 8, [.sc .nilFunc], false⟩
def tb118 : TE := ⟨.agg [(0, 3), (1, 26)], 2, 32, [.sc (.int .i64 0), .nl], false⟩
def tb119 : TE := ⟨.agg [(0, 3), (1, 26)], 2, 32, [.sc (.int .i64 0), .nl], false⟩
def tb120 : TE := ⟨.fn, 1, 8, [.sc .nilFunc], false⟩
def tb121 : TE := ⟨.fn, 1, 8, [.sc .nilFunc], false⟩
def tb122 : TE := ⟨.fn, 1, 8, [.sc .nilFunc], false⟩
def tb123 : TE := ⟨.fn, 1, 8, [.sc .nilFunc], false⟩
def tb124 : TE := ⟨.fn, 1, 8, [.sc .nilFunc], false⟩
def tb125 : TE := ⟨.fn, 1, 8, [.sc .nilFunc], false⟩
def tb126 : TE := ⟨.fn, 1, 8, [.sc .nilFunc], false⟩
def tb127 : TE := ⟨.arr 20 80, 20, 160, [.sc (.int .u64 0), .sc (.int .u64 0), .sc (.int .u64 0), .sc (.int .u64 0), .sc (.int .u64 0), .sc (.int .u64 0), .sc (.int .u64 0), .sc (.int .u64 0), .sc (.int .u64 0), .sc (.int .u64 0), .sc (.int .u64 0), .sc (.int .u64 0), .sc (.int .u64 0), .sc (.int .u64 0), .sc (.int .u64 0), .sc (.int .u64 0), .sc (.int .u64 0), .sc (.int .u64 0), .sc (.int .u64 0), .sc (.int .u64 0)], false⟩
def tb128 : TE := ⟨.arr 65 5, 65, 65, [.sc (.int .u8 0), .sc (.int .u8 0), .sc (.int .u8 0), .sc (.int .u8 0), .sc (.int .u8 0), .sc (.int .u8 0), .sc (.int .u8 0), .sc (.int .u8 0), .sc (.int .u8 0), .sc (.int .u8 0), .sc (.int .u8 0), .sc (.int .u8 0), .sc (.int .u8 0), .sc (.int .u8 0), .sc (.int .u8 0), .sc (.int .u8 0), .sc (.int .u8 0), .sc (.int .u8 0), .sc (.int .u8 0), .sc (.int .u8 0), .sc (.int .u8 0), .sc (.int .u8 0), .sc (.int .u8 0), .sc (.int .u8 0), .sc (.int .u8 0), .sc (.int .u8 0), .sc (.int .u8 0), .sc (.int .u8 0), .sc (.int .u8 0), .sc (.int .u8 0), .sc (.int .u8 0), .sc (.int .u8 0), .sc (.int .u8 0), .sc (.int .u8 0), .sc (.int .u8 0), .sc (.int .u8 0), .sc (.int .u8 0), .sc (.int .u8 0), .sc (.int .u8 0), .sc (.int .u8 0), .sc (.int .u8 0), .sc (.int .u8 0), .sc (.int .u8 0), .sc (.int .u8 0), .sc (.int .u8 0), .sc (.int .u8 0), .sc (.int .u8 0), .sc (.int .u8 0), .sc (.int .u8 0), .sc (.int .u8 0), .sc (.int .u8 0), .sc (.int .u8 0), .sc (.int .u8 0), .sc (.int .u8 0), .sc (.int .u8 0), .sc (.int .u8 0), .sc (.int .u8 0), .sc (.int .u8 0), .sc (.int .u8 0), .sc (.int .u8 0), .sc (.int .u8 0), .sc (.int .u8 0), .sc (.int .u8 0), .sc (.int .u8 0), .sc (.int .u8 0)], false⟩
def tb129 : TE := ⟨.fn, 1, 8, [.sc .nilFunc], false⟩
def tb130 : TE := ⟨.int .u64, 1, 8, [.sc (.int .u64 0)], false⟩
def tb131 : TE := ⟨.fn, 1, 8, [.sc .nilFunc], false⟩
def tb133 : TE := ⟨.fn, 1, 8, [.sc .nilFunc], false⟩
def tb134 : TE := ⟨.fn, 1, 8, [.sc .nilFunc], false⟩
def tb135 : TE := ⟨.fn, 1, 8, [.sc .nilFunc], false⟩
def tb136 : TE := ⟨.fn, 1, 8, [.sc .nilFunc], false⟩
def tb137 : TE := ⟨.fn, 1, 8, [.sc .nilFunc], false⟩
def tb138 : TE := ⟨.fn, 1, 8, [.sc .nilFunc], false⟩
def tb139 : TE := ⟨.fn, 1, 8, [.sc .nilFunc], false⟩
def tb140 : TE := ⟨.fn, 1, 8, [.sc .nilFunc], false⟩
def tb141 : TE := ⟨.fn, 1, 8, [.sc .nilFunc], false⟩
def tb142 : TE := ⟨.ptr, 1, 8, [.sc (.pointer none)], false⟩
def tb143 : TE := ⟨.agg [(0, 32)], 7, 152, [.nl, .nl, .nl, .nl, .nl, .sc (.int .i64 0), .nl], false⟩
def tb144 : TE := ⟨.agg [(0, 32)], 7, 152, [.nl, .nl, .nl, .nl, .nl, .sc (.int .i64 0), .nl], false⟩
def tb146 : TE := ⟨.fn, 1, 8, [.sc .nilFunc], false⟩
def tb147 : TE := ⟨.fn, 1, 8, [.sc .nilFunc], false⟩
def tb148 : TE := ⟨.fn, 1, 8, [.sc .nilFunc], false⟩
def tb149 : TE := ⟨.arr 32 5, 32, 32, [.sc (.int .u8 0), .sc (.int .u8 0), .sc (.int .u8 0), .sc (.int .u8 0), .sc (.int .u8 0), .sc (.int .u8 0), .sc (.int .u8 0), .sc (.int .u8 0), .sc (.int .u8 0), .sc (.int .u8 0), .sc (.int .u8 0), .sc (.int .u8 0), .sc (.int .u8 0), .sc (.int .u8 0), .sc (.int .u8 0), .sc (.int .u8 0), .sc (.int .u8 0), .sc (.int .u8 0), .sc (.int .u8 0), .sc (.int .u8 0), .sc (.int .u8 0), .sc (.int .u8 0), .sc (.int .u8 0), .sc (.int .u8 0), .sc (.int .u8 0), .sc (.int .u8 0), .sc (.int .u8 0), .sc (.int .u8 0), .sc (.int .u8 0), .sc (.int .u8 0), .sc (.int .u8 0), .sc (.int .u8 0)], false⟩
def tb150 : TE := ⟨.arr 64 5, 64, 64, [.sc (.int .u8 0), .sc (.int .u8 0), .sc (.int .u8 0), .sc (.int .u8 0), .sc (.int .u8 0), .sc (.int .u8 0), .sc (.int .u8 0), .sc (.int .u8 0), .sc (.int .u8 0), .sc (.int .u8 0), .sc (.int .u8 0), .sc (.int .u8 0), .sc (.int .u8 0), .sc (.int .u8 0), .sc (.int .u8 0), .sc (.int .u8 0), .sc (.int .u8 0), .sc (.int .u8 0), .sc (.int .u8 0), .sc (.int .u8 0), .sc (.int .u8 0), .sc (.int .u8 0), .sc (.int .u8 0), .sc (.int .u8 0), .sc (.int .u8 0), .sc (.int .u8 0), .sc (.int .u8 0), .sc (.int .u8 0), .sc (.int .u8 0), .sc (.int .u8 0), .sc (.int .u8 0), .sc (.int .u8 0), .sc (.int .u8 0), .sc (.int .u8 0), .sc (.int .u8 0), .sc (.int .u8 0), .sc (.int .u8 0), .sc (.int .u8 0), .sc (.int .u8 0), .sc (.int .u8 0), .sc (.int .u8 0), .sc (.int .u8 0), .sc (.int .u8 0), .sc (.int .u8 0), .sc (.int .u8 0), .sc (.int .u8 0), .sc (.int .u8 0), .sc (.int .u8 0), .sc (.int .u8 0), .sc (.int .u8 0), .sc (.int .u8 0), .sc (.int .u8 0), .sc (.int .u8 0), .sc (.int .u8 0), .sc (.int .u8 0), .sc (.int .u8 0), .sc (.int .u8 0), .sc (.int .u8 0), .sc (.int .u8 0), .sc (.int .u8 0), .sc (.int .u8 0), .sc (.int .u8 0), .sc (.int .u8 0), .sc (.int .u8 0)], false⟩
def tb151 : TE := ⟨.fn, 1, 8, [.sc .nilFunc], false⟩
def tb152 : TE := ⟨.fn, 1, 8, [.sc .nilFunc], false⟩
def tb153 : TE := ⟨.fn, 1, 8, [.sc .nilFunc], false⟩
def tb154 : TE := ⟨.fn, 1, 8, [.sc .nilFunc], false⟩
def tb155 : TE := ⟨.agg [(0, 3), (1, 3), (2, 3), (3, 3), (4, 28), (5, 28), (6, 9)], 7, 96, [.sc (.int .i64 0), .sc (.int .i64 0), .sc (.int .i64 0), .sc (.int .i64 0), .nl, .nl, .sc (.string ByteArray.empty)], false⟩
def tb156 : TE := ⟨.agg [(0, 3), (1, 3), (2, 3), (3, 3), (4, 28), (5, 28), (6, 9)], 7, 96, [.sc (.int .i64 0), .sc (.int .i64 0), .sc (.int .i64 0), .sc (.int .i64 0), .nl, .nl, .sc (.string ByteArray.empty)], false⟩
def tb157 : TE := ⟨.agg [(0, 156), (7, 3), (8, 3)], 9, 112, [.sc (.int .i64 0), .sc (.int .i64 0), .sc (.int .i64 0), .sc (.int .i64 0), .nl, .nl, .sc (.string ByteArray.empty), .sc (.int .i64 0), .sc (.int .i64 0)], false⟩
def tb158 : TE := ⟨.agg [(0, 156), (7, 3), (8, 3)], 9, 112, [.sc (.int .i64 0), .sc (.int .i64 0), .sc (.int .i64 0), .sc (.int .i64 0), .nl, .nl, .sc (.string ByteArray.empty), .sc (.int .i64 0), .sc (.int .i64 0)], false⟩
def tb159 : TE := ⟨.fn, 1, 8, [.sc .nilFunc], false⟩
def tb160 : TE := ⟨.fn, 1, 8, [.sc .nilFunc], false⟩
def tb161 : TE := ⟨.fn, 1, 8, [.sc .nilFunc], false⟩
def tb162 : TE := ⟨.arr 3 3, 3, 24, [.sc (.int .i64 0), .sc (.int .i64 0), .sc (.int .i64 0)], false⟩
def tb163 : TE := ⟨.fn, 1, 8, [.sc .nilFunc], false⟩
def tb164 : TE := ⟨.fn, 1, 8, [.sc .nilFunc], false⟩
def tb165 : TE := ⟨.fn, 1, 8, [.sc .nilFunc], false⟩
def tb166 : TE := ⟨.fn, 1, 8, [.sc .nilFunc], false⟩
def tb167 : TE := ⟨.fn, 1, 8, [.sc .nilFunc], false⟩
def tb168 : TE := ⟨.fn, 1, 8, [.sc .nilFunc], false⟩
def tb169 : TE := ⟨.fn, 1, 8, [.sc .nilFunc], false⟩
def tb170 : TE := ⟨.agg [(0, 17), (1, 17), (2, 17), (3, 9)], 4, 40, [.sc (.pointer none), .sc (.pointer none), .sc (.pointer none), .sc (.string ByteArray.empty)], false⟩
def tb171 : TE := ⟨.agg [(0, 17), (1, 17), (2, 17), (3, 9)], 4, 40, [.sc (.pointer none), .sc (.pointer none), .sc (.pointer none), .sc (.string ByteArray.empty)], false⟩
def tb172 : TE := ⟨.arr 0 16, 0, 0, [], false⟩
def tb173 : TE := ⟨.agg [(0, 172)], 0, 0, [], false⟩
def tb174 : TE := ⟨.agg [(0, 172)], 0, 0, [], false⟩
def tb175 : TE := ⟨.fn, 1, 8, [.sc .nilFunc], false⟩
def tb176 : TE := ⟨.int .u8, 1, 1, [.sc (.int .u8 0)], false⟩
def tb177 : TE := ⟨.int .u8, 1, 1, [.sc (.int .u8 0)], false⟩
def tb178 : TE := ⟨.fn, 1, 8, [.sc .nilFunc], false⟩
def tb179 : TE := ⟨.int .i32, 1, 4, [.sc (.int .i32 0)], false⟩
def tb180 : TE := ⟨.int .i32, 1, 4, [.sc (.int .i32 0)], false⟩
def tb181 : TE := ⟨.agg [(0, 12), (1, 12), (2, 81), (3, 176), (4, 5), (5, 5), (6, 177), (7, 178), (8, 94), (9, 179), (10, 180)], 11, 48, [.sc (.int .u64 0), .sc (.int .u64 0), .sc (.int .u32 0), .sc (.int .u8 0), .sc (.int .u8 0), .sc (.int .u8 0), .sc (.int .u8 0), .sc .nilFunc, .sc (.pointer none), .sc (.int .i32 0), .sc (.int .i32 0)], false⟩
def tb182 : TE := ⟨.agg [(0, 12), (1, 12), (2, 81), (3, 176), (4, 5), (5, 5), (6, 177), (7, 178), (8, 94), (9, 179), (10, 180)], 11, 48, [.sc (.int .u64 0), .sc (.int .u64 0), .sc (.int .u32 0), .sc (.int .u8 0), .sc (.int .u8 0), .sc (.int .u8 0), .sc (.int .u8 0), .sc .nilFunc, .sc (.pointer none), .sc (.int .i32 0), .sc (.int .i32 0)], false⟩
def tbNo : TE := ⟨.other, 0, 0, [], false⟩
def tb (t : TypeId) : TE := bif Nat.blt t 183 then (bif Nat.blt t 91 then (bif Nat.blt t 45 then (bif Nat.blt t 22 then (bif Nat.blt t 11 then (bif Nat.blt t 5 then (bif Nat.blt t 2 then (bif Nat.blt t 1 then tbNo else tb1) else (bif Nat.blt t 3 then tb2 else (bif Nat.blt t 4 then tb3 else tb4))) else (bif Nat.blt t 8 then (bif Nat.blt t 6 then tb5 else (bif Nat.blt t 7 then tb6 else tb7)) else (bif Nat.blt t 9 then tb8 else (bif Nat.blt t 10 then tb9 else tb10)))) else (bif Nat.blt t 16 then (bif Nat.blt t 13 then (bif Nat.blt t 12 then tb11 else tb12) else (bif Nat.blt t 14 then tb13 else (bif Nat.blt t 15 then tb14 else tb15))) else (bif Nat.blt t 19 then (bif Nat.blt t 17 then tb16 else (bif Nat.blt t 18 then tb17 else tb18)) else (bif Nat.blt t 20 then tb19 else (bif Nat.blt t 21 then tb20 else tb21))))) else (bif Nat.blt t 33 then (bif Nat.blt t 27 then (bif Nat.blt t 24 then (bif Nat.blt t 23 then tb22 else tb23) else (bif Nat.blt t 25 then tb24 else (bif Nat.blt t 26 then tb25 else tb26))) else (bif Nat.blt t 30 then (bif Nat.blt t 28 then tb27 else (bif Nat.blt t 29 then tb28 else tb29)) else (bif Nat.blt t 31 then tb30 else (bif Nat.blt t 32 then tb31 else tb32)))) else (bif Nat.blt t 39 then (bif Nat.blt t 36 then (bif Nat.blt t 34 then tb33 else (bif Nat.blt t 35 then tb34 else tb35)) else (bif Nat.blt t 37 then tb36 else (bif Nat.blt t 38 then tb37 else tb38))) else (bif Nat.blt t 42 then (bif Nat.blt t 40 then tb39 else (bif Nat.blt t 41 then tb40 else tbNo)) else (bif Nat.blt t 43 then tb42 else (bif Nat.blt t 44 then tb43 else tb44)))))) else (bif Nat.blt t 68 then (bif Nat.blt t 56 then (bif Nat.blt t 50 then (bif Nat.blt t 47 then (bif Nat.blt t 46 then tb45 else tb46) else (bif Nat.blt t 48 then tb47 else (bif Nat.blt t 49 then tbNo else tb49))) else (bif Nat.blt t 53 then (bif Nat.blt t 51 then tbNo else (bif Nat.blt t 52 then tb51 else tb52)) else (bif Nat.blt t 54 then tb53 else (bif Nat.blt t 55 then tb54 else tb55)))) else (bif Nat.blt t 62 then (bif Nat.blt t 59 then (bif Nat.blt t 57 then tb56 else (bif Nat.blt t 58 then tb57 else tb58)) else (bif Nat.blt t 60 then tb59 else (bif Nat.blt t 61 then tb60 else tb61))) else (bif Nat.blt t 65 then (bif Nat.blt t 63 then tb62 else (bif Nat.blt t 64 then tb63 else tb64)) else (bif Nat.blt t 66 then tb65 else (bif Nat.blt t 67 then tb66 else tbNo))))) else (bif Nat.blt t 79 then (bif Nat.blt t 73 then (bif Nat.blt t 70 then (bif Nat.blt t 69 then tb68 else tb69) else (bif Nat.blt t 71 then tb70 else (bif Nat.blt t 72 then tb71 else tb72))) else (bif Nat.blt t 76 then (bif Nat.blt t 74 then tb73 else (bif Nat.blt t 75 then tb74 else tb75)) else (bif Nat.blt t 77 then tbNo else (bif Nat.blt t 78 then tb77 else tb78)))) else (bif Nat.blt t 85 then (bif Nat.blt t 82 then (bif Nat.blt t 80 then tb79 else (bif Nat.blt t 81 then tb80 else tb81)) else (bif Nat.blt t 83 then tb82 else (bif Nat.blt t 84 then tb83 else tb84))) else (bif Nat.blt t 88 then (bif Nat.blt t 86 then tb85 else (bif Nat.blt t 87 then tb86 else tb87)) else (bif Nat.blt t 89 then tb88 else (bif Nat.blt t 90 then tb89 else tb90))))))) else (bif Nat.blt t 137 then (bif Nat.blt t 114 then (bif Nat.blt t 102 then (bif Nat.blt t 96 then (bif Nat.blt t 93 then (bif Nat.blt t 92 then tb91 else tb92) else (bif Nat.blt t 94 then tb93 else (bif Nat.blt t 95 then tb94 else tb95))) else (bif Nat.blt t 99 then (bif Nat.blt t 97 then tb96 else (bif Nat.blt t 98 then tb97 else tb98)) else (bif Nat.blt t 100 then tb99 else (bif Nat.blt t 101 then tb100 else tb101)))) else (bif Nat.blt t 108 then (bif Nat.blt t 105 then (bif Nat.blt t 103 then tb102 else (bif Nat.blt t 104 then tb103 else tb104)) else (bif Nat.blt t 106 then tb105 else (bif Nat.blt t 107 then tb106 else tbNo))) else (bif Nat.blt t 111 then (bif Nat.blt t 109 then tb108 else (bif Nat.blt t 110 then tb109 else tb110)) else (bif Nat.blt t 112 then tb111 else (bif Nat.blt t 113 then tb112 else tbNo))))) else (bif Nat.blt t 125 then (bif Nat.blt t 119 then (bif Nat.blt t 116 then (bif Nat.blt t 115 then tb114 else tb115) else (bif Nat.blt t 117 then tb116 else (bif Nat.blt t 118 then tb117 else tb118))) else (bif Nat.blt t 122 then (bif Nat.blt t 120 then tb119 else (bif Nat.blt t 121 then tb120 else tb121)) else (bif Nat.blt t 123 then tb122 else (bif Nat.blt t 124 then tb123 else tb124)))) else (bif Nat.blt t 131 then (bif Nat.blt t 128 then (bif Nat.blt t 126 then tb125 else (bif Nat.blt t 127 then tb126 else tb127)) else (bif Nat.blt t 129 then tb128 else (bif Nat.blt t 130 then tb129 else tb130))) else (bif Nat.blt t 134 then (bif Nat.blt t 132 then tb131 else (bif Nat.blt t 133 then tbNo else tb133)) else (bif Nat.blt t 135 then tb134 else (bif Nat.blt t 136 then tb135 else tb136)))))) else (bif Nat.blt t 160 then (bif Nat.blt t 148 then (bif Nat.blt t 142 then (bif Nat.blt t 139 then (bif Nat.blt t 138 then tb137 else tb138) else (bif Nat.blt t 140 then tb139 else (bif Nat.blt t 141 then tb140 else tb141))) else (bif Nat.blt t 145 then (bif Nat.blt t 143 then tb142 else (bif Nat.blt t 144 then tb143 else tb144)) else (bif Nat.blt t 146 then tbNo else (bif Nat.blt t 147 then tb146 else tb147)))) else (bif Nat.blt t 154 then (bif Nat.blt t 151 then (bif Nat.blt t 149 then tb148 else (bif Nat.blt t 150 then tb149 else tb150)) else (bif Nat.blt t 152 then tb151 else (bif Nat.blt t 153 then tb152 else tb153))) else (bif Nat.blt t 157 then (bif Nat.blt t 155 then tb154 else (bif Nat.blt t 156 then tb155 else tb156)) else (bif Nat.blt t 158 then tb157 else (bif Nat.blt t 159 then tb158 else tb159))))) else (bif Nat.blt t 171 then (bif Nat.blt t 165 then (bif Nat.blt t 162 then (bif Nat.blt t 161 then tb160 else tb161) else (bif Nat.blt t 163 then tb162 else (bif Nat.blt t 164 then tb163 else tb164))) else (bif Nat.blt t 168 then (bif Nat.blt t 166 then tb165 else (bif Nat.blt t 167 then tb166 else tb167)) else (bif Nat.blt t 169 then tb168 else (bif Nat.blt t 170 then tb169 else tb170)))) else (bif Nat.blt t 177 then (bif Nat.blt t 174 then (bif Nat.blt t 172 then tb171 else (bif Nat.blt t 173 then tb172 else tb173)) else (bif Nat.blt t 175 then tb174 else (bif Nat.blt t 176 then tb175 else tb176))) else (bif Nat.blt t 180 then (bif Nat.blt t 178 then tb177 else (bif Nat.blt t 179 then tb178 else tb179)) else (bif Nat.blt t 181 then tb180 else (bif Nat.blt t 182 then tb181 else tb182)))))))) else tbNo
def tbRows : List Nat := [1, 2, 3, 4, 5, 6, 7, 8, 9, 10, 11, 12, 13, 14, 15, 16, 17, 18, 19, 20, 21, 22, 23, 24, 25, 26, 27, 28, 29, 30, 31, 32, 33, 34, 35, 36, 37, 38, 39, 40, 42, 43, 44, 45, 46, 47, 49, 51, 52, 53, 54, 55, 56, 57, 58, 59, 60, 61, 62, 63, 64, 65, 66, 68, 69, 70, 71, 72, 73, 74, 75, 77, 78, 79, 80, 81, 82, 83, 84, 85, 86, 87, 88, 89, 90, 91, 92, 93, 94, 95, 96, 97, 98, 99, 100, 101, 102, 103, 104, 105, 106, 108, 109, 110, 111, 112, 114, 115, 116, 117, 118, 119, 120, 121, 122, 123, 124, 125, 126, 127, 128, 129, 130, 131, 133, 134, 135, 136, 137, 138, 139, 140, 141, 142, 143, 144, 146, 147, 148, 149, 150, 151, 152, 153, 154, 155, 156, 157, 158, 159, 160, 161, 162, 163, 164, 165, 166, 167, 168, 169, 170, 171, 172, 173, 174, 175, 176, 177, 178, 179, 180, 181, 182]
theorem tb_rows : tbRows.map tb = tbRows.map (tabOf Tryd.prog) := by kernel_rfl
theorem tb_holes : ((List.range 183).all fun t => tbRows.contains t || (match (tb t).k with | .other => true | _ => false)) = true := by kernel_rfl
theorem tb_ok : TOk Tryd.prog tb := by
  refine ⟨fun t => ?_⟩
  by_cases ht : t < 183
  · have h := List.all_eq_true.1 tb_holes t (List.mem_range.2 ht)
    rw [Bool.or_eq_true] at h
    rcases h with h | h
    · left
      have hm : t ∈ tbRows := by simpa using h
      obtain ⟨i, hi, rfl⟩ := List.getElem_of_mem hm
      have e := congrArg (·[i]?) tb_rows
      simpa [hi] using e
    · right
      generalize (tb t).k = k at h
      cases k <;> first | rfl | cases h
  · right
    have hb : Nat.blt t 183 = false := by
      cases hq : Nat.blt t 183 with
      | true => exact absurd (Nat.le_of_ble_eq_true hq) ht
      | false => rfl
    unfold tb
    rw [hb]
    rfl
theorem mixed : Tryd.prog.follows .mixedOrders = true := by kernel_rfl
end Go.Proofs.YthmhbmikcdfkcaaDoor
