/-
  The table of types, written out; that it is the program's.
-/
import Derived.Test.YtdjjlkekbphbaaaDoorProg
import Derived.Test.YtdjjlkekbphbaaaDoorVjB
import Derived.KernelRfl
namespace Go.Proofs.YtdjjlkekbphbaaaDoor
open Go.RowKit
def tb1 : TE := ⟨.fn, 1, 8, [.sc .nilFunc], false⟩
def tb2 : TE := ⟨.int .i64, 1, 8, [.sc (.int .i64 0)], false⟩
def tb3 : TE := ⟨.int .i64, 1, 8, [.sc (.int .i64 0)], false⟩
def tb4 : TE := ⟨.bool, 1, 1, [.sc (.bool false)], false⟩
def tb5 : TE := ⟨.int .u8, 1, 1, [.sc (.int .u8 0)], false⟩
def tb6 : TE := ⟨.int .u8, 1, 1, [.sc (.int .u8 0)], false⟩
def tb7 : TE := ⟨.agg [(0, 2), (1, 3), (2, 4), (3, 6)], 4, 24, [.sc (.int .i64 0), .sc (.int .i64 0), .sc (.bool false), .sc (.int .u8 0)], true⟩
def tb8 : TE := ⟨.agg [(0, 2), (1, 3), (2, 4), (3, 6)], 4, 24, [.sc (.int .i64 0), .sc (.int .i64 0), .sc (.bool false), .sc (.int .u8 0)], true⟩
def tb9 : TE := ⟨.str, 1, 16, [.sc (.string ByteArray.empty)], false⟩
def tb10 : TE := ⟨.str, 1, 16, [.sc (.string ByteArray.empty)], false⟩
def tb11 : TE := ⟨.str, 1, 16, [.sc (.string ByteArray.empty)], false⟩
def tb12 : TE := ⟨.int .u64, 1, 8, [.sc (.int .u64 0)], false⟩
def tb13 : TE := ⟨.agg [(0, 9), (1, 12)], 2, 24, [.sc (.string ByteArray.empty), .sc (.int .u64 0)], false⟩
def tb14 : TE := ⟨.agg [(0, 9), (1, 12)], 2, 24, [.sc (.string ByteArray.empty), .sc (.int .u64 0)], false⟩
def tb15 : TE := ⟨.ptr, 1, 8, [.sc (.pointer none)], false⟩
def tb16 : TE := ⟨.ptr, 1, 8, [.sc (.pointer none)], false⟩
def tb17 : TE := ⟨.ptr, 1, 8, [.sc (.pointer none)], false⟩
def tb18 : TE := ⟨.agg [(0, 17)], 1, 8, [.sc (.pointer none)], false⟩
def tb19 : TE := ⟨.agg [(0, 17)], 1, 8, [.sc (.pointer none)], false⟩
def tb20 : TE := ⟨.ifc, 1, 16, [.sc .nilIface], false⟩
def tb21 : TE := ⟨.int .i32, 1, 4, [.sc (.int .i32 0)], false⟩
def tb22 : TE := ⟨.sl 86, 1, 24, [.nl], false⟩
def tb23 : TE := ⟨.sl 2, 1, 24, [.nl], false⟩
def tb24 : TE := ⟨.sl 78, 1, 24, [.nl], false⟩
def tb25 : TE := ⟨.sl 3, 1, 24, [.nl], false⟩
def tb26 : TE := ⟨.sl 81, 1, 24, [.nl], false⟩
def tb27 : TE := ⟨.sl 53, 1, 24, [.nl], false⟩
def tb28 : TE := ⟨.agg [(0, 22), (1, 23), (2, 24), (3, 25), (4, 26), (5, 3), (6, 27)], 7, 152, [.nl, .nl, .nl, .nl, .nl, .sc (.int .i64 0), .nl], false⟩
def tb29 : TE := ⟨.agg [(0, 22), (1, 23), (2, 24), (3, 25), (4, 26), (5, 3), (6, 27)], 7, 152, [.nl, .nl, .nl, .nl, .nl, .sc (.int .i64 0), .nl], false⟩
def tb30 : TE := ⟨.sl 76, 1, 24, [.nl], false⟩
def tb31 : TE := ⟨.sl 58, 1, 24, [.nl], false⟩
def tb32 : TE := ⟨.agg [(0, 23), (1, 30), (2, 31), (3, 3), (4, 3), (5, 3)], 6, 96, [.nl, .nl, .nl, .sc (.int .i64 0), .sc (.int .i64 0), .sc (.int .i64 0)], false⟩
def tb33 : TE := ⟨.agg [(0, 23), (1, 30), (2, 31), (3, 3), (4, 3), (5, 3)], 6, 96, [.nl, .nl, .nl, .sc (.int .i64 0), .sc (.int .i64 0), .sc (.int .i64 0)], false⟩
def tb34 : TE := ⟨.agg [(0, 29), (7, 33), (13, 33), (19, 9)], 20, 360, [.nl, .nl, .nl, .nl, .nl, .sc (.int .i64 0), .nl, .nl, .nl, .nl, .sc (.int .i64 0), .sc (.int .i64 0), .sc (.int .i64 0), .nl, .nl, .nl, .sc (.int .i64 0), .sc (.int .i64 0), .sc (.int .i64 0), .sc (.string ByteArray.empty)], false⟩
def tb35 : TE := ⟨.agg [(0, 29), (7, 33), (13, 33), (19, 9)], 20, 360, [.nl, .nl, .nl, .nl, .nl, .sc (.int .i64 0), .nl, .nl, .nl, .nl, .sc (.int .i64 0), .sc (.int .i64 0), .sc (.int .i64 0), .nl, .nl, .nl, .sc (.int .i64 0), .sc (.int .i64 0), .sc (.int .i64 0), .sc (.string ByteArray.empty)], false⟩
def tb36 : TE := ⟨.fn, 1, 8, [.sc .nilFunc], false⟩
def tb37 : TE := ⟨.int .i64, 1, 8, [.sc (.int .i64 0)], false⟩
def tb39 : TE := ⟨.fn, 1, 8, [.sc .nilFunc], false⟩
def tb41 : TE := ⟨.fn, 1, 8, [.sc .nilFunc], false⟩
def tb42 : TE := ⟨.fn, 1, 8, [.sc .nilFunc], false⟩
def tb43 : TE := ⟨.fn, 1, 8, [.sc .nilFunc], false⟩
def tb44 : TE := ⟨.sl 4, 1, 24, [.nl], false⟩
def tb45 : TE := ⟨.agg [(0, 29), (7, 33), (13, 3), (14, 4), (15, 44)], 16, 288, [.nl, .nl, .nl, .nl, .nl, .sc (.int .i64 0), .nl, .nl, .nl, .nl, .sc (.int .i64 0), .sc (.int .i64 0), .sc (.int .i64 0), .sc (.int .i64 0), .sc (.bool false), .nl], false⟩
def tb46 : TE := ⟨.agg [(0, 29), (7, 33), (13, 3), (14, 4), (15, 44)], 16, 288, [.nl, .nl, .nl, .nl, .nl, .sc (.int .i64 0), .nl, .nl, .nl, .nl, .sc (.int .i64 0), .sc (.int .i64 0), .sc (.int .i64 0), .sc (.int .i64 0), .sc (.bool false), .nl], false⟩
def tb48 : TE := ⟨.fn, 1, 8, [.sc .nilFunc], false⟩
def tb49 : TE := ⟨.sl 93, 1, 24, [.nl], false⟩
def tb50 : TE := ⟨.agg [(0, 3), (1, 3), (2, 3), (3, 3), (4, 49)], 5, 56, [.sc (.int .i64 0), .sc (.int .i64 0), .sc (.int .i64 0), .sc (.int .i64 0), .nl], false⟩
def tb51 : TE := ⟨.agg [(0, 3), (1, 3), (2, 3), (3, 3), (4, 49)], 5, 56, [.sc (.int .i64 0), .sc (.int .i64 0), .sc (.int .i64 0), .sc (.int .i64 0), .nl], false⟩
def tb52 : TE := ⟨.agg [(0, 3), (1, 2), (2, 3), (3, 3), (4, 3), (5, 51), (10, 25), (11, 25)], 12, 144, [.sc (.int .i64 0), .sc (.int .i64 0), .sc (.int .i64 0), .sc (.int .i64 0), .sc (.int .i64 0), .sc (.int .i64 0), .sc (.int .i64 0), .sc (.int .i64 0), .sc (.int .i64 0), .nl, .nl, .nl], false⟩
def tb53 : TE := ⟨.agg [(0, 3), (1, 2), (2, 3), (3, 3), (4, 3), (5, 51), (10, 25), (11, 25)], 12, 144, [.sc (.int .i64 0), .sc (.int .i64 0), .sc (.int .i64 0), .sc (.int .i64 0), .sc (.int .i64 0), .sc (.int .i64 0), .sc (.int .i64 0), .sc (.int .i64 0), .sc (.int .i64 0), .nl, .nl, .nl], false⟩
def tb55 : TE := ⟨.fn, 1, 8, [.sc .nilFunc], false⟩
def tb56 : TE := ⟨.fn, 1, 8, [.sc .nilFunc], false⟩
def tb57 : TE := ⟨.agg [(0, 3), (1, 3), (2, 3), (3, 23)], 4, 48, [.sc (.int .i64 0), .sc (.int .i64 0), .sc (.int .i64 0), .nl], false⟩
def tb58 : TE := ⟨.agg [(0, 3), (1, 3), (2, 3), (3, 23)], 4, 48, [.sc (.int .i64 0), .sc (.int .i64 0), .sc (.int .i64 0), .nl], false⟩
def tb59 : TE := ⟨.fn, 1, 8, [.sc .nilFunc], false⟩
def tb60 : TE := ⟨.fn, 1, 8, [.sc .nilFunc], false⟩
def tb61 : TE := ⟨.fn, 1, 8, [.sc .nilFunc], false⟩
def tb62 : TE := ⟨.fn, 1, 8, [.sc .nilFunc], false⟩
def tb63 : TE := ⟨.fn, 1, 8, [.sc .nilFunc], false⟩
def tb64 : TE := ⟨.fn, 1, 8, [.sc .nilFunc], false⟩
def tb65 : TE := ⟨.fn, 1, 8, [.sc .nilFunc], false⟩
def tb66 : TE := ⟨.fn, 1, 8, [.sc .nilFunc], false⟩
def tb68 : TE := ⟨.fn, 1, 8, [.sc .nilFunc], false⟩
def tb69 : TE := ⟨.ptr, 1, 8, [.sc (.pointer none)], false⟩
def tb70 : TE := ⟨.agg [(0, 23), (1, 4)], 2, 32, [.nl, .sc (.bool false)], false⟩
def tb71 : TE := ⟨.agg [(0, 23), (1, 4)], 2, 32, [.nl, .sc (.bool false)], false⟩
def tb72 : TE := ⟨.fn, 1, 8, [.sc .nilFunc], false⟩
def tb73 : TE := ⟨.fn, 1, 8, [.sc .nilFunc], false⟩
def tb74 : TE := ⟨.sl 124, 1, 24, [.nl], false⟩
def tb75 : TE := ⟨.agg [(0, 3), (1, 74)], 2, 32, [.sc (.int .i64 0), .nl], false⟩
def tb76 : TE := ⟨.agg [(0, 3), (1, 74)], 2, 32, [.sc (.int .i64 0), .nl], false⟩
def tb77 : TE := ⟨.agg [(0, 3), (1, 22)], 2, 32, [.sc (.int .i64 0), .nl], false⟩
def tb78 : TE := ⟨.agg [(0, 3), (1, 22)], 2, 32, [.sc (.int .i64 0), .nl], false⟩
def tb79 : TE := ⟨.sl 90, 1, 24, [.nl], false⟩
def tb80 : TE := ⟨.agg [(0, 9), (1, 3), (2, 22), (3, 23), (4, 79), (5, 3), (6, 3), (7, 3), (8, 3), (9, 3)], 10, 136, [.sc (.string ByteArray.empty), .sc (.int .i64 0), .nl, .nl, .nl, .sc (.int .i64 0), .sc (.int .i64 0), .sc (.int .i64 0), .sc (.int .i64 0), .sc (.int .i64 0)], false⟩
def tb81 : TE := ⟨.agg [(0, 9), (1, 3), (2, 22), (3, 23), (4, 79), (5, 3), (6, 3), (7, 3), (8, 3), (9, 3)], 10, 136, [.sc (.string ByteArray.empty), .sc (.int .i64 0), .nl, .nl, .nl, .sc (.int .i64 0), .sc (.int .i64 0), .sc (.int .i64 0), .sc (.int .i64 0), .sc (.int .i64 0)], false⟩
def tb82 : TE := ⟨.fn, 1, 8, [.sc .nilFunc], false⟩
def tb83 : TE := ⟨.fn, 1, 8, [.sc .nilFunc], false⟩
def tb84 : TE := ⟨.fn, 1, 8, [.sc .nilFunc], false⟩
def tb85 : TE := ⟨.agg [(0, 3), (1, 4)], 2, 16, [.sc (.int .i64 0), .sc (.bool false)], true⟩
def tb86 : TE := ⟨.agg [(0, 3), (1, 4)], 2, 16, [.sc (.int .i64 0), .sc (.bool false)], true⟩
def tb87 : TE := ⟨.sl 174, 1, 24, [.nl], false⟩
def tb88 : TE := ⟨.sl 87, 1, 24, [.nl], false⟩
def tb89 : TE := ⟨.agg [(0, 87), (1, 88), (2, 4), (3, 4), (4, 4), (5, 4), (6, 4)], 7, 56, [.nl, .nl, .sc (.bool false), .sc (.bool false), .sc (.bool false), .sc (.bool false), .sc (.bool false)], false⟩
def tb90 : TE := ⟨.agg [(0, 87), (1, 88), (2, 4), (3, 4), (4, 4), (5, 4), (6, 4)], 7, 56, [.nl, .nl, .sc (.bool false), .sc (.bool false), .sc (.bool false), .sc (.bool false), .sc (.bool false)], false⟩
def tb91 : TE := ⟨.fn, 1, 8, [.sc .nilFunc], false⟩
def tb92 : TE := ⟨.agg [(0, 3), (1, 3), (2, 3)], 3, 24, [.sc (.int .i64 0), .sc (.int .i64 0), .sc (.int .i64 0)], true⟩
def tb93 : TE := ⟨.agg [(0, 3), (1, 3), (2, 3)], 3, 24, [.sc (.int .i64 0), .sc (.int .i64 0), .sc (.int .i64 0)], true⟩
def tb95 : TE := ⟨.fn, 1, 8, [.sc .nilFunc], false⟩
def tb96 : TE := ⟨.fn, 1, 8, [.sc .nilFunc], false⟩
def tb97 : TE := ⟨.fn, 1, 8, [.sc .nilFunc], false⟩
def tb98 : TE := ⟨.ptr, 1, 8, [.sc (.pointer none)], false⟩
def tb99 : TE := ⟨.fn, 1, 8, [.sc .nilFunc], false⟩
def tb100 : TE := ⟨.fn, 1, 8, [.sc .nilFunc], false⟩
def tb101 : TE := ⟨.fn, 1, 8, [.sc .nilFunc], false⟩
def tb102 : TE := ⟨.ptr, 1, 8, [.sc (.pointer none)], false⟩
def tb103 : TE := ⟨.sl 5, 1, 24, [.nl], false⟩
def tb104 : TE := ⟨.agg [(0, 102), (1, 103)], 2, 32, [.sc (.pointer none), .nl], false⟩
def tb105 : TE := ⟨.agg [(0, 102), (1, 103)], 2, 32, [.sc (.pointer none), .nl], false⟩
def tb106 : TE := ⟨.fn, 1, 8, [.sc .nilFunc], false⟩
def tb107 : TE := ⟨.ifc, 1, 16, [.sc .nilIface], false⟩
def tb108 : TE := ⟨.ifc, 1, 16, [.sc .nilIface], false⟩
def tb110 : TE := ⟨.fn, 1, 8, [.sc .nilFunc], false⟩
def tb111 : TE := ⟨.fn, 1, 8, [.sc .nilFunc], false⟩
def tb112 : TE := ⟨.fn, 1, 8, [.sc .nilFunc], false⟩
def tb113 : TE := ⟨.int .u64, 1, 8, [.sc (.int .u64 0)], false⟩
def tb114 : TE := ⟨.int .u32, 1, 4, [.sc (.int .u32 0)], false⟩
def tb115 : TE := ⟨.fn, 1, 8, [.sc .nilFunc], false⟩
def tb116 : TE := ⟨.fn, 1, 8, [.sc .nilFunc], false⟩
def tb117 : TE := ⟨.fn, 1, 8, [.sc .nilFunc], false⟩
def tb118 : TE := ⟨.fn, 1, 8, [.sc .nilFunc], false⟩
def tb119 : TE := ⟨.fn, 1, 8, [.sc .nilFunc], false⟩
def tb120 : TE := ⟨.fn, 1, 8, [.sc .nilFunc], false⟩
def tb121 : TE := ⟨.fn, 1, 8, [.sc .nilFunc], false⟩
def tb122 : TE := ⟨.fn, 1, 8, [.sc .nilFunc], false⟩
def tb123 : TE := ⟨.fn, 1, 8, [.sc .nilFunc], false⟩
def tb124 : TE := ⟨.sl 2, 1, 24, [.nl], false⟩
def tb125 : TE := ⟨.fn, 1, 8, [.sc .nilFunc], false⟩
def tb126 : TE := ⟨.fn, 1, 8, [.sc .nilFunc], false⟩
def tb127 : TE := ⟨.fn, 1, 8, [.sc .nilFunc], false⟩
def tb128 : TE := ⟨.fn, 1, 8, [.sc .nilFunc], false⟩
def tb130 : TE := ⟨.fn, 1, 8, [.sc .nilFunc], false⟩
def tb132 : TE := ⟨.fn, 1, 8, [.sc .nilFunc], false⟩
def tb133 : TE := ⟨.fn, 1, 8, [.sc .nilFunc], false⟩
def tb134 : TE := ⟨.fn, 1, 8, [.sc .nilFunc], false⟩
def tb135 : TE := ⟨.fn, 1, 8, [.sc .nilFunc], false⟩
def tb136 : TE := ⟨.fn, 1, 8, [.sc .nilFunc], false⟩
def tb137 : TE := ⟨.fn, 1, 8, [.sc .nilFunc], false⟩
def tb138 : TE := ⟨.fn, 1, 8, [.sc .nilFunc], false⟩
def tb139 : TE := ⟨.fn, 1, 8, [.sc .nilFunc], false⟩
def tb140 : TE := ⟨.fn, 1, 8, [.sc .nilFunc], false⟩
def tb141 : TE := ⟨.fn, 1, 8, [.sc .nilFunc], false⟩
def tb142 : TE := ⟨.ptr, 1, 8, [.sc (.pointer none)], false⟩
def tb143 : TE := ⟨.fn, 1, 8, [.sc .nilFunc], false⟩
def tb144 : TE := ⟨.ptr, 1, 8, [.sc (.pointer none)], false⟩
def tb145 : TE := ⟨.agg [(0, 29)], 7, 152, [.nl, .nl, .nl, .nl, .nl, .sc (.int .i64 0), .nl], false⟩
def tb146 : TE := ⟨.agg [(0, 29)], 7, 152, [.nl, .nl, .nl, .nl, .nl, .sc (.int .i64 0), .nl], false⟩
def tb148 : TE := ⟨.fn, 1, 8, [.sc .nilFunc], false⟩
def tb149 : TE := ⟨.fn, 1, 8, [.sc .nilFunc], false⟩
def tb150 : TE := ⟨.fn, 1, 8, [.sc .nilFunc], false⟩
def tb151 : TE := ⟨.fn, 1, 8, [.sc .nilFunc], false⟩
def tb152 : TE := ⟨.fn, 1, 8, [.sc .nilFunc], false⟩
def tb153 : TE := ⟨.fn, 1, 8, [.sc .nilFunc], false⟩
def tb154 : TE := ⟨.fn, 1, 8, [.sc .nilFunc], false⟩
def tb155 : TE := ⟨.fn, 1, 8, [.sc .nilFunc], false⟩
def tb156 : TE := ⟨.fn, 1, 8, [.sc .nilFunc], false⟩
def tb157 : TE := ⟨.fn, 1, 8, [.sc .nilFunc], false⟩
def tb158 : TE := ⟨.fn, 1, 8, [.sc .nilFunc], false⟩
def tb160 : TE := ⟨.fn, 1, 8, [.sc .nilFunc], false⟩
def tb161 : TE := ⟨.fn, 1, 8, [.sc .nilFunc], false⟩
def tb162 : TE := ⟨.arr 24 5, 24, 24, [.sc (.int .u8 0), .sc (.int .u8 0), .sc (.int .u8 0), .sc (.int .u8 0), .sc (.int .u8 0), .sc (.int .u8 0), .sc (.int .u8 0), .sc (.int .u8 0), .sc (.int .u8 0), .sc (.int .u8 0), .sc (.int .u8 0), .sc (.int .u8 0), .sc (.int .u8 0), .sc (.int .u8 0), .sc (.int .u8 0), .sc (.int .u8 0), .sc (.int .u8 0), .sc (.int .u8 0), .sc (.int .u8 0), .sc (.int .u8 0), .sc (.int .u8 0), .sc (.int .u8 0), .sc (.int .u8 0), .sc (.int .u8 0)], false⟩
def tb163 : TE := ⟨.fn, 1, 8, [.sc .nilFunc], false⟩
def tb164 : TE := ⟨.fn, 1, 8, [.sc .nilFunc], false⟩
def tb166 : TE := ⟨.fn, 1, 8, [.sc .nilFunc], false⟩
def tb167 : TE := ⟨.fn, 1, 8, [.sc .nilFunc], false⟩
def tb168 : TE := ⟨.fn, 1, 8, [.sc .nilFunc], false⟩
def tb169 : TE := ⟨.fn, 1, 8, [.sc .nilFunc], false⟩
def tb170 : TE := ⟨.fn, 1, 8, [.sc .nilFunc], false⟩
def tb171 : TE := ⟨.agg [(0, 3), (1, 3), (2, 3), (3, 3), (4, 25), (5, 25), (6, 9)], 7, 96, [.sc (.int .i64 0), .sc (.int .i64 0), .sc (.int .i64 0), .sc (.int .i64 0), .nl, .nl, .sc (.string ByteArray.empty)], false⟩
def tb172 : TE := ⟨.agg [(0, 3), (1, 3), (2, 3), (3, 3), (4, 25), (5, 25), (6, 9)], 7, 96, [.sc (.int .i64 0), .sc (.int .i64 0), .sc (.int .i64 0), .sc (.int .i64 0), .nl, .nl, .sc (.string ByteArray.empty)], false⟩
def tb173 : TE := ⟨.agg [(0, 172), (7, 3), (8, 3)], 9, 112, [.sc (.int .i64 0), .sc (.int .i64 0), .sc (.int .i64 0), .sc (.int .i64 0), .nl, .nl, .sc (.string ByteArray.empty), .sc (.int .i64 0), .sc (.int .i64 0)], false⟩
def tb174 : TE := ⟨.agg [(0, 172), (7, 3), (8, 3)], 9, 112, [.sc (.int .i64 0), .sc (.int .i64 0), .sc (.int .i64 0), .sc (.int .i64 0), .nl, .nl, .sc (.string ByteArray.empty), .sc (.int .i64 0), .sc (.int .i64 0)], false⟩
def tb175 : TE := ⟨.fn, 1, 8, [.sc .nilFunc], false⟩
def tb176 : TE := ⟨.fn, 1, 8, [.sc .nilFunc], false⟩
def tb177 : TE := ⟨.int .i64, 1, 8, [.sc (.int .i64 0)], false⟩
def tb179 : TE := ⟨.fn, 1, 8, [.sc .nilFunc], false⟩
def tb180 : TE := ⟨.int .u64, 1, 8, [.sc (.int .u64 0)], false⟩
def tb181 : TE := ⟨.ptr, 1, 8, [.sc (.pointer none)], false⟩
def tb182 : TE := ⟨.fn, 1, 8, [.sc .nilFunc], false⟩
def tb183 : TE := ⟨.fn, 1, 8, [.sc .nilFunc], false⟩
def tb184 : TE := ⟨.fn, 1, 8, [.sc .nilFunc], false⟩
def tb185 : TE := ⟨.fn, 1, 8, [.sc .nilFunc], false⟩
def tb186 : TE := ⟨.fn, 1, 8, [.sc .nilFunc], false⟩
def tb187 : TE := ⟨.fn, 1, 8, [.sc .nilFunc], false⟩
def tb188 : TE := ⟨.fn, 1, 8, [.sc .nilFunc], false⟩
def tb189 : TE := ⟨.fn, 1, 8, [.sc .nilFunc], false⟩
def tb190 : TE := ⟨.fn, 1, 8, [.sc .nilFunc], false⟩
def tb191 : TE := ⟨.arr 20 113, 20, 160, [.sc (.int .u64 0), .sc (.int .u64 0), .sc (.int .u64 0), .sc (.int .u64 0), .sc (.int .u64 0), .sc (.int .u64 0), .sc (.int .u64 0), .sc (.int .u64 0), .sc (.int .u64 0), .sc (.int .u64 0), .sc (.int .u64 0), .sc (.int .u64 0), .sc (.int .u64 0), .sc (.int .u64 0), .sc (.int .u64 0), .sc (.int .u64 0), .sc (.int .u64 0), .sc (.int .u64 0), .sc (.int .u64 0), .sc (.int .u64 0)], false⟩
def tb192 : TE := ⟨.arr 65 5, 65, 65, [.sc (.int .u8 0), .sc (.int .u8 0), .sc (.int .u8 0), .sc (.int .u8 0), .sc (.int .u8 0), .sc (.int .u8 0), .sc (.int .u8 0), .sc (.int .u8 0), .sc (.int .u8 0), .sc (.int .u8 0), .sc (.int .u8 0), .sc (.int .u8 0), .sc (.int .u8 0), .sc (.int .u8 0), .sc (.int .u8 0), .sc (.int .u8 0), .sc (.int .u8 0), .sc (.int .u8 0), .sc (.int .u8 0), .sc (.int .u8 0), .sc (.int .u8 0), .sc (.int .u8 0), .sc (.int .u8 0), .sc (.int .u8 0), .sc (.int .u8 0), .sc (.int .u8 0), .sc (.int .u8 0), .sc (.int .u8 0), .sc (.int .u8 0), .sc (.int .u8 0), .sc (.int .u8 0), .sc (.int .u8 0), .sc (.int .u8 0), .sc (.int .u8 0), .sc (.int .u8 0), .sc (.int .u8 0), .sc (.int .u8 0), .sc (.int .u8 0), .sc (.int .u8 0), .sc (.int .u8 0), .sc (.int .u8 0), .sc (.int .u8 0), .sc (.int .u8 0), .sc (.int .u8 0), .sc (.int .u8 0), .sc (.int .u8 0), .sc (.int .u8 0), .sc (.int .u8 0), .sc (.int .u8 0), .sc (.int .u8 0), .sc (.int .u8 0), .sc (.int .u8 0), .sc (.int .u8 0), .sc (.int .u8 0), .sc (.int .u8 0), .sc (.int .u8 0), .sc (.int .u8 0), .sc (.int .u8 0), .sc (.int .u8 0), .sc (.int .u8 0), .sc (.int .u8 0), .sc (.int .u8 0), .sc (.int .u8 0), .sc (.int .u8 0), .sc (.int .u8 0)], false⟩
def tb193 : TE := ⟨.fn, 1, 8, [.sc .nilFunc], false⟩
def tb194 : TE := ⟨.arr 3 3, 3, 24, [.sc (.int .i64 0), .sc (.int .i64 0), .sc (.int .i64 0)], false⟩
def tb195 : TE := ⟨.fn, 1, 8, [.sc .nilFunc], false⟩
def tb196 : TE := ⟨.fn, 1, 8, [.sc .nilFunc], false⟩
def tb197 : TE := ⟨.fn, 1, 8, [.sc .nilFunc], false⟩
def tb198 : TE := ⟨.fn, 1, 8, [.sc .nilFunc], false⟩
def tb199 : TE := ⟨.fn, 1, 8, [.sc .nilFunc], false⟩
def tb200 : TE := ⟨.fn, 1, 8, [.sc .nilFunc], false⟩
def tb201 : TE := ⟨.fn, 1, 8, [.sc .nilFunc], false⟩
def tb202 : TE := ⟨.fn, 1, 8, [.sc .nilFunc], false⟩
def tb203 : TE := ⟨.fn, 1, 8, [.sc .nilFunc], false⟩
def tb204 : TE := ⟨.agg [(0, 9), (1, 9), (2, 108)], 3, 48, [.sc (.string ByteArray.empty), .sc (.string ByteArray.empty), .sc .nilIface], false⟩
def tb205 : TE := ⟨.agg [(0, 9), (1, 9), (2, 108)], 3, 48, [.sc (.string ByteArray.empty), .sc (.string ByteArray.empty), .sc .nilIface], false⟩
def tb206 : TE := ⟨.fn, 1, 8, [.sc .nilFunc], false⟩
def tb207 : TE := ⟨.fn, 1, 8, [.sc .nilFunc], false⟩
def tb208 : TE := ⟨.fn, 1, 8, [.sc .nilFunc], false⟩
def tb209 : TE := ⟨.ptr, 1, 8, [.sc (.pointer none)], false⟩
def tb210 : TE := ⟨.agg [(0, 9)], 1, 16, [.sc (.string ByteArray.empty)], true⟩
def tb211 : TE := ⟨.agg [(0, 9)], 1, 16, [.sc (.string ByteArray.empty)], true⟩
def tb212 : TE := ⟨.arr 32 5, 32, 32, [.sc (.int .u8 0), .sc (.int .u8 0), .sc (.int .u8 0), .sc (.int .u8 0), .sc (.int .u8 0), .sc (.int .u8 0), .sc (.int .u8 0), .sc (.int .u8 0), .sc (.int .u8 0), .sc (.int .u8 0), .sc (.int .u8 0), .sc (.int .u8 0), .sc (.int .u8 0), .sc (.int .u8 0), .sc (.int .u8 0), .sc (.int .u8 0), .sc (.int .u8 0), .sc (.int .u8 0), .sc (.int .u8 0), .sc (.int .u8 0), .sc (.int .u8 0), .sc (.int .u8 0), .sc (.int .u8 0), .sc (.int .u8 0), .sc (.int .u8 0), .sc (.int .u8 0), .sc (.int .u8 0), .sc (.int .u8 0), .sc (.int .u8 0), .sc (.int .u8 0), .sc (.int .u8 0), .sc (.int .u8 0)], false⟩
def tb213 : TE := ⟨.arr 64 5, 64, 64, [.sc (.int .u8 0), .sc (.int .u8 0), .sc (.int .u8 0), .sc (.int .u8 0), .sc (.int .u8 0), .sc (.int .u8 0), .sc (.int .u8 0), .sc (.int .u8 0), .sc (.int .u8 0), .sc (.int .u8 0), .sc (.int .u8 0), .sc (.int .u8 0), .sc (.int .u8 0), .sc (.int .u8 0), .sc (.int .u8 0), .sc (.int .u8 0), .sc (.int .u8 0), .sc (.int .u8 0), .sc (.int .u8 0), .sc (.int .u8 0), .sc (.int .u8 0), .sc (.int .u8 0), .sc (.int .u8 0), .sc (.int .u8 0), .sc (.int .u8 0), .sc (.int .u8 0), .sc (.int .u8 0), .sc (.int .u8 0), .sc (.int .u8 0), .sc (.int .u8 0), .sc (.int .u8 0), .sc (.int .u8 0), .sc (.int .u8 0), .sc (.int .u8 0), .sc (.int .u8 0), .sc (.int .u8 0), .sc (.int .u8 0), .sc (.int .u8 0), .sc (.int .u8 0), .sc (.int .u8 0), .sc (.int .u8 0), .sc (.int .u8 0), .sc (.int .u8 0), .sc (.int .u8 0), .sc (.int .u8 0), .sc (.int .u8 0), .sc (.int .u8 0), .sc (.int .u8 0), .sc (.int .u8 0), .sc (.int .u8 0), .sc (.int .u8 0), .sc (.int .u8 0), .sc (.int .u8 0), .sc (.int .u8 0), .sc (.int .u8 0), .sc (.int .u8 0), .sc (.int .u8 0), .sc (.int .u8 0), .sc (.int .u8 0), .sc (.int .u8 0), .sc (.int .u8 0), .sc (.int .u8 0), .sc (.int .u8 0), .sc (.int .u8 0)], false⟩
def tb214 : TE := ⟨.agg [(0, 17), (1, 17), (2, 17), (3, 9)], 4, 40, [.sc (.pointer none), .sc (.pointer none), .sc (.pointer none), .sc (.string ByteArray.empty)], false⟩
def tb215 : TE := ⟨.agg [(0, 17), (1, 17), (2, 17), (3, 9)], 4, 40, [.sc (.pointer none), .sc (.pointer none), .sc (.pointer none), .sc (.string ByteArray.empty)], false⟩
def tb216 : TE := ⟨.arr 0 16, 0, 0, [], false⟩
def tb217 : TE := ⟨.agg [(0, 216)], 0, 0, [], false⟩
def tb218 : TE := ⟨.agg [(0, 216)], 0, 0, [], false⟩
def tb219 : TE := ⟨.fn, 1, 8, [.sc .nilFunc], false⟩
def tb220 : TE := ⟨.int .u8, 1, 1, [.sc (.int .u8 0)], false⟩
def tb221 : TE := ⟨.int .u8, 1, 1, [.sc (.int .u8 0)], false⟩
def tb222 : TE := ⟨.fn, 1, 8, [.sc .nilFunc], false⟩
def tb223 : TE := ⟨.int .i32, 1, 4, [.sc (.int .i32 0)], false⟩
def tb224 : TE := ⟨.int .i32, 1, 4, [.sc (.int .i32 0)], false⟩
def tb225 : TE := ⟨.agg [(0, 12), (1, 12), (2, 114), (3, 220), (4, 5), (5, 5), (6, 221), (7, 222), (8, 142), (9, 223), (10, 224)], 11, 48, [.sc (.int .u64 0), .sc (.int .u64 0), .sc (.int .u32 0), .sc (.int .u8 0), .sc (.int .u8 0), .sc (.int .u8 0), .sc (.int .u8 0), .sc .nilFunc, .sc (.pointer none), .sc (.int .i32 0), .sc (.int .i32 0)], false⟩
def tb226 : TE := ⟨.agg [(0, 12), (1, 12), (2, 114), (3, 220), (4, 5), (5, 5), (6, 221), (7, 222), (8, 142), (9, 223), (10, 224)], 11, 48, [.sc (.int .u64 0), .sc (.int .u64 0), .sc (.int .u32 0), .sc (.int .u8 0), .sc (.int .u8 0), .sc (.int .u8 0), .sc (.int .u8 0), .sc .nilFunc, .sc (.pointer none), .sc (.int .i32 0), .sc (.int .i32 0)], false⟩
def tbNo : TE := ⟨.other, 0, 0, [], false⟩
def tb (t : TypeId) : TE := bif Nat.blt t 227 then (bif Nat.blt t 113 then (bif Nat.blt t 56 then (bif Nat.blt t 28 then (bif Nat.blt t 14 then (bif Nat.blt t 7 then (bif Nat.blt t 3 then (bif Nat.blt t 1 then tbNo else (bif Nat.blt t 2 then tb1 else tb2)) else (bif Nat.blt t 5 then (bif Nat.blt t 4 then tb3 else tb4) else (bif Nat.blt t 6 then tb5 else tb6))) else (bif Nat.blt t 10 then (bif Nat.blt t 8 then tb7 else (bif Nat.blt t 9 then tb8 else tb9)) else (bif Nat.blt t 12 then (bif Nat.blt t 11 then tb10 else tb11) else (bif Nat.blt t 13 then tb12 else tb13)))) else (bif Nat.blt t 21 then (bif Nat.blt t 17 then (bif Nat.blt t 15 then tb14 else (bif Nat.blt t 16 then tb15 else tb16)) else (bif Nat.blt t 19 then (bif Nat.blt t 18 then tb17 else tb18) else (bif Nat.blt t 20 then tb19 else tb20))) else (bif Nat.blt t 24 then (bif Nat.blt t 22 then tb21 else (bif Nat.blt t 23 then tb22 else tb23)) else (bif Nat.blt t 26 then (bif Nat.blt t 25 then tb24 else tb25) else (bif Nat.blt t 27 then tb26 else tb27))))) else (bif Nat.blt t 42 then (bif Nat.blt t 35 then (bif Nat.blt t 31 then (bif Nat.blt t 29 then tb28 else (bif Nat.blt t 30 then tb29 else tb30)) else (bif Nat.blt t 33 then (bif Nat.blt t 32 then tb31 else tb32) else (bif Nat.blt t 34 then tb33 else tb34))) else (bif Nat.blt t 38 then (bif Nat.blt t 36 then tb35 else (bif Nat.blt t 37 then tb36 else tb37)) else (bif Nat.blt t 40 then (bif Nat.blt t 39 then tbNo else tb39) else (bif Nat.blt t 41 then tbNo else tb41)))) else (bif Nat.blt t 49 then (bif Nat.blt t 45 then (bif Nat.blt t 43 then tb42 else (bif Nat.blt t 44 then tb43 else tb44)) else (bif Nat.blt t 47 then (bif Nat.blt t 46 then tb45 else tb46) else (bif Nat.blt t 48 then tbNo else tb48))) else (bif Nat.blt t 52 then (bif Nat.blt t 50 then tb49 else (bif Nat.blt t 51 then tb50 else tb51)) else (bif Nat.blt t 54 then (bif Nat.blt t 53 then tb52 else tb53) else (bif Nat.blt t 55 then tbNo else tb55)))))) else (bif Nat.blt t 84 then (bif Nat.blt t 70 then (bif Nat.blt t 63 then (bif Nat.blt t 59 then (bif Nat.blt t 57 then tb56 else (bif Nat.blt t 58 then tb57 else tb58)) else (bif Nat.blt t 61 then (bif Nat.blt t 60 then tb59 else tb60) else (bif Nat.blt t 62 then tb61 else tb62))) else (bif Nat.blt t 66 then (bif Nat.blt t 64 then tb63 else (bif Nat.blt t 65 then tb64 else tb65)) else (bif Nat.blt t 68 then (bif Nat.blt t 67 then tb66 else tbNo) else (bif Nat.blt t 69 then tb68 else tb69)))) else (bif Nat.blt t 77 then (bif Nat.blt t 73 then (bif Nat.blt t 71 then tb70 else (bif Nat.blt t 72 then tb71 else tb72)) else (bif Nat.blt t 75 then (bif Nat.blt t 74 then tb73 else tb74) else (bif Nat.blt t 76 then tb75 else tb76))) else (bif Nat.blt t 80 then (bif Nat.blt t 78 then tb77 else (bif Nat.blt t 79 then tb78 else tb79)) else (bif Nat.blt t 82 then (bif Nat.blt t 81 then tb80 else tb81) else (bif Nat.blt t 83 then tb82 else tb83))))) else (bif Nat.blt t 98 then (bif Nat.blt t 91 then (bif Nat.blt t 87 then (bif Nat.blt t 85 then tb84 else (bif Nat.blt t 86 then tb85 else tb86)) else (bif Nat.blt t 89 then (bif Nat.blt t 88 then tb87 else tb88) else (bif Nat.blt t 90 then tb89 else tb90))) else (bif Nat.blt t 94 then (bif Nat.blt t 92 then tb91 else (bif Nat.blt t 93 then tb92 else tb93)) else (bif Nat.blt t 96 then (bif Nat.blt t 95 then tbNo else tb95) else (bif Nat.blt t 97 then tb96 else tb97)))) else (bif Nat.blt t 105 then (bif Nat.blt t 101 then (bif Nat.blt t 99 then tb98 else (bif Nat.blt t 100 then tb99 else tb100)) else (bif Nat.blt t 103 then (bif Nat.blt t 102 then tb101 else tb102) else (bif Nat.blt t 104 then tb103 else tb104))) else (bif Nat.blt t 109 then (bif Nat.blt t 107 then (bif Nat.blt t 106 then tb105 else tb106) else (bif Nat.blt t 108 then tb107 else tb108)) else (bif Nat.blt t 111 then (bif Nat.blt t 110 then tbNo else tb110) else (bif Nat.blt t 112 then tb111 else tb112))))))) else (bif Nat.blt t 170 then (bif Nat.blt t 141 then (bif Nat.blt t 127 then (bif Nat.blt t 120 then (bif Nat.blt t 116 then (bif Nat.blt t 114 then tb113 else (bif Nat.blt t 115 then tb114 else tb115)) else (bif Nat.blt t 118 then (bif Nat.blt t 117 then tb116 else tb117) else (bif Nat.blt t 119 then tb118 else tb119))) else (bif Nat.blt t 123 then (bif Nat.blt t 121 then tb120 else (bif Nat.blt t 122 then tb121 else tb122)) else (bif Nat.blt t 125 then (bif Nat.blt t 124 then tb123 else tb124) else (bif Nat.blt t 126 then tb125 else tb126)))) else (bif Nat.blt t 134 then (bif Nat.blt t 130 then (bif Nat.blt t 128 then tb127 else (bif Nat.blt t 129 then tb128 else tbNo)) else (bif Nat.blt t 132 then (bif Nat.blt t 131 then tb130 else tbNo) else (bif Nat.blt t 133 then tb132 else tb133))) else (bif Nat.blt t 137 then (bif Nat.blt t 135 then tb134 else (bif Nat.blt t 136 then tb135 else tb136)) else (bif Nat.blt t 139 then (bif Nat.blt t 138 then tb137 else tb138) else (bif Nat.blt t 140 then tb139 else tb140))))) else (bif Nat.blt t 155 then (bif Nat.blt t 148 then (bif Nat.blt t 144 then (bif Nat.blt t 142 then tb141 else (bif Nat.blt t 143 then tb142 else tb143)) else (bif Nat.blt t 146 then (bif Nat.blt t 145 then tb144 else tb145) else (bif Nat.blt t 147 then tb146 else tbNo))) else (bif Nat.blt t 151 then (bif Nat.blt t 149 then tb148 else (bif Nat.blt t 150 then tb149 else tb150)) else (bif Nat.blt t 153 then (bif Nat.blt t 152 then tb151 else tb152) else (bif Nat.blt t 154 then tb153 else tb154)))) else (bif Nat.blt t 162 then (bif Nat.blt t 158 then (bif Nat.blt t 156 then tb155 else (bif Nat.blt t 157 then tb156 else tb157)) else (bif Nat.blt t 160 then (bif Nat.blt t 159 then tb158 else tbNo) else (bif Nat.blt t 161 then tb160 else tb161))) else (bif Nat.blt t 166 then (bif Nat.blt t 164 then (bif Nat.blt t 163 then tb162 else tb163) else (bif Nat.blt t 165 then tb164 else tbNo)) else (bif Nat.blt t 168 then (bif Nat.blt t 167 then tb166 else tb167) else (bif Nat.blt t 169 then tb168 else tb169)))))) else (bif Nat.blt t 198 then (bif Nat.blt t 184 then (bif Nat.blt t 177 then (bif Nat.blt t 173 then (bif Nat.blt t 171 then tb170 else (bif Nat.blt t 172 then tb171 else tb172)) else (bif Nat.blt t 175 then (bif Nat.blt t 174 then tb173 else tb174) else (bif Nat.blt t 176 then tb175 else tb176))) else (bif Nat.blt t 180 then (bif Nat.blt t 178 then tb177 else (bif Nat.blt t 179 then tbNo else tb179)) else (bif Nat.blt t 182 then (bif Nat.blt t 181 then tb180 else tb181) else (bif Nat.blt t 183 then tb182 else tb183)))) else (bif Nat.blt t 191 then (bif Nat.blt t 187 then (bif Nat.blt t 185 then tb184 else (bif Nat.blt t 186 then tb185 else tb186)) else (bif Nat.blt t 189 then (bif Nat.blt t 188 then tb187 else tb188) else (bif Nat.blt t 190 then tb189 else tb190))) else (bif Nat.blt t 194 then (bif Nat.blt t 192 then tb191 else (bif Nat.blt t 193 then tb192 else tb193)) else (bif Nat.blt t 196 then (bif Nat.blt t 195 then tb194 else tb195) else (bif Nat.blt t 197 then tb196 else tb197))))) else (bif Nat.blt t 212 then (bif Nat.blt t 205 then (bif Nat.blt t 201 then (bif Nat.blt t 199 then tb198 else (bif Nat.blt t 200 then tb199 else tb200)) else (bif Nat.blt t 203 then (bif Nat.blt t 202 then tb201 else tb202) else (bif Nat.blt t 204 then tb203 else tb204))) else (bif Nat.blt t 208 then (bif Nat.blt t 206 then tb205 else (bif Nat.blt t 207 then tb206 else tb207)) else (bif Nat.blt t 210 then (bif Nat.blt t 209 then tb208 else tb209) else (bif Nat.blt t 211 then tb210 else tb211)))) else (bif Nat.blt t 219 then (bif Nat.blt t 215 then (bif Nat.blt t 213 then tb212 else (bif Nat.blt t 214 then tb213 else tb214)) else (bif Nat.blt t 217 then (bif Nat.blt t 216 then tb215 else tb216) else (bif Nat.blt t 218 then tb217 else tb218))) else (bif Nat.blt t 223 then (bif Nat.blt t 221 then (bif Nat.blt t 220 then tb219 else tb220) else (bif Nat.blt t 222 then tb221 else tb222)) else (bif Nat.blt t 225 then (bif Nat.blt t 224 then tb223 else tb224) else (bif Nat.blt t 226 then tb225 else tb226)))))))) else tbNo
def tbRows : List Nat := [1, 2, 3, 4, 5, 6, 7, 8, 9, 10, 11, 12, 13, 14, 15, 16, 17, 18, 19, 20, 21, 22, 23, 24, 25, 26, 27, 28, 29, 30, 31, 32, 33, 34, 35, 36, 37, 39, 41, 42, 43, 44, 45, 46, 48, 49, 50, 51, 52, 53, 55, 56, 57, 58, 59, 60, 61, 62, 63, 64, 65, 66, 68, 69, 70, 71, 72, 73, 74, 75, 76, 77, 78, 79, 80, 81, 82, 83, 84, 85, 86, 87, 88, 89, 90, 91, 92, 93, 95, 96, 97, 98, 99, 100, 101, 102, 103, 104, 105, 106, 107, 108, 110, 111, 112, 113, 114, 115, 116, 117, 118, 119, 120, 121, 122, 123, 124, 125, 126, 127, 128, 130, 132, 133, 134, 135, 136, 137, 138, 139, 140, 141, 142, 143, 144, 145, 146, 148, 149, 150, 151, 152, 153, 154, 155, 156, 157, 158, 160, 161, 162, 163, 164, 166, 167, 168, 169, 170, 171, 172, 173, 174, 175, 176, 177, 179, 180, 181, 182, 183, 184, 185, 186, 187, 188, 189, 190, 191, 192, 193, 194, 195, 196, 197, 198, 199, 200, 201, 202, 203, 204, 205, 206, 207, 208, 209, 210, 211, 212, 213, 214, 215, 216, 217, 218, 219, 220, 221, 222, 223, 224, 225, 226]
theorem tb_rows : tbRows.map tb = tbRows.map (tabOf Tryd.prog) := by kernel_rfl
theorem tb_holes : ((List.range 227).all fun t => tbRows.contains t || (match (tb t).k with | .other => true | _ => false)) = true := by kernel_rfl
theorem tb_ok : TOk Tryd.prog tb := by
  refine ⟨fun t => ?_⟩
  by_cases ht : t < 227
  · have h := List.all_eq_true.1 tb_holes t (List.mem_range.2 ht)
    rw [Bool.or_eq_true] at h
    rcases h with h | h
    · left
      have hm : t ∈ tbRows := by simpa using h
      obtain ⟨i, hi, rfl⟩ := List.getElem_of_mem hm
      have e := congrArg (·[i]?) tb_rows
      simpa [hi] using e
    · right
      generalize (tb t).k = k at h
      cases k <;> first | rfl | cases h
  · right
    have hb : Nat.blt t 227 = false := by
      cases hq : Nat.blt t 227 with
      | true => exact absurd (Nat.le_of_ble_eq_true hq) ht
      | false => rfl
    unfold tb
    rw [hb]
    rfl
theorem mixed : Tryd.prog.follows .mixedOrders = true := by kernel_rfl
end Go.Proofs.YtdjjlkekbphbaaaDoor
