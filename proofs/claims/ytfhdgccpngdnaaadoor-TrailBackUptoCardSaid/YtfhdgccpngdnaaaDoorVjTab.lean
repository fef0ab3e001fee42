/-
  The table of types, written out; that it is the program's.
-/
import Derived.Test.YtfhdgccpngdnaaaDoorProg
import Derived.Test.YtfhdgccpngdnaaaDoorVjB
import Derived.KernelRfl
namespace Go.Proofs.YtfhdgccpngdnaaaDoor
open Go.RowKit
def tb1 : TE := ⟨.fn, 1, 8, [.sc .nilFunc], false⟩
def tb2 : TE := ⟨.int .i64, 1, 8, [.sc (.int .i64 0)], false⟩
def tb3 : TE := ⟨.int .i64, 1, 8, [.sc (.int .i64 0)], false⟩
def tb4 : TE := ⟨.bool, 1, 1, [.sc (.bool false)], false⟩
def tb5 : TE := ⟨.int .u8, 1, 1, [.sc (.int .u8 0)], false⟩
def tb6 : TE := ⟨.int .u8, 1, 1, [.sc (.int .u8 0)], false⟩
def tb7 : TE := ⟨.agg [(0, 2), (1, 3), (2, 4), (3, 6)], 4, 24, [.sc (.int .i64 0), .sc (.int .i64 0), .sc (.bool false), .sc (.int .u8 0)], true⟩
def tb8 : TE := ⟨.agg [(0, 2), (1, 3), (2, 4), (3, 6)], 4, 24, [.sc (.int .i64 0), .sc (.int .i64 0), .sc (.bool false), .sc (.int .u8 0)], true⟩
def tb9 : TE := ⟨.str, 1, 16, [.sc (.string ByteArray.empty)], false⟩
def tb10 : TE := ⟨.str, 1, 16, [.sc (.string ByteArray.empty)], false⟩
def tb11 : TE := ⟨.str, 1, 16, [.sc (.string ByteArray.empty)], false⟩
def tb12 : TE := ⟨.int .u64, 1, 8, [.sc (.int .u64 0)], false⟩
def tb13 : TE := ⟨.agg [(0, 9), (1, 12)], 2, 24, [.sc (.string ByteArray.empty), .sc (.int .u64 0)], false⟩
def tb14 : TE := ⟨.agg [(0, 9), (1, 12)], 2, 24, [.sc (.string ByteArray.empty), .sc (.int .u64 0)], false⟩
def tb15 : TE := ⟨.ptr, 1, 8, [.sc (.pointer none)], false⟩
def tb16 : TE := ⟨.ptr, 1, 8, [.sc (.pointer none)], false⟩
def tb17 : TE := ⟨.ptr, 1, 8, [.sc (.pointer none)], false⟩
def tb18 : TE := ⟨.agg [(0, 17)], 1, 8, [.sc (.pointer none)], false⟩
def tb19 : TE := ⟨.agg [(0, 17)], 1, 8, [.sc (.pointer none)], false⟩
def tb20 : TE := ⟨.ifc, 1, 16, [.sc .nilIface], false⟩
def tb21 : TE := ⟨.int .i32, 1, 4, [.sc (.int .i32 0)], false⟩
def tb22 : TE := ⟨.int .i64, 1, 8, [.sc (.int .i64 0)], false⟩
def tb23 : TE := ⟨.sl 47, 1, 24, [.nl], false⟩
def tb24 : TE := ⟨.agg [(0, 3), (1, 3), (2, 22), (3, 3), (4, 23), (5, 3), (6, 3), (7, 3)], 8, 80, [.sc (.int .i64 0), .sc (.int .i64 0), .sc (.int .i64 0), .sc (.int .i64 0), .nl, .sc (.int .i64 0), .sc (.int .i64 0), .sc (.int .i64 0)], false⟩
def tb25 : TE := ⟨.agg [(0, 3), (1, 3), (2, 22), (3, 3), (4, 23), (5, 3), (6, 3), (7, 3)], 8, 80, [.sc (.int .i64 0), .sc (.int .i64 0), .sc (.int .i64 0), .sc (.int .i64 0), .nl, .sc (.int .i64 0), .sc (.int .i64 0), .sc (.int .i64 0)], false⟩
def tb26 : TE := ⟨.fn, 1, 8, [.sc .nilFunc], false⟩
def tb28 : TE := ⟨.fn, 1, 8, [.sc .nilFunc], false⟩
def tb30 : TE := ⟨.fn, 1, 8, [.sc .nilFunc], false⟩
def tb32 : TE := ⟨.fn, 1, 8, [.sc .nilFunc], false⟩
def tb34 : TE := ⟨.fn, 1, 8, [.sc .nilFunc], false⟩
def tb35 : TE := ⟨.fn, 1, 8, [.sc .nilFunc], false⟩
def tb36 : TE := ⟨.fn, 1, 8, [.sc .nilFunc], false⟩
def tb37 : TE := ⟨.ptr, 1, 8, [.sc (.pointer none)], false⟩
def tb38 : TE := ⟨.sl 5, 1, 24, [.nl], false⟩
def tb39 : TE := ⟨.agg [(0, 37), (1, 38)], 2, 32, [.sc (.pointer none), .nl], false⟩
def tb40 : TE := ⟨.agg [(0, 37), (1, 38)], 2, 32, [.sc (.pointer none), .nl], false⟩
def tb41 : TE := ⟨.ifc, 1, 16, [.sc .nilIface], false⟩
def tb42 : TE := ⟨.ifc, 1, 16, [.sc .nilIface], false⟩
def tb44 : TE := ⟨.fn, 1, 8, [.sc .nilFunc], false⟩
def tb45 : TE := ⟨.fn, 1, 8, [.sc .nilFunc], false⟩
def tb46 : TE := ⟨.agg [(0, 3), (1, 3), (2, 3), (3, 3), (4, 3), (5, 3), (6, 3)], 7, 56, [.sc (.int .i64 0), .sc (.int .i64 0), .sc (.int .i64 0), .sc (.int .i64 0), .sc (.int .i64 0), .sc (.int .i64 0), .sc (.int .i64 0)], true⟩
def tb47 : TE := ⟨.agg [(0, 3), (1, 3), (2, 3), (3, 3), (4, 3), (5, 3), (6, 3)], 7, 56, [.sc (.int .i64 0), .sc (.int .i64 0), .sc (.int .i64 0), .sc (.int .i64 0), .sc (.int .i64 0), .sc (.int .i64 0), .sc (.int .i64 0)], true⟩
def tb48 : TE := ⟨.fn, 1, 8, [.sc .nilFunc], false⟩
def tb49 : TE := ⟨.fn, 1, 8, [.sc .nilFunc], false⟩
def tb50 : TE := ⟨.sl 3, 1, 24, [.nl], false⟩
def tb51 : TE := ⟨.fn, 1, 8, [.sc .nilFunc], false⟩
def tb53 : TE := ⟨.fn, 1, 8, [.sc .nilFunc], false⟩
def tb54 : TE := ⟨.fn, 1, 8, [.sc .nilFunc], false⟩
def tb55 : TE := ⟨.fn, 1, 8, [.sc .nilFunc], false⟩
def tb56 : TE := ⟨.ptr, 1, 8, [.sc (.pointer none)], false⟩
def tb57 : TE := ⟨.fn, 1, 8, [.sc .nilFunc], false⟩
def tb58 : TE := ⟨.sl 9, 1, 24, [.nl], false⟩
def tb59 : TE := ⟨.fn, 1, 8, [.sc .nilFunc], false⟩
def tb61 : TE := ⟨.fn, 1, 8, [.sc .nilFunc], false⟩
def tb62 : TE := ⟨.fn, 1, 8, [.sc .nilFunc], false⟩
def tb64 : TE := ⟨.fn, 1, 8, [.sc .nilFunc], false⟩
def tb66 : TE := ⟨.fn, 1, 8, [.sc .nilFunc], false⟩
def tb67 : TE := ⟨.fn, 1, 8, [.sc .nilFunc], false⟩
def tb68 : TE := ⟨.fn, 1, 8, [.sc .nilFunc], false⟩
def tb69 : TE := ⟨.fn, 1, 8, [.sc .nilFunc], false⟩
def tb70 : TE := ⟨.fn, 1, 8, [.sc .nilFunc], false⟩
def tb71 : TE := ⟨.int .i64, 1, 8, [.sc (.int .i64 0)], false⟩
def tb72 : TE := ⟨.int .u64, 1, 8, [.sc (.int .u64 0)], false⟩
def tb74 : TE := ⟨.fn, 1, 8, [.sc .nilFunc], false⟩
def tb75 : TE := ⟨.int .u64, 1, 8, [.sc (.int .u64 0)], false⟩
def tb76 : TE := ⟨.ptr, 1, 8, [.sc (.pointer none)], false⟩
def tb77 : TE := ⟨.fn, 1, 8, [.sc .nilFunc], false⟩
def tb78 : TE := ⟨.fn, 1, 8, [.sc .nilFunc], false⟩
def tb79 : TE := ⟨.arr 24 5, 24, 24, [.sc (.int .u8 0), .sc (.int .u8 0), .sc (.int .u8 0), .sc (.int .u8 0), .sc (.int .u8 0), .sc (.int .u8 0), .sc (.int .u8 0), .sc (.int .u8 0), .sc (.int .u8 0), .sc (.int .u8 0), .sc (.int .u8 0), .sc (.int .u8 0), .sc (.int .u8 0), .sc (.int .u8 0), .sc (.int .u8 0), .sc (.int .u8 0), .sc (.int .u8 0), .sc (.int .u8 0), .sc (.int .u8 0), .sc (.int .u8 0), .sc (.int .u8 0), .sc (.int .u8 0), .sc (.int .u8 0), .sc (.int .u8 0)], false⟩
def tb80 : TE := ⟨.fn, 1, 8, [.sc .nilFunc], false⟩
def tb81 : TE := ⟨.fn, 1, 8, [.sc .nilFunc], false⟩
def tb83 : TE := ⟨.fn, 1, 8, [.sc .nilFunc], false⟩
def tb84 : TE := ⟨.fn, 1, 8, [.sc .nilFunc], false⟩
def tb86 : TE := ⟨.fn, 1, 8, [.sc .nilFunc], false⟩
def tb87 : TE := ⟨.fn, 1, 8, [.sc .nilFunc], false⟩
def tb88 : TE := ⟨.fn, 1, 8, [.sc .nilFunc], false⟩
def tb89 : TE := ⟨.fn, 1, 8, [.sc .nilFunc], false⟩
def tb90 : TE := ⟨.agg [(0, 9), (1, 9), (2, 42)], 3, 48, [.sc (.string ByteArray.empty), .sc (.string ByteArray.empty), .sc .nilIface], false⟩
def tb91 : TE := ⟨.agg [(0, 9), (1, 9), (2, 42)], 3, 48, [.sc (.string ByteArray.empty), .sc (.string ByteArray.empty), .sc .nilIface], false⟩
def tb92 : TE := ⟨.fn, 1, 8, [.sc .nilFunc], false⟩
def tb93 : TE := ⟨.fn, 1, 8, [.sc .nilFunc], false⟩
def tb94 : TE := ⟨.fn, 1, 8, [.sc .nilFunc], false⟩
def tb95 : TE := ⟨.arr 20 72, 20, 160, [.sc (.int .u64 0), .sc (.int .u64 0), .sc (.int .u64 0), .sc (.int .u64 0), .sc (.int .u64 0), .sc (.int .u64 0), .sc (.int .u64 0), .sc (.int .u64 0), .sc (.int .u64 0), .sc (.int .u64 0), .sc (.int .u64 0), .sc (.int .u64 0), .sc (.int .u64 0), .sc (.int .u64 0), .sc (.int .u64 0), .sc (.int .u64 0), .sc (.int .u64 0), .sc (.int .u64 0), .sc (.int .u64 0), .sc (.int .u64 0)], false⟩
def tb96 : TE := ⟨.int .u32, 1, 4, [.sc (.int .u32 0)], false⟩
def tb97 : TE := ⟨.arr 65 5, 65, 65, [.sc (.int .u8 0), .sc (.int .u8 0), .sc (.int .u8 0), .sc (.int .u8 0), .sc (.int .u8 0), .sc (.int .u8 0), .sc (.int .u8 0), .sc (.int .u8 0), .sc (.int .u8 0), .sc (.int .u8 0), .sc (.int .u8 0), .sc (.int .u8 0), .sc (.int .u8 0), .sc (.int .u8 0), .sc (.int .u8 0), .sc (.int .u8 0), .sc (.int .u8 0), .sc (.int .u8 0), .sc (.int .u8 0), .sc (.int .u8 0), .sc (.int .u8 0), .sc (.int .u8 0), .sc (.int .u8 0), .sc (.int .u8 0), .sc (.int .u8 0), .sc (.int .u8 0), .sc (.int .u8 0), .sc (.int .u8 0), .sc (.int .u8 0), .sc (.int .u8 0), .sc (.int .u8 0), .sc (.int .u8 0), .sc (.int .u8 0), .sc (.int .u8 0), .sc (.int .u8 0), .sc (.int .u8 0), .sc (.int .u8 0), .sc (.int .u8 0), .sc (.int .u8 0), .sc (.int .u8 0), .sc (.int .u8 0), .sc (.int .u8 0), .sc (.int .u8 0), .sc (.int .u8 0), .sc (.int .u8 0), .sc (.int .u8 0), .sc (.int .u8 0), .sc (.int .u8 0), .sc (.int .u8 0), .sc (.int .u8 0), .sc (.int .u8 0), .sc (.int .u8 0), .sc (.int .u8 0), .sc (.int .u8 0), .sc (.int .u8 0), .sc (.int .u8 0), .sc (.int .u8 0), .sc (.int .u8 0), .sc (.int .u8 0), .sc (.int .u8 0), .sc (.int .u8 0), .sc (.int .u8 0), .sc (.int .u8 0), .sc (.int .u8 0), .sc (.int .u8 0)], false⟩
def tb98 : TE := ⟨.fn, 1, 8, [.sc .nilFunc], false⟩
def tb99 : TE := ⟨.fn, 1, 8, [.sc .nilFunc], false⟩
def tb100 : TE := ⟨.ptr, 1, 8, [.sc (.pointer none)], false⟩
def tb101 : TE := ⟨.agg [(0, 9)], 1, 16, [.sc (.string ByteArray.empty)], true⟩
def tb102 : TE := ⟨.agg [(0, 9)], 1, 16, [.sc (.string ByteArray.empty)], true⟩
def tb103 : TE := ⟨.fn, 1, 8, [.sc .nilFunc], false⟩
def tb104 : TE := ⟨.arr 256 5, 256, 256, [.sc (.int .u8 0), .sc (.int .u8 0), .sc (.int .u8 0), .sc (.int .u8 0), .sc (.int .u8 0), .sc (.int .u8 0), .sc (.int .u8 0), .sc (.int .u8 0), .sc (.int .u8 0), .sc (.int .u8 0), .sc (.int .u8 0), .sc (.int .u8 0), .sc (.int .u8 0), .sc (.int .u8 0), .sc (.int .u8 0), .sc (.int .u8 0), .sc (.int .u8 0), .sc (.int .u8 0), .sc (.int .u8 0), .sc (.int .u8 0), .sc (.int .u8 0), .sc (.int .u8 0), .sc (.int .u8 0), .sc (.int .u8 0), .sc (.int .u8 0), .sc (.int .u8 0), .sc (.int .u8 0), .sc (.int .u8 0), .sc (.int .u8 0), .sc (.int .u8 0), .sc (.int .u8 0), .sc (.int .u8 0), .sc (.int .u8 0), .sc (.int .u8 0), .sc (.int .u8 0), .sc (.int .u8 0), .sc (.int .u8 0), .sc (.int .u8 0), .sc (.int .u8 0), .sc (.int .u8 0), .sc (.int .u8 0), .sc (.int .u8 0), .sc (.int .u8 0), .sc (.int .u8 0), .sc (.int .u8 0), .sc (.int .u8 0), .sc (.int .u8 0), .sc (.int .u8 0), .sc (.int .u8 0), .sc (.int .u8 0), .sc (.int .u8 0), .sc (.int .u8 0), .sc (.int .u8 0), .sc (.int .u8 0), .sc (.int .u8 0), .sc (.int .u8 0), .sc (.int .u8 0), .sc (.int .u8 0), .sc (.int .u8 0), .sc (.int .u8 0), .sc (.int .u8 0), .sc (.int .u8 0), .sc (.int .u8 0), .sc (.int .u8 0), .sc (.int .u8 0), .sc (.int .u8 0), .sc (.int .u8 0), .sc (.int .u8 0), .sc (.int .u8 0), .sc (.int .u8 0), .sc (.int .u8 0), .sc (.int .u8 0), .sc (.int .u8 0), .sc (.int .u8 0), .sc (.int .u8 0), .sc (.int .u8 0), .sc (.int .u8 0), .sc (.int .u8 0), .sc (.int .u8 0), .sc (.int .u8 0), .sc (.int .u8 0), .sc (.int .u8 0), .sc (.int .u8 0), .sc (.int .u8 0), .sc (.int .u8 0), .sc (.int .u8 0), .sc (.int .u8 0), .sc (.int .u8 0), .sc (.int .u8 0), .sc (.int .u8 0), .sc (.int .u8 0), .sc (.int .u8 0), .sc (.int .u8 0), .sc (.int .u8 0), .sc (.int .u8 0), .sc (.int .u8 0), .sc (.int .u8 0), .sc (.int .u8 0), .sc (.int .u8 0), .sc (.int .u8 0), .sc (.int .u8 0), .sc (.int .u8 0), .sc (.int .u8 0), .sc (.int .u8 0), .sc (.int .u8 0), .sc (.int .u8 0), .sc (.int .u8 0), .sc (.int .u8 0), .sc (.int .u8 0), .sc (.int .u8 0), .sc (.int .u8 0), .sc (.int .u8 0), .sc (.int .u8 0), .sc (.int .u8 0), .sc (.int .u8 0), .sc (.int .u8 0), .sc (.int .u8 0), .sc (.int .u8 0), .sc (.int .u8 0), .sc (.int .u8 0), .sc (.int .u8 0), .sc (.int .u8 0), .sc (.int .u8 0), .sc (.int .u8 0), .sc (.int .u8 0), .sc (.int .u8 0), .sc (.int .u8 0), .sc (.int .u8 0), .sc (.int .u8 0), .sc (.int .u8 0), .sc (.int .u8 0), .sc (.int .u8 0), .sc (.int .u8 0), .sc (.int .u8 0), .sc (.int .u8 0), .sc (.int .u8 0), .sc (.int .u8 0), .sc (.int .u8 0), .sc (.int .u8 0), .sc (.int .u8 0), .sc (.int .u8 0), .sc (.int .u8 0), .sc (.int .u8 0), .sc (.int .u8 0), .sc (.int .u8 0), .sc (.int .u8 0), .sc (.int .u8 0), .sc (.int .u8 0), .sc (.int .u8 0), .sc (.int .u8 0), .sc (.int .u8 0), .sc (.int .u8 0), .sc (.int .u8 0), .sc (.int .u8 0), .sc (.int .u8 0), .sc (.int .u8 0), .sc (.int .u8 0), .sc (.int .u8 0), .sc (.int .u8 0), .sc (.int .u8 0), .sc (.int .u8 0), .sc (.int .u8 0), .sc (.int .u8 0), .sc (.int .u8 0), .sc (.int .u8 0), .sc (.int .u8 0), .sc (.int .u8 0), .sc (.int .u8 0), .sc (.int .u8 0), .sc (.int .u8 0), .sc (.int .u8 0), .sc (.int .u8 0), .sc (.int .u8 0), .sc (.int .u8 0), .sc (.int .u8 0), .sc (.int .u8 0), .sc (.int .u8 0), .sc (.int .u8 0), .sc (.int .u8 0), .sc (.int .u8 0), .sc (.int .u8 0), .sc (.int .u8 0), .sc (.int .u8 0), .sc (.int .u8 0), .sc (.int .u8 0), .sc (.int .u8 0), .sc (.int .u8 0), .sc (.int .u8 0), .sc (.int .u8 0), .sc (.int .u8 0), .sc (.int .u8 0), .sc (.int .u8 0), .sc (.int .u8 0), .sc (.int .u8 0), .sc (.int .u8 0), .sc (.int .u8 0), .sc (.int .u8 0), .sc (.int .u8 0), .sc (.int .u8 0), .sc (.int .u8 0), .sc (.int .u8 0), .sc (.int .u8 0), .sc (.int .u8 0), .sc (.int .u8 0), .sc (.int .u8 0), .sc (.int .u8 0), .sc (.int .u8 0), .sc (.int .u8 0), .sc (.int .u8 0), .sc (.int .u8 0), .sc (.int .u8 0), .sc (.int .u8 0), .sc (.int .u8 0), .sc (.int .u8 0), .sc (.int .u8 0), .sc (.int .u8 0), .sc (.int .u8 0), .sc (.int .u8 0), .sc (.int .u8 0), .sc (.int .u8 0), .sc (.int .u8 0), .sc (.int .u8 0), .sc (.int .u8 0), .sc (.int .u8 0), .sc (.int .u8 0), .sc (.int .u8 0), .sc (.int .u8 0), .sc (.int .u8 0), .sc (.int .u8 0), .sc (.int .u8 0), .sc (.int .u8 0), .sc (.int .u8 0), .sc (.int .u8 0), .sc (.int .u8 0), .sc (.int .u8 0), .sc (.int .u8 0), .sc (.int .u8 0), .sc (.int .u8 0), .sc (.int .u8 0), .sc (.int .u8 0), .sc (.int .u8 0), .sc (.int .u8 0), .sc (.int .u8 0), .sc (.int .u8 0), .sc (.int .u8 0), .sc (.int .u8 0), .sc (.int .u8 0), .sc (.int .u8 0), .sc (.int .u8 0), .sc (.int .u8 0), .sc (.int .u8 0), .sc (.int .u8 0), .sc (.int .u8 0), .sc (.int .u8 0), .sc (.int .u8 0), .sc (.int .u8 0)], false⟩
def tb105 : TE := ⟨.agg [(0, 5), (1, 5)], 2, 2, [.sc (.int .u8 0), .sc (.int .u8 0)], true⟩
def tb106 : TE := ⟨.agg [(0, 5), (1, 5)], 2, 2, [.sc (.int .u8 0), .sc (.int .u8 0)], true⟩
def tb107 : TE := ⟨.arr 16 106, 32, 32, [.sc (.int .u8 0), .sc (.int .u8 0), .sc (.int .u8 0), .sc (.int .u8 0), .sc (.int .u8 0), .sc (.int .u8 0), .sc (.int .u8 0), .sc (.int .u8 0), .sc (.int .u8 0), .sc (.int .u8 0), .sc (.int .u8 0), .sc (.int .u8 0), .sc (.int .u8 0), .sc (.int .u8 0), .sc (.int .u8 0), .sc (.int .u8 0), .sc (.int .u8 0), .sc (.int .u8 0), .sc (.int .u8 0), .sc (.int .u8 0), .sc (.int .u8 0), .sc (.int .u8 0), .sc (.int .u8 0), .sc (.int .u8 0), .sc (.int .u8 0), .sc (.int .u8 0), .sc (.int .u8 0), .sc (.int .u8 0), .sc (.int .u8 0), .sc (.int .u8 0), .sc (.int .u8 0), .sc (.int .u8 0)], false⟩
def tb109 : TE := ⟨.fn, 1, 8, [.sc .nilFunc], false⟩
def tb110 : TE := ⟨.arr 32 5, 32, 32, [.sc (.int .u8 0), .sc (.int .u8 0), .sc (.int .u8 0), .sc (.int .u8 0), .sc (.int .u8 0), .sc (.int .u8 0), .sc (.int .u8 0), .sc (.int .u8 0), .sc (.int .u8 0), .sc (.int .u8 0), .sc (.int .u8 0), .sc (.int .u8 0), .sc (.int .u8 0), .sc (.int .u8 0), .sc (.int .u8 0), .sc (.int .u8 0), .sc (.int .u8 0), .sc (.int .u8 0), .sc (.int .u8 0), .sc (.int .u8 0), .sc (.int .u8 0), .sc (.int .u8 0), .sc (.int .u8 0), .sc (.int .u8 0), .sc (.int .u8 0), .sc (.int .u8 0), .sc (.int .u8 0), .sc (.int .u8 0), .sc (.int .u8 0), .sc (.int .u8 0), .sc (.int .u8 0), .sc (.int .u8 0)], false⟩
def tb111 : TE := ⟨.arr 64 5, 64, 64, [.sc (.int .u8 0), .sc (.int .u8 0), .sc (.int .u8 0), .sc (.int .u8 0), .sc (.int .u8 0), .sc (.int .u8 0), .sc (.int .u8 0), .sc (.int .u8 0), .sc (.int .u8 0), .sc (.int .u8 0), .sc (.int .u8 0), .sc (.int .u8 0), .sc (.int .u8 0), .sc (.int .u8 0), .sc (.int .u8 0), .sc (.int .u8 0), .sc (.int .u8 0), .sc (.int .u8 0), .sc (.int .u8 0), .sc (.int .u8 0), .sc (.int .u8 0), .sc (.int .u8 0), .sc (.int .u8 0), .sc (.int .u8 0), .sc (.int .u8 0), .sc (.int .u8 0), .sc (.int .u8 0), .sc (.int .u8 0), .sc (.int .u8 0), .sc (.int .u8 0), .sc (.int .u8 0), .sc (.int .u8 0), .sc (.int .u8 0), .sc (.int .u8 0), .sc (.int .u8 0), .sc (.int .u8 0), .sc (.int .u8 0), .sc (.int .u8 0), .sc (.int .u8 0), .sc (.int .u8 0), .sc (.int .u8 0), .sc (.int .u8 0), .sc (.int .u8 0), .sc (.int .u8 0), .sc (.int .u8 0), .sc (.int .u8 0), .sc (.int .u8 0), .sc (.int .u8 0), .sc (.int .u8 0), .sc (.int .u8 0), .sc (.int .u8 0), .sc (.int .u8 0), .sc (.int .u8 0), .sc (.int .u8 0), .sc (.int .u8 0), .sc (.int .u8 0), .sc (.int .u8 0), .sc (.int .u8 0), .sc (.int .u8 0), .sc (.int .u8 0), .sc (.int .u8 0), .sc (.int .u8 0), .sc (.int .u8 0), .sc (.int .u8 0)], false⟩
def tb112 : TE := ⟨.agg [(0, 17), (1, 17), (2, 17), (3, 9)], 4, 40, [.sc (.pointer none), .sc (.pointer none), .sc (.pointer none), .sc (.string ByteArray.empty)], false⟩
def tb113 : TE := ⟨.agg [(0, 17), (1, 17), (2, 17), (3, 9)], 4, 40, [.sc (.pointer none), .sc (.pointer none), .sc (.pointer none), .sc (.string ByteArray.empty)], false⟩
def tb114 : TE := ⟨.arr 0 16, 0, 0, [], false⟩
def tb115 : TE := ⟨.agg [(0, 114)], 0, 0, [], false⟩
def tb116 : TE := ⟨.agg [(0, 114)], 0, 0, [], false⟩
def tb117 : TE := ⟨.fn, 1, 8, [.sc .nilFunc], false⟩
def tb118 : TE := ⟨.int .u8, 1, 1, [.sc (.int .u8 0)], false⟩
def tb119 : TE := ⟨.int .u8, 1, 1, [.sc (.int .u8 0)], false⟩
def tb120 : TE := ⟨.fn, 1, 8, [.sc .nilFunc], false⟩
def tb121 : TE := ⟨.int .i32, 1, 4, [.sc (.int .i32 0)], false⟩
def tb122 : TE := ⟨.int .i32, 1, 4, [.sc (.int .i32 0)], false⟩
def tb123 : TE := ⟨.agg [(0, 12), (1, 12), (2, 96), (3, 118), (4, 5), (5, 5), (6, 119), (7, 120), (8, 56), (9, 121), (10, 122)], 11, 48, [.sc (.int .u64 0), .sc (.int .u64 0), .sc (.int .u32 0), .sc (.int .u8 0), .sc (.int .u8 0), .sc (.int .u8 0), .sc (.int .u8 0), .sc .nilFunc, .sc (.pointer none), .sc (.int .i32 0), .sc (.int .i32 0)], false⟩
def tb124 : TE := ⟨.agg [(0, 12), (1, 12), (2, 96), (3, 118), (4, 5), (5, 5), (6, 119), (7, 120), (8, 56), (9, 121), (10, 122)], 11, 48, [.sc (.int .u64 0), .sc (.int .u64 0), .sc (.int .u32 0), .sc (.int .u8 0), .sc (.int .u8 0), .sc (.int .u8 0), .sc (.int .u8 0), .sc .nilFunc, .sc (.pointer none), .sc (.int .i32 0), .sc (.int .i32 0)], false⟩
def tbNo : TE := ⟨.other, 0, 0, [], false⟩
def tb (t : TypeId) : TE := bif Nat.blt t 125 then (bif Nat.blt t 62 then (bif Nat.blt t 31 then (bif Nat.blt t 15 then (bif Nat.blt t 7 then (bif Nat.blt t 3 then (bif Nat.blt t 1 then tbNo else (bif Nat.blt t 2 then tb1 else tb2)) else (bif Nat.blt t 5 then (bif Nat.blt t 4 then tb3 else tb4) else (bif Nat.blt t 6 then tb5 else tb6))) else (bif Nat.blt t 11 then (bif Nat.blt t 9 then (bif Nat.blt t 8 then tb7 else tb8) else (bif Nat.blt t 10 then tb9 else tb10)) else (bif Nat.blt t 13 then (bif Nat.blt t 12 then tb11 else tb12) else (bif Nat.blt t 14 then tb13 else tb14)))) else (bif Nat.blt t 23 then (bif Nat.blt t 19 then (bif Nat.blt t 17 then (bif Nat.blt t 16 then tb15 else tb16) else (bif Nat.blt t 18 then tb17 else tb18)) else (bif Nat.blt t 21 then (bif Nat.blt t 20 then tb19 else tb20) else (bif Nat.blt t 22 then tb21 else tb22))) else (bif Nat.blt t 27 then (bif Nat.blt t 25 then (bif Nat.blt t 24 then tb23 else tb24) else (bif Nat.blt t 26 then tb25 else tb26)) else (bif Nat.blt t 29 then (bif Nat.blt t 28 then tbNo else tb28) else (bif Nat.blt t 30 then tbNo else tb30))))) else (bif Nat.blt t 46 then (bif Nat.blt t 38 then (bif Nat.blt t 34 then (bif Nat.blt t 32 then tbNo else (bif Nat.blt t 33 then tb32 else tbNo)) else (bif Nat.blt t 36 then (bif Nat.blt t 35 then tb34 else tb35) else (bif Nat.blt t 37 then tb36 else tb37))) else (bif Nat.blt t 42 then (bif Nat.blt t 40 then (bif Nat.blt t 39 then tb38 else tb39) else (bif Nat.blt t 41 then tb40 else tb41)) else (bif Nat.blt t 44 then (bif Nat.blt t 43 then tb42 else tbNo) else (bif Nat.blt t 45 then tb44 else tb45)))) else (bif Nat.blt t 54 then (bif Nat.blt t 50 then (bif Nat.blt t 48 then (bif Nat.blt t 47 then tb46 else tb47) else (bif Nat.blt t 49 then tb48 else tb49)) else (bif Nat.blt t 52 then (bif Nat.blt t 51 then tb50 else tb51) else (bif Nat.blt t 53 then tbNo else tb53))) else (bif Nat.blt t 58 then (bif Nat.blt t 56 then (bif Nat.blt t 55 then tb54 else tb55) else (bif Nat.blt t 57 then tb56 else tb57)) else (bif Nat.blt t 60 then (bif Nat.blt t 59 then tb58 else tb59) else (bif Nat.blt t 61 then tbNo else tb61)))))) else (bif Nat.blt t 93 then (bif Nat.blt t 77 then (bif Nat.blt t 69 then (bif Nat.blt t 65 then (bif Nat.blt t 63 then tb62 else (bif Nat.blt t 64 then tbNo else tb64)) else (bif Nat.blt t 67 then (bif Nat.blt t 66 then tbNo else tb66) else (bif Nat.blt t 68 then tb67 else tb68))) else (bif Nat.blt t 73 then (bif Nat.blt t 71 then (bif Nat.blt t 70 then tb69 else tb70) else (bif Nat.blt t 72 then tb71 else tb72)) else (bif Nat.blt t 75 then (bif Nat.blt t 74 then tbNo else tb74) else (bif Nat.blt t 76 then tb75 else tb76)))) else (bif Nat.blt t 85 then (bif Nat.blt t 81 then (bif Nat.blt t 79 then (bif Nat.blt t 78 then tb77 else tb78) else (bif Nat.blt t 80 then tb79 else tb80)) else (bif Nat.blt t 83 then (bif Nat.blt t 82 then tb81 else tbNo) else (bif Nat.blt t 84 then tb83 else tb84))) else (bif Nat.blt t 89 then (bif Nat.blt t 87 then (bif Nat.blt t 86 then tbNo else tb86) else (bif Nat.blt t 88 then tb87 else tb88)) else (bif Nat.blt t 91 then (bif Nat.blt t 90 then tb89 else tb90) else (bif Nat.blt t 92 then tb91 else tb92))))) else (bif Nat.blt t 109 then (bif Nat.blt t 101 then (bif Nat.blt t 97 then (bif Nat.blt t 95 then (bif Nat.blt t 94 then tb93 else tb94) else (bif Nat.blt t 96 then tb95 else tb96)) else (bif Nat.blt t 99 then (bif Nat.blt t 98 then tb97 else tb98) else (bif Nat.blt t 100 then tb99 else tb100))) else (bif Nat.blt t 105 then (bif Nat.blt t 103 then (bif Nat.blt t 102 then tb101 else tb102) else (bif Nat.blt t 104 then tb103 else tb104)) else (bif Nat.blt t 107 then (bif Nat.blt t 106 then tb105 else tb106) else (bif Nat.blt t 108 then tb107 else tbNo)))) else (bif Nat.blt t 117 then (bif Nat.blt t 113 then (bif Nat.blt t 111 then (bif Nat.blt t 110 then tb109 else tb110) else (bif Nat.blt t 112 then tb111 else tb112)) else (bif Nat.blt t 115 then (bif Nat.blt t 114 then tb113 else tb114) else (bif Nat.blt t 116 then tb115 else tb116))) else (bif Nat.blt t 121 then (bif Nat.blt t 119 then (bif Nat.blt t 118 then tb117 else tb118) else (bif Nat.blt t 120 then tb119 else tb120)) else (bif Nat.blt t 123 then (bif Nat.blt t 122 then tb121 else tb122) else (bif Nat.blt t 124 then tb123 else tb124))))))) else tbNo
def tbRows : List Nat := [1, 2, 3, 4, 5, 6, 7, 8, 9, 10, 11, 12, 13, 14, 15, 16, 17, 18, 19, 20, 21, 22, 23, 24, 25, 26, 28, 30, 32, 34, 35, 36, 37, 38, 39, 40, 41, 42, 44, 45, 46, 47, 48, 49, 50, 51, 53, 54, 55, 56, 57, 58, 59, 61, 62, 64, 66, 67, 68, 69, 70, 71, 72, 74, 75, 76, 77, 78, 79, 80, 81, 83, 84, 86, 87, 88, 89, 90, 91, 92, 93, 94, 95, 96, 97, 98, 99, 100, 101, 102, 103, 104, 105, 106, 107, 109, 110, 111, 112, 113, 114, 115, 116, 117, 118, 119, 120, 121, 122, 123, 124]
theorem tb_rows : tbRows.map tb = tbRows.map (tabOf Tryd.prog) := by kernel_rfl
theorem tb_holes : ((List.range 125).all fun t => tbRows.contains t || (match (tb t).k with | .other => true | _ => false)) = true := by kernel_rfl
theorem tb_ok : TOk Tryd.prog tb := by
  refine ⟨fun t => ?_⟩
  by_cases ht : t < 125
  · have h := List.all_eq_true.1 tb_holes t (List.mem_range.2 ht)
    rw [Bool.or_eq_true] at h
    rcases h with h | h
    · left
      have hm : t ∈ tbRows := by simpa using h
      obtain ⟨i, hi, rfl⟩ := List.getElem_of_mem hm
      have e := congrArg (·[i]?) tb_rows
      simpa [hi] using e
    · right
      generalize (tb t).k = k at h
      cases k <;> first | rfl | cases h
  · right
    have hb : Nat.blt t 125 = false := by
      cases hq : Nat.blt t 125 with
      | true => exact absurd (Nat.le_of_ble_eq_true hq) ht
      | false => rfl
    unfold tb
    rw [hb]
    rfl
theorem mixed : Tryd.prog.follows .mixedOrders = true := by kernel_rfl
end Go.Proofs.YtfhdgccpngdnaaaDoor
