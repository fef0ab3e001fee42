/-
  The table of types, written out; that it is the program's.
-/
import Derived.Test.YtnodhjlpoaahbaaProg
import Derived.Test.YtnodhjlpoaahbaaVjOp
import Derived.KernelRfl
namespace Go.Proofs.Ytnodhjlpoaahbaa
open Go.RowKit
def tb1 : TE := ⟨.fn, 1, 8, [.sc .nilFunc]⟩
def tb2 : TE := ⟨.int .i64, 1, 8, [.sc (.int .i64 0)]⟩
def tb3 : TE := ⟨.int .i64, 1, 8, [.sc (.int .i64 0)]⟩
def tb4 : TE := ⟨.bool, 1, 1, [.sc (.bool false)]⟩
def tb5 : TE := ⟨.int .u8, 1, 1, [.sc (.int .u8 0)]⟩
def tb6 : TE := ⟨.int .u8, 1, 1, [.sc (.int .u8 0)]⟩
def tb7 : TE := ⟨.agg [(0, 2), (1, 3), (2, 4), (3, 6)], 4, 24, [.sc (.int .i64 0), .sc (.int .i64 0), .sc (.bool false), .sc (.int .u8 0)]⟩
def tb8 : TE := ⟨.agg [(0, 2), (1, 3), (2, 4), (3, 6)], 4, 24, [.sc (.int .i64 0), .sc (.int .i64 0), .sc (.bool false), .sc (.int .u8 0)]⟩
def tb9 : TE := ⟨.str, 1, 16, [.sc (.string ByteArray.empty)]⟩
def tb10 : TE := ⟨.str, 1, 16, [.sc (.string ByteArray.empty)]⟩
def tb11 : TE := ⟨.str, 1, 16, [.sc (.string ByteArray.empty)]⟩
def tb12 : TE := ⟨.int .u64, 1, 8, [.sc (.int .u64 0)]⟩
def tb13 : TE := ⟨.agg [(0, 9), (1, 12)], 2, 24, [.sc (.string ByteArray.empty), .sc (.int .u64 0)]⟩
def tb14 : TE := ⟨.agg [(0, 9), (1, 12)], 2, 24, [.sc (.string ByteArray.empty), .sc (.int .u64 0)]⟩
def tb15 : TE := ⟨.ptr, 1, 8, [.sc (.pointer none)]⟩
def tb16 : TE := ⟨.ptr, 1, 8, [.sc (.pointer none)]⟩
def tb17 : TE := ⟨.ptr, 1, 8, [.sc (.pointer none)]⟩
def tb18 : TE := ⟨.agg [(0, 17)], 1, 8, [.sc (.pointer none)]⟩
def tb19 : TE := ⟨.agg [(0, 17)], 1, 8, [.sc (.pointer none)]⟩
def tb21 : TE := ⟨.int .i32, 1, 4, [.sc (.int .i32 0)]⟩
def tb22 : TE := ⟨.sl 36, 1, 24, [.nl]⟩
def tb23 : TE := ⟨.fn, 1, 8, [.sc .nilFunc]⟩
def tb24 : TE := ⟨.ptr, 1, 8, [.sc (.pointer none)]⟩
def tb25 : TE := ⟨.int .i64, 1, 8, [.sc (.int .i64 0)]⟩
def tb27 : TE := ⟨.fn, 1, 8, [.sc .nilFunc]⟩
def tb28 : TE := ⟨.fn, 1, 8, [.sc .nilFunc]⟩
def tb29 : TE := ⟨.ptr, 1, 8, [.sc (.pointer none)]⟩
def tb30 : TE := ⟨.sl 98, 1, 24, [.nl]⟩
def tb31 : TE := ⟨.agg [(0, 3), (1, 30)], 2, 32, [.sc (.int .i64 0), .nl]⟩
def tb32 : TE := ⟨.agg [(0, 3), (1, 30)], 2, 32, [.sc (.int .i64 0), .nl]⟩
def tb33 : TE := ⟨.fn, 1, 8, [.sc .nilFunc]⟩
def tb34 : TE := ⟨.int .u64, 1, 8, [.sc (.int .u64 0)]⟩
def tb35 : TE := ⟨.agg [(0, 3), (1, 3), (2, 9), (3, 34)], 4, 40, [.sc (.int .i64 0), .sc (.int .i64 0), .sc (.string ByteArray.empty), .sc (.int .u64 0)]⟩
def tb36 : TE := ⟨.agg [(0, 3), (1, 3), (2, 9), (3, 34)], 4, 40, [.sc (.int .i64 0), .sc (.int .i64 0), .sc (.string ByteArray.empty), .sc (.int .u64 0)]⟩
def tb37 : TE := ⟨.fn, 1, 8, [.sc .nilFunc]⟩
def tb38 : TE := ⟨.fn, 1, 8, [.sc .nilFunc]⟩
def tb39 : TE := ⟨.sl 9, 1, 24, [.nl]⟩
def tb41 : TE := ⟨.fn, 1, 8, [.sc .nilFunc]⟩
def tb43 : TE := ⟨.fn, 1, 8, [.sc .nilFunc]⟩
def tb45 : TE := ⟨.fn, 1, 8, [.sc .nilFunc]⟩
def tb46 : TE := ⟨.fn, 1, 8, [.sc .nilFunc]⟩
def tb47 : TE := ⟨.fn, 1, 8, [.sc .nilFunc]⟩
def tb48 : TE := ⟨.fn, 1, 8, [.sc .nilFunc]⟩
def tb49 : TE := ⟨.fn, 1, 8, [.sc .nilFunc]⟩
def tb50 : TE := ⟨.sl 73, 1, 24, [.nl]⟩
def tb51 : TE := ⟨.agg [(0, 3), (1, 50)], 2, 32, [.sc (.int .i64 0), .nl]⟩
def tb52 : TE := ⟨.agg [(0, 3), (1, 50)], 2, 32, [.sc (.int .i64 0), .nl]⟩
def tb53 : TE := ⟨.sl 57, 1, 24, [.nl]⟩
def tb54 : TE := ⟨.agg [(0, 3), (1, 53)], 2, 32, [.sc (.int .i64 0), .nl]⟩
def tb55 : TE := ⟨.agg [(0, 3), (1, 53)], 2, 32, [.sc (.int .i64 0), .nl]⟩
def tb56 : TE := ⟨.sl 2, 1, 24, [.nl]⟩
def tb57 : TE := ⟨.sl 2, 1, 24, [.nl]⟩
def tb58 : TE := ⟨.fn, 1, 8, [.sc .nilFunc]⟩
def tb60 : TE := ⟨.fn, 1, 8, [.sc .nilFunc]⟩
def tb62 : TE := ⟨.fn, 1, 8, [.sc .nilFunc]⟩
def tb63 : TE := ⟨.fn, 1, 8, [.sc .nilFunc]⟩
def tb64 : TE := ⟨.fn, 1, 8, [.sc .nilFunc]⟩
def tb65 : TE := ⟨.fn, 1, 8, [.sc .nilFunc]⟩
def tb66 : TE := ⟨.fn, 1, 8, [.sc .nilFunc]⟩
def tb68 : TE := ⟨.fn, 1, 8, [.sc .nilFunc]⟩
def tb69 : TE := ⟨.fn, 1, 8, [.sc .nilFunc]⟩
def tb70 : TE := ⟨.fn, 1, 8, [.sc .nilFunc]⟩
def tb71 : TE := ⟨.fn, 1, 8, [.sc .nilFunc]⟩
def tb72 : TE := ⟨.agg [(0, 3), (1, 4)], 2, 16, [.sc (.int .i64 0), .sc (.bool false)]⟩
def tb73 : TE := ⟨.agg [(0, 3), (1, 4)], 2, 16, [.sc (.int .i64 0), .sc (.bool false)]⟩
def tb74 : TE := ⟨.sl 3, 1, 24, [.nl]⟩
def tb75 : TE := ⟨.sl 34, 1, 24, [.nl]⟩
def tb76 : TE := ⟨.agg [(0, 3), (1, 39), (2, 75), (3, 74)], 4, 80, [.sc (.int .i64 0), .nl, .nl, .nl]⟩
def tb77 : TE := ⟨.agg [(0, 3), (1, 39), (2, 75), (3, 74)], 4, 80, [.sc (.int .i64 0), .nl, .nl, .nl]⟩
def tb79 : TE := ⟨.fn, 1, 8, [.sc .nilFunc]⟩
def tb80 : TE := ⟨.fn, 1, 8, [.sc .nilFunc]⟩
def tb82 : TE := ⟨.fn, 1, 8, [.sc .nilFunc]⟩
def tb83 : TE := ⟨.fn, 1, 8, [.sc .nilFunc]⟩
def tb84 : TE := ⟨.fn, 1, 8, [.sc .nilFunc]⟩
def tb85 : TE := ⟨.fn, 1, 8, [.sc .nilFunc]⟩
def tb86 : TE := ⟨.fn, 1, 8, [.sc .nilFunc]⟩
def tb87 : TE := ⟨.sl 55, 1, 24, [.nl]⟩
def tb88 : TE := ⟨.sl 102, 1, 24, [.nl]⟩
def tb89 : TE := ⟨.agg [(0, 56), (1, 87), (2, 88), (3, 3), (4, 3), (5, 3)], 6, 96, [.nl, .nl, .nl, .sc (.int .i64 0), .sc (.int .i64 0), .sc (.int .i64 0)]⟩
def tb90 : TE := ⟨.agg [(0, 56), (1, 87), (2, 88), (3, 3), (4, 3), (5, 3)], 6, 96, [.nl, .nl, .nl, .sc (.int .i64 0), .sc (.int .i64 0), .sc (.int .i64 0)]⟩
def tb91 : TE := ⟨.fn, 1, 8, [.sc .nilFunc]⟩
def tb92 : TE := ⟨.fn, 1, 8, [.sc .nilFunc]⟩
def tb93 : TE := ⟨.fn, 1, 8, [.sc .nilFunc]⟩
def tb94 : TE := ⟨.fn, 1, 8, [.sc .nilFunc]⟩
def tb95 : TE := ⟨.fn, 1, 8, [.sc .nilFunc]⟩
def tb96 : TE := ⟨.fn, 1, 8, [.sc .nilFunc]⟩
def tb97 : TE := ⟨.agg [(0, 9), (1, 34)], 2, 24, [.sc (.string ByteArray.empty), .sc (.int .u64 0)]⟩
def tb98 : TE := ⟨.agg [(0, 9), (1, 34)], 2, 24, [.sc (.string ByteArray.empty), .sc (.int .u64 0)]⟩
def tb99 : TE := ⟨.fn, 1, 8, [.sc .nilFunc]⟩
def tb100 : TE := ⟨.fn, 1, 8, [.sc .nilFunc]⟩
def tb101 : TE := ⟨.agg [(0, 3), (1, 3), (2, 3), (3, 56)], 4, 48, [.sc (.int .i64 0), .sc (.int .i64 0), .sc (.int .i64 0), .nl]⟩
def tb102 : TE := ⟨.agg [(0, 3), (1, 3), (2, 3), (3, 56)], 4, 48, [.sc (.int .i64 0), .sc (.int .i64 0), .sc (.int .i64 0), .nl]⟩
def tb103 : TE := ⟨.fn, 1, 8, [.sc .nilFunc]⟩
def tb104 : TE := ⟨.fn, 1, 8, [.sc .nilFunc]⟩
def tb105 : TE := ⟨.fn, 1, 8, [.sc .nilFunc]⟩
def tb106 : TE := ⟨.int .u64, 1, 8, [.sc (.int .u64 0)]⟩
def tb107 : TE := ⟨.fn, 1, 8, [.sc .nilFunc]⟩
def tb108 : TE := ⟨.fn, 1, 8, [.sc .nilFunc]⟩
def tb109 : TE := ⟨.agg [(0, 17), (1, 17), (2, 17), (3, 9)], 4, 40, [.sc (.pointer none), .sc (.pointer none), .sc (.pointer none), .sc (.string ByteArray.empty)]⟩
def tb110 : TE := ⟨.agg [(0, 17), (1, 17), (2, 17), (3, 9)], 4, 40, [.sc (.pointer none), .sc (.pointer none), .sc (.pointer none), .sc (.string ByteArray.empty)]⟩
def tb111 : TE := ⟨.arr 0 16, 0, 0, []⟩
def tb112 : TE := ⟨.agg [(0, 111)], 0, 0, []⟩
def tb113 : TE := ⟨.agg [(0, 111)], 0, 0, []⟩
def tb114 : TE := ⟨.int .u32, 1, 4, [.sc (.int .u32 0)]⟩
def tb115 : TE := ⟨.int .u8, 1, 1, [.sc (.int .u8 0)]⟩
def tb116 : TE := ⟨.int .u8, 1, 1, [.sc (.int .u8 0)]⟩
def tb117 : TE := ⟨.fn, 1, 8, [.sc .nilFunc]⟩
def tb118 : TE := ⟨.ptr, 1, 8, [.sc (.pointer none)]⟩
def tb119 : TE := ⟨.int .i32, 1, 4, [.sc (.int .i32 0)]⟩
def tb120 : TE := ⟨.int .i32, 1, 4, [.sc (.int .i32 0)]⟩
def tb121 : TE := ⟨.agg [(0, 12), (1, 12), (2, 114), (3, 115), (4, 5), (5, 5), (6, 116), (7, 117), (8, 118), (9, 119), (10, 120)], 11, 48, [.sc (.int .u64 0), .sc (.int .u64 0), .sc (.int .u32 0), .sc (.int .u8 0), .sc (.int .u8 0), .sc (.int .u8 0), .sc (.int .u8 0), .sc .nilFunc, .sc (.pointer none), .sc (.int .i32 0), .sc (.int .i32 0)]⟩
def tb122 : TE := ⟨.agg [(0, 12), (1, 12), (2, 114), (3, 115), (4, 5), (5, 5), (6, 116), (7, 117), (8, 118), (9, 119), (10, 120)], 11, 48, [.sc (.int .u64 0), .sc (.int .u64 0), .sc (.int .u32 0), .sc (.int .u8 0), .sc (.int .u8 0), .sc (.int .u8 0), .sc (.int .u8 0), .sc .nilFunc, .sc (.pointer none), .sc (.int .i32 0), .sc (.int .i32 0)]⟩
def tbNo : TE := ⟨.other, 0, 0, []⟩
def tb (t : TypeId) : TE := bif Nat.blt t 124 then (bif Nat.blt t 62 then (bif Nat.blt t 31 then (bif Nat.blt t 15 then (bif Nat.blt t 7 then (bif Nat.blt t 3 then (bif Nat.blt t 1 then tbNo else (bif Nat.blt t 2 then tb1 else tb2)) else (bif Nat.blt t 5 then (bif Nat.blt t 4 then tb3 else tb4) else (bif Nat.blt t 6 then tb5 else tb6))) else (bif Nat.blt t 11 then (bif Nat.blt t 9 then (bif Nat.blt t 8 then tb7 else tb8) else (bif Nat.blt t 10 then tb9 else tb10)) else (bif Nat.blt t 13 then (bif Nat.blt t 12 then tb11 else tb12) else (bif Nat.blt t 14 then tb13 else tb14)))) else (bif Nat.blt t 23 then (bif Nat.blt t 19 then (bif Nat.blt t 17 then (bif Nat.blt t 16 then tb15 else tb16) else (bif Nat.blt t 18 then tb17 else tb18)) else (bif Nat.blt t 21 then (bif Nat.blt t 20 then tb19 else tbNo) else (bif Nat.blt t 22 then tb21 else tb22))) else (bif Nat.blt t 27 then (bif Nat.blt t 25 then (bif Nat.blt t 24 then tb23 else tb24) else (bif Nat.blt t 26 then tb25 else tbNo)) else (bif Nat.blt t 29 then (bif Nat.blt t 28 then tb27 else tb28) else (bif Nat.blt t 30 then tb29 else tb30))))) else (bif Nat.blt t 46 then (bif Nat.blt t 38 then (bif Nat.blt t 34 then (bif Nat.blt t 32 then tb31 else (bif Nat.blt t 33 then tb32 else tb33)) else (bif Nat.blt t 36 then (bif Nat.blt t 35 then tb34 else tb35) else (bif Nat.blt t 37 then tb36 else tb37))) else (bif Nat.blt t 42 then (bif Nat.blt t 40 then (bif Nat.blt t 39 then tb38 else tb39) else (bif Nat.blt t 41 then tbNo else tb41)) else (bif Nat.blt t 44 then (bif Nat.blt t 43 then tbNo else tb43) else (bif Nat.blt t 45 then tbNo else tb45)))) else (bif Nat.blt t 54 then (bif Nat.blt t 50 then (bif Nat.blt t 48 then (bif Nat.blt t 47 then tb46 else tb47) else (bif Nat.blt t 49 then tb48 else tb49)) else (bif Nat.blt t 52 then (bif Nat.blt t 51 then tb50 else tb51) else (bif Nat.blt t 53 then tb52 else tb53))) else (bif Nat.blt t 58 then (bif Nat.blt t 56 then (bif Nat.blt t 55 then tb54 else tb55) else (bif Nat.blt t 57 then tb56 else tb57)) else (bif Nat.blt t 60 then (bif Nat.blt t 59 then tb58 else tbNo) else (bif Nat.blt t 61 then tb60 else tbNo)))))) else (bif Nat.blt t 93 then (bif Nat.blt t 77 then (bif Nat.blt t 69 then (bif Nat.blt t 65 then (bif Nat.blt t 63 then tb62 else (bif Nat.blt t 64 then tb63 else tb64)) else (bif Nat.blt t 67 then (bif Nat.blt t 66 then tb65 else tb66) else (bif Nat.blt t 68 then tbNo else tb68))) else (bif Nat.blt t 73 then (bif Nat.blt t 71 then (bif Nat.blt t 70 then tb69 else tb70) else (bif Nat.blt t 72 then tb71 else tb72)) else (bif Nat.blt t 75 then (bif Nat.blt t 74 then tb73 else tb74) else (bif Nat.blt t 76 then tb75 else tb76)))) else (bif Nat.blt t 85 then (bif Nat.blt t 81 then (bif Nat.blt t 79 then (bif Nat.blt t 78 then tb77 else tbNo) else (bif Nat.blt t 80 then tb79 else tb80)) else (bif Nat.blt t 83 then (bif Nat.blt t 82 then tbNo else tb82) else (bif Nat.blt t 84 then tb83 else tb84))) else (bif Nat.blt t 89 then (bif Nat.blt t 87 then (bif Nat.blt t 86 then tb85 else tb86) else (bif Nat.blt t 88 then tb87 else tb88)) else (bif Nat.blt t 91 then (bif Nat.blt t 90 then tb89 else tb90) else (bif Nat.blt t 92 then tb91 else tb92))))) else (bif Nat.blt t 108 then (bif Nat.blt t 100 then (bif Nat.blt t 96 then (bif Nat.blt t 94 then tb93 else (bif Nat.blt t 95 then tb94 else tb95)) else (bif Nat.blt t 98 then (bif Nat.blt t 97 then tb96 else tb97) else (bif Nat.blt t 99 then tb98 else tb99))) else (bif Nat.blt t 104 then (bif Nat.blt t 102 then (bif Nat.blt t 101 then tb100 else tb101) else (bif Nat.blt t 103 then tb102 else tb103)) else (bif Nat.blt t 106 then (bif Nat.blt t 105 then tb104 else tb105) else (bif Nat.blt t 107 then tb106 else tb107)))) else (bif Nat.blt t 116 then (bif Nat.blt t 112 then (bif Nat.blt t 110 then (bif Nat.blt t 109 then tb108 else tb109) else (bif Nat.blt t 111 then tb110 else tb111)) else (bif Nat.blt t 114 then (bif Nat.blt t 113 then tb112 else tb113) else (bif Nat.blt t 115 then tb114 else tb115))) else (bif Nat.blt t 120 then (bif Nat.blt t 118 then (bif Nat.blt t 117 then tb116 else tb117) else (bif Nat.blt t 119 then tb118 else tb119)) else (bif Nat.blt t 122 then (bif Nat.blt t 121 then tb120 else tb121) else (bif Nat.blt t 123 then tb122 else tbNo))))))) else tbNo
def tbRows : List Nat := [1, 2, 3, 4, 5, 6, 7, 8, 9, 10, 11, 12, 13, 14, 15, 16, 17, 18, 19, 21, 22, 23, 24, 25, 27, 28, 29, 30, 31, 32, 33, 34, 35, 36, 37, 38, 39, 41, 43, 45, 46, 47, 48, 49, 50, 51, 52, 53, 54, 55, 56, 57, 58, 60, 62, 63, 64, 65, 66, 68, 69, 70, 71, 72, 73, 74, 75, 76, 77, 79, 80, 82, 83, 84, 85, 86, 87, 88, 89, 90, 91, 92, 93, 94, 95, 96, 97, 98, 99, 100, 101, 102, 103, 104, 105, 106, 107, 108, 109, 110, 111, 112, 113, 114, 115, 116, 117, 118, 119, 120, 121, 122]
theorem tb_rows : tbRows.map tb = tbRows.map (tabOf Try.prog) := by kernel_rfl
theorem tb_holes : ((List.range 124).all fun t => tbRows.contains t || (match (tb t).k with | .other => true | _ => false)) = true := by kernel_rfl
theorem tb_ok : TOk Try.prog tb := by
  refine ⟨fun t => ?_⟩
  by_cases ht : t < 124
  · have h := List.all_eq_true.1 tb_holes t (List.mem_range.2 ht)
    rw [Bool.or_eq_true] at h
    rcases h with h | h
    · left
      have hm : t ∈ tbRows := by simpa using h
      obtain ⟨i, hi, rfl⟩ := List.getElem_of_mem hm
      have e := congrArg (·[i]?) tb_rows
      simpa [hi] using e
    · right
      generalize (tb t).k = k at h
      cases k <;> first | rfl | cases h
  · right
    have hb : Nat.blt t 124 = false := by
      cases hq : Nat.blt t 124 with
      | true => exact absurd (Nat.le_of_ble_eq_true hq) ht
      | false => rfl
    unfold tb
    rw [hb]
    rfl
theorem mixed : Try.prog.follows .mixedOrders = true := by kernel_rfl
end Go.Proofs.Ytnodhjlpoaahbaa
