/-
  The table of types, written out; that it is the program's.
-/
import Derived.Test.YtiflenddalmfaaaProg
import Derived.Test.YtiflenddalmfaaaVjB
import Derived.KernelRfl
namespace Go.Proofs.Ytiflenddalmfaaa
open Go.RowKit
def tb1 : TE := ⟨.fn, 1, 8, [.sc .nilFunc], false⟩
def tb2 : TE := ⟨.int .i64, 1, 8, [.sc (.int .i64 0)], false⟩
def tb3 : TE := ⟨.int .i64, 1, 8, [.sc (.int .i64 0)], false⟩
def tb4 : TE := ⟨.bool, 1, 1, [.sc (.bool false)], false⟩
def tb5 : TE := ⟨.int .u8, 1, 1, [.sc (.int .u8 0)], false⟩
def tb6 : TE := ⟨.int .u8, 1, 1, [.sc (.int .u8 0)], false⟩
def tb7 : TE := ⟨.agg [(0, 2), (1, 3), (2, 4), (3, 6)], 4, 24, [.sc (.int .i64 0), .sc (.int .i64 0), .sc (.bool false), .sc (.int .u8 0)], true⟩
def tb8 : TE := ⟨.agg [(0, 2), (1, 3), (2, 4), (3, 6)], 4, 24, [.sc (.int .i64 0), .sc (.int .i64 0), .sc (.bool false), .sc (.int .u8 0)], true⟩
def tb9 : TE := ⟨.str, 1, 16, [.sc (.string ByteArray.empty)], false⟩
def tb10 : TE := ⟨.str, 1, 16, [.sc (.string ByteArray.empty)], false⟩
def tb11 : TE := ⟨.str, 1, 16, [.sc (.string ByteArray.empty)], false⟩
def tb12 : TE := ⟨.int .u64, 1, 8, [.sc (.int .u64 0)], false⟩
def tb13 : TE := ⟨.agg [(0, 9), (1, 12)], 2, 24, [.sc (.string ByteArray.empty), .sc (.int .u64 0)], false⟩
def tb14 : TE := ⟨.agg [(0, 9), (1, 12)], 2, 24, [.sc (.string ByteArray.empty), .sc (.int .u64 0)], false⟩
def tb15 : TE := ⟨.ptr, 1, 8, [.sc (.pointer none)], false⟩
def tb16 : TE := ⟨.ptr, 1, 8, [.sc (.pointer none)], false⟩
def tb17 : TE := ⟨.ptr, 1, 8, [.sc (.pointer none)], false⟩
def tb18 : TE := ⟨.agg [(0, 17)], 1, 8, [.sc (.pointer none)], false⟩
def tb19 : TE := ⟨.agg [(0, 17)], 1, 8, [.sc (.pointer none)], false⟩
def tb20 : TE := ⟨.ifc, 1, 16, [.sc .nilIface], false⟩
def tb21 : TE := ⟨.int .i32, 1, 4, [.sc (.int .i32 0)], false⟩
def tb22 : TE := ⟨.sl 42, 1, 24, [.nl], false⟩
def tb23 : TE := ⟨.agg [(0, 3), (1, 22)], 2, 32, [.sc (.int .i64 0), .nl], false⟩
def tb24 : TE := ⟨.agg [(0, 3), (1, 22)], 2, 32, [.sc (.int .i64 0), .nl], false⟩
def tb25 : TE := ⟨.sl 29, 1, 24, [.nl], false⟩
def tb26 : TE := ⟨.agg [(0, 3), (1, 25)], 2, 32, [.sc (.int .i64 0), .nl], false⟩
def tb27 : TE := ⟨.agg [(0, 3), (1, 25)], 2, 32, [.sc (.int .i64 0), .nl], false⟩
def tb28 : TE := ⟨.sl 2, 1, 24, [.nl], false⟩
def tb29 : TE := ⟨.sl 2, 1, 24, [.nl], false⟩
def tb30 : TE := ⟨.fn, 1, 8, [.sc .nilFunc], false⟩
def tb31 : TE := ⟨.fn, 1, 8, [.sc .nilFunc], false⟩
def tb32 : TE := ⟨.int .i64, 1, 8, [.sc (.int .i64 0)], false⟩
def tb34 : TE := ⟨.fn, 1, 8, [.sc .nilFunc], false⟩
def tb36 : TE := ⟨.fn, 1, 8, [.sc .nilFunc], false⟩
def tb37 : TE := ⟨.fn, 1, 8, [.sc .nilFunc], false⟩
def tb38 : TE := ⟨.fn, 1, 8, [.sc .nilFunc], false⟩
def tb39 : TE := ⟨.fn, 1, 8, [.sc .nilFunc], false⟩
def tb40 : TE := ⟨.fn, 1, 8, [.sc .nilFunc], false⟩
def tb41 : TE := ⟨.agg [(0, 3), (1, 4)], 2, 16, [.sc (.int .i64 0), .sc (.bool false)], true⟩
def tb42 : TE := ⟨.agg [(0, 3), (1, 4)], 2, 16, [.sc (.int .i64 0), .sc (.bool false)], true⟩
def tb43 : TE := ⟨.fn, 1, 8, [.sc .nilFunc], false⟩
def tb44 : TE := ⟨.sl 3, 1, 24, [.nl], false⟩
def tb46 : TE := ⟨.fn, 1, 8, [.sc .nilFunc], false⟩
def tb47 : TE := ⟨.sl 27, 1, 24, [.nl], false⟩
def tb48 : TE := ⟨.sl 61, 1, 24, [.nl], false⟩
def tb49 : TE := ⟨.agg [(0, 28), (1, 47), (2, 48), (3, 3), (4, 3), (5, 3)], 6, 96, [.nl, .nl, .nl, .sc (.int .i64 0), .sc (.int .i64 0), .sc (.int .i64 0)], false⟩
def tb50 : TE := ⟨.agg [(0, 28), (1, 47), (2, 48), (3, 3), (4, 3), (5, 3)], 6, 96, [.nl, .nl, .nl, .sc (.int .i64 0), .sc (.int .i64 0), .sc (.int .i64 0)], false⟩
def tb51 : TE := ⟨.fn, 1, 8, [.sc .nilFunc], false⟩
def tb52 : TE := ⟨.fn, 1, 8, [.sc .nilFunc], false⟩
def tb53 : TE := ⟨.fn, 1, 8, [.sc .nilFunc], false⟩
def tb54 : TE := ⟨.fn, 1, 8, [.sc .nilFunc], false⟩
def tb55 : TE := ⟨.fn, 1, 8, [.sc .nilFunc], false⟩
def tb56 : TE := ⟨.fn, 1, 8, [.sc .nilFunc], false⟩
def tb57 : TE := ⟨.fn, 1, 8, [.sc .nilFunc], false⟩
def tb58 : TE := ⟨.fn, 1, 8, [.sc .nilFunc], false⟩
def tb59 : TE := ⟨.fn, 1, 8, [.sc .nilFunc], false⟩
def tb60 : TE := ⟨.agg [(0, 3), (1, 3), (2, 3), (3, 28)], 4, 48, [.sc (.int .i64 0), .sc (.int .i64 0), .sc (.int .i64 0), .nl], false⟩
def tb61 : TE := ⟨.agg [(0, 3), (1, 3), (2, 3), (3, 28)], 4, 48, [.sc (.int .i64 0), .sc (.int .i64 0), .sc (.int .i64 0), .nl], false⟩
def tb62 : TE := ⟨.fn, 1, 8, [.sc .nilFunc], false⟩
def tb63 : TE := ⟨.fn, 1, 8, [.sc .nilFunc], false⟩
def tb64 : TE := ⟨.fn, 1, 8, [.sc .nilFunc], false⟩
def tb65 : TE := ⟨.int .u64, 1, 8, [.sc (.int .u64 0)], false⟩
def tb66 : TE := ⟨.fn, 1, 8, [.sc .nilFunc], false⟩
def tb67 : TE := ⟨.fn, 1, 8, [.sc .nilFunc], false⟩
def tb68 : TE := ⟨.agg [(0, 17), (1, 17), (2, 17), (3, 9)], 4, 40, [.sc (.pointer none), .sc (.pointer none), .sc (.pointer none), .sc (.string ByteArray.empty)], false⟩
def tb69 : TE := ⟨.agg [(0, 17), (1, 17), (2, 17), (3, 9)], 4, 40, [.sc (.pointer none), .sc (.pointer none), .sc (.pointer none), .sc (.string ByteArray.empty)], false⟩
def tb70 : TE := ⟨.arr 0 16, 0, 0, [], false⟩
def tb71 : TE := ⟨.agg [(0, 70)], 0, 0, [], false⟩
def tb72 : TE := ⟨.agg [(0, 70)], 0, 0, [], false⟩
def tb73 : TE := ⟨.fn, 1, 8, [.sc .nilFunc], false⟩
def tb74 : TE := ⟨.int .u32, 1, 4, [.sc (.int .u32 0)], false⟩
def tb75 : TE := ⟨.int .u8, 1, 1, [.sc (.int .u8 0)], false⟩
def tb76 : TE := ⟨.int .u8, 1, 1, [.sc (.int .u8 0)], false⟩
def tb77 : TE := ⟨.fn, 1, 8, [.sc .nilFunc], false⟩
def tb78 : TE := ⟨.ptr, 1, 8, [.sc (.pointer none)], false⟩
def tb79 : TE := ⟨.int .i32, 1, 4, [.sc (.int .i32 0)], false⟩
def tb80 : TE := ⟨.int .i32, 1, 4, [.sc (.int .i32 0)], false⟩
def tb81 : TE := ⟨.agg [(0, 12), (1, 12), (2, 74), (3, 75), (4, 5), (5, 5), (6, 76), (7, 77), (8, 78), (9, 79), (10, 80)], 11, 48, [.sc (.int .u64 0), .sc (.int .u64 0), .sc (.int .u32 0), .sc (.int .u8 0), .sc (.int .u8 0), .sc (.int .u8 0), .sc (.int .u8 0), .sc .nilFunc, .sc (.pointer none), .sc (.int .i32 0), .sc (.int .i32 0)], false⟩
def tb82 : TE := ⟨.agg [(0, 12), (1, 12), (2, 74), (3, 75), (4, 5), (5, 5), (6, 76), (7, 77), (8, 78), (9, 79), (10, 80)], 11, 48, [.sc (.int .u64 0), .sc (.int .u64 0), .sc (.int .u32 0), .sc (.int .u8 0), .sc (.int .u8 0), .sc (.int .u8 0), .sc (.int .u8 0), .sc .nilFunc, .sc (.pointer none), .sc (.int .i32 0), .sc (.int .i32 0)], false⟩
def tbNo : TE := ⟨.other, 0, 0, [], false⟩
def tb (t : TypeId) : TE := bif Nat.blt t 84 then (bif Nat.blt t 42 then (bif Nat.blt t 21 then (bif Nat.blt t 10 then (bif Nat.blt t 5 then (bif Nat.blt t 2 then (bif Nat.blt t 1 then tbNo else tb1) else (bif Nat.blt t 3 then tb2 else (bif Nat.blt t 4 then tb3 else tb4))) else (bif Nat.blt t 7 then (bif Nat.blt t 6 then tb5 else tb6) else (bif Nat.blt t 8 then tb7 else (bif Nat.blt t 9 then tb8 else tb9)))) else (bif Nat.blt t 15 then (bif Nat.blt t 12 then (bif Nat.blt t 11 then tb10 else tb11) else (bif Nat.blt t 13 then tb12 else (bif Nat.blt t 14 then tb13 else tb14))) else (bif Nat.blt t 18 then (bif Nat.blt t 16 then tb15 else (bif Nat.blt t 17 then tb16 else tb17)) else (bif Nat.blt t 19 then tb18 else (bif Nat.blt t 20 then tb19 else tb20))))) else (bif Nat.blt t 31 then (bif Nat.blt t 26 then (bif Nat.blt t 23 then (bif Nat.blt t 22 then tb21 else tb22) else (bif Nat.blt t 24 then tb23 else (bif Nat.blt t 25 then tb24 else tb25))) else (bif Nat.blt t 28 then (bif Nat.blt t 27 then tb26 else tb27) else (bif Nat.blt t 29 then tb28 else (bif Nat.blt t 30 then tb29 else tb30)))) else (bif Nat.blt t 36 then (bif Nat.blt t 33 then (bif Nat.blt t 32 then tb31 else tb32) else (bif Nat.blt t 34 then tbNo else (bif Nat.blt t 35 then tb34 else tbNo))) else (bif Nat.blt t 39 then (bif Nat.blt t 37 then tb36 else (bif Nat.blt t 38 then tb37 else tb38)) else (bif Nat.blt t 40 then tb39 else (bif Nat.blt t 41 then tb40 else tb41)))))) else (bif Nat.blt t 63 then (bif Nat.blt t 52 then (bif Nat.blt t 47 then (bif Nat.blt t 44 then (bif Nat.blt t 43 then tb42 else tb43) else (bif Nat.blt t 45 then tb44 else (bif Nat.blt t 46 then tbNo else tb46))) else (bif Nat.blt t 49 then (bif Nat.blt t 48 then tb47 else tb48) else (bif Nat.blt t 50 then tb49 else (bif Nat.blt t 51 then tb50 else tb51)))) else (bif Nat.blt t 57 then (bif Nat.blt t 54 then (bif Nat.blt t 53 then tb52 else tb53) else (bif Nat.blt t 55 then tb54 else (bif Nat.blt t 56 then tb55 else tb56))) else (bif Nat.blt t 60 then (bif Nat.blt t 58 then tb57 else (bif Nat.blt t 59 then tb58 else tb59)) else (bif Nat.blt t 61 then tb60 else (bif Nat.blt t 62 then tb61 else tb62))))) else (bif Nat.blt t 73 then (bif Nat.blt t 68 then (bif Nat.blt t 65 then (bif Nat.blt t 64 then tb63 else tb64) else (bif Nat.blt t 66 then tb65 else (bif Nat.blt t 67 then tb66 else tb67))) else (bif Nat.blt t 70 then (bif Nat.blt t 69 then tb68 else tb69) else (bif Nat.blt t 71 then tb70 else (bif Nat.blt t 72 then tb71 else tb72)))) else (bif Nat.blt t 78 then (bif Nat.blt t 75 then (bif Nat.blt t 74 then tb73 else tb74) else (bif Nat.blt t 76 then tb75 else (bif Nat.blt t 77 then tb76 else tb77))) else (bif Nat.blt t 81 then (bif Nat.blt t 79 then tb78 else (bif Nat.blt t 80 then tb79 else tb80)) else (bif Nat.blt t 82 then tb81 else (bif Nat.blt t 83 then tb82 else tbNo))))))) else tbNo
def tbRows : List Nat := [1, 2, 3, 4, 5, 6, 7, 8, 9, 10, 11, 12, 13, 14, 15, 16, 17, 18, 19, 20, 21, 22, 23, 24, 25, 26, 27, 28, 29, 30, 31, 32, 34, 36, 37, 38, 39, 40, 41, 42, 43, 44, 46, 47, 48, 49, 50, 51, 52, 53, 54, 55, 56, 57, 58, 59, 60, 61, 62, 63, 64, 65, 66, 67, 68, 69, 70, 71, 72, 73, 74, 75, 76, 77, 78, 79, 80, 81, 82]
theorem tb_rows : tbRows.map tb = tbRows.map (tabOf Try.prog) := by kernel_rfl
theorem tb_holes : ((List.range 84).all fun t => tbRows.contains t || (match (tb t).k with | .other => true | _ => false)) = true := by kernel_rfl
theorem tb_ok : TOk Try.prog tb := by
  refine ⟨fun t => ?_⟩
  by_cases ht : t < 84
  · have h := List.all_eq_true.1 tb_holes t (List.mem_range.2 ht)
    rw [Bool.or_eq_true] at h
    rcases h with h | h
    · left
      have hm : t ∈ tbRows := by simpa using h
      obtain ⟨i, hi, rfl⟩ := List.getElem_of_mem hm
      have e := congrArg (·[i]?) tb_rows
      simpa [hi] using e
    · right
      generalize (tb t).k = k at h
      cases k <;> first | rfl | cases h
  · right
    have hb : Nat.blt t 84 = false := by
      cases hq : Nat.blt t 84 with
      | true => exact absurd (Nat.le_of_ble_eq_true hq) ht
      | false => rfl
    unfold tb
    rw [hb]
    rfl
theorem mixed : Try.prog.follows .mixedOrders = true := by kernel_rfl
end Go.Proofs.Ytiflenddalmfaaa
