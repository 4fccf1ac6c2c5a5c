/- Closed facts of the program's types and functions, printed by a program (genfx.py). -/
import Derived.Test.YtgmaniiaingjhaaGreatDoorFxC
import Derived.KernelRfl
import Derived.Test.YtgmaniiaingjhaaGreatDoorProg
namespace Go.Dg
open Go Go.Proofs
noncomputable section
noncomputable abbrev P : Program := Tryz.prog
noncomputable def infoOf (t : TypeId) : TypeInfo := (P.info? t).getD default
@[simp] theorem info_2 : P.info? 2 = some (infoOf 2) := by kernel_rfl
@[simp] theorem isz_2 : (infoOf 2).size = 1 := by kernel_rfl
@[simp] theorem iby_2 : (infoOf 2).bytes = 8 := by kernel_rfl
@[simp] theorem und_2 : P.underlying 2 = some (.int (Go.IntKind.i64)) := by kernel_rfl
@[simp] theorem ld_2 (id off : Nat) (σ : St) : loadA P 2 id off σ = ld1 (σ.heap.get id) off := ld1_of (by kernel_rfl) id off σ
@[simp] theorem st_2 (id off : Nat) (v : V) (σ : St) : storeA P 2 id off v σ = stn (σ.heap.get id) 1 id off v σ := stn_of (by kernel_rfl) id off v σ
@[simp] theorem ze_2 : zeroV P 2 = some (.int .i64 0) := by kernel_rfl
@[simp] theorem info_3 : P.info? 3 = some (infoOf 3) := by kernel_rfl
@[simp] theorem isz_3 : (infoOf 3).size = 1 := by kernel_rfl
@[simp] theorem iby_3 : (infoOf 3).bytes = 8 := by kernel_rfl
@[simp] theorem und_3 : P.underlying 3 = some (.int (Go.IntKind.i64)) := by kernel_rfl
@[simp] theorem ld_3 (id off : Nat) (σ : St) : loadA P 3 id off σ = ld1 (σ.heap.get id) off := ld1_of (by kernel_rfl) id off σ
@[simp] theorem st_3 (id off : Nat) (v : V) (σ : St) : storeA P 3 id off v σ = stn (σ.heap.get id) 1 id off v σ := stn_of (by kernel_rfl) id off v σ
@[simp] theorem ze_3 : zeroV P 3 = some (.int .i64 0) := by kernel_rfl
@[simp] theorem info_4 : P.info? 4 = some (infoOf 4) := by kernel_rfl
@[simp] theorem isz_4 : (infoOf 4).size = 1 := by kernel_rfl
@[simp] theorem iby_4 : (infoOf 4).bytes = 1 := by kernel_rfl
@[simp] theorem und_4 : P.underlying 4 = some (.bool) := by kernel_rfl
@[simp] theorem ld_4 (id off : Nat) (σ : St) : loadA P 4 id off σ = ld1 (σ.heap.get id) off := ld1_of (by kernel_rfl) id off σ
@[simp] theorem st_4 (id off : Nat) (v : V) (σ : St) : storeA P 4 id off v σ = stn (σ.heap.get id) 1 id off v σ := stn_of (by kernel_rfl) id off v σ
@[simp] theorem ze_4 : zeroV P 4 = some (.bool false) := by kernel_rfl
@[simp] theorem info_5 : P.info? 5 = some (infoOf 5) := by kernel_rfl
@[simp] theorem isz_5 : (infoOf 5).size = 1 := by kernel_rfl
@[simp] theorem iby_5 : (infoOf 5).bytes = 1 := by kernel_rfl
@[simp] theorem und_5 : P.underlying 5 = some (.int (Go.IntKind.u8)) := by kernel_rfl
@[simp] theorem ld_5 (id off : Nat) (σ : St) : loadA P 5 id off σ = ld1 (σ.heap.get id) off := ld1_of (by kernel_rfl) id off σ
@[simp] theorem st_5 (id off : Nat) (v : V) (σ : St) : storeA P 5 id off v σ = stn (σ.heap.get id) 1 id off v σ := stn_of (by kernel_rfl) id off v σ
@[simp] theorem ze_5 : zeroV P 5 = some (.int .u8 0) := by kernel_rfl
@[simp] theorem info_9 : P.info? 9 = some (infoOf 9) := by kernel_rfl
@[simp] theorem isz_9 : (infoOf 9).size = 1 := by kernel_rfl
@[simp] theorem iby_9 : (infoOf 9).bytes = 16 := by kernel_rfl
@[simp] theorem und_9 : P.underlying 9 = some (.string) := by kernel_rfl
@[simp] theorem ld_9 (id off : Nat) (σ : St) : loadA P 9 id off σ = ld1 (σ.heap.get id) off := ld1_of (by kernel_rfl) id off σ
@[simp] theorem st_9 (id off : Nat) (v : V) (σ : St) : storeA P 9 id off v σ = stn (σ.heap.get id) 1 id off v σ := stn_of (by kernel_rfl) id off v σ
@[simp] theorem ze_9 : zeroV P 9 = some (.str 0 0) := by kernel_rfl
@[simp] theorem info_21 : P.info? 21 = some (infoOf 21) := by kernel_rfl
@[simp] theorem isz_21 : (infoOf 21).size = 1 := by kernel_rfl
@[simp] theorem iby_21 : (infoOf 21).bytes = 4 := by kernel_rfl
@[simp] theorem und_21 : P.underlying 21 = some (.int (Go.IntKind.i32)) := by kernel_rfl
@[simp] theorem ld_21 (id off : Nat) (σ : St) : loadA P 21 id off σ = ld1 (σ.heap.get id) off := ld1_of (by kernel_rfl) id off σ
@[simp] theorem st_21 (id off : Nat) (v : V) (σ : St) : storeA P 21 id off v σ = stn (σ.heap.get id) 1 id off v σ := stn_of (by kernel_rfl) id off v σ
@[simp] theorem ze_21 : zeroV P 21 = some (.int .i32 0) := by kernel_rfl
@[simp] theorem info_22 : P.info? 22 = some (infoOf 22) := by kernel_rfl
@[simp] theorem isz_22 : (infoOf 22).size = 1 := by kernel_rfl
@[simp] theorem iby_22 : (infoOf 22).bytes = 24 := by kernel_rfl
@[simp] theorem und_22 : P.underlying 22 = some (.slice 5) := by kernel_rfl
@[simp] theorem ld_22 (id off : Nat) (σ : St) : loadA P 22 id off σ = ld1 (σ.heap.get id) off := ld1_of (by kernel_rfl) id off σ
@[simp] theorem st_22 (id off : Nat) (v : V) (σ : St) : storeA P 22 id off v σ = stn (σ.heap.get id) 1 id off v σ := stn_of (by kernel_rfl) id off v σ
@[simp] theorem ze_22 : zeroV P 22 = some (.nils) := by kernel_rfl
@[simp] theorem info_23 : P.info? 23 = some (infoOf 23) := by kernel_rfl
@[simp] theorem isz_23 : (infoOf 23).size = 1 := by kernel_rfl
@[simp] theorem iby_23 : (infoOf 23).bytes = 8 := by kernel_rfl
@[simp] theorem und_23 : P.underlying 23 = some (.pointer 62) := by kernel_rfl
@[simp] theorem ld_23 (id off : Nat) (σ : St) : loadA P 23 id off σ = ld1 (σ.heap.get id) off := ld1_of (by kernel_rfl) id off σ
@[simp] theorem st_23 (id off : Nat) (v : V) (σ : St) : storeA P 23 id off v σ = stn (σ.heap.get id) 1 id off v σ := stn_of (by kernel_rfl) id off v σ
@[simp] theorem ze_23 : zeroV P 23 = some (.nilp) := by kernel_rfl
@[simp] theorem info_24 : P.info? 24 = some (infoOf 24) := by kernel_rfl
@[simp] theorem isz_24 : (infoOf 24).size = 1 := by kernel_rfl
@[simp] theorem iby_24 : (infoOf 24).bytes = 8 := by kernel_rfl
@[simp] theorem und_24 : P.underlying 24 = some (.int (Go.IntKind.i64)) := by kernel_rfl
@[simp] theorem ld_24 (id off : Nat) (σ : St) : loadA P 24 id off σ = ld1 (σ.heap.get id) off := ld1_of (by kernel_rfl) id off σ
@[simp] theorem st_24 (id off : Nat) (v : V) (σ : St) : storeA P 24 id off v σ = stn (σ.heap.get id) 1 id off v σ := stn_of (by kernel_rfl) id off v σ
@[simp] theorem ze_24 : zeroV P 24 = some (.int .i64 0) := by kernel_rfl
@[simp] theorem info_27 : P.info? 27 = some (infoOf 27) := by kernel_rfl
@[simp] theorem isz_27 : (infoOf 27).size = 1 := by kernel_rfl
@[simp] theorem iby_27 : (infoOf 27).bytes = 8 := by kernel_rfl
@[simp] theorem st_27 (id off : Nat) (v : V) (σ : St) : storeA P 27 id off v σ = stn (σ.heap.get id) 1 id off v σ := stn_of (by kernel_rfl) id off v σ
@[simp] theorem ld_27 (id off : Nat) (σ : St) : loadA P 27 id off σ = ldn (σ.heap.get id) off 1 := ldn_of (by kernel_rfl) id off σ
@[simp] theorem fa_27_0 (id off : Nat) : fieldAddrA P 27 0 (.ptr id off) = some (.ptr id (off + 0)) := by kernel_rfl
@[simp] theorem ze_27 : zeroV P 27 = some (.agg [.nilp]) := by kernel_rfl
@[simp] theorem info_28 : P.info? 28 = some (infoOf 28) := by kernel_rfl
@[simp] theorem isz_28 : (infoOf 28).size = 1 := by kernel_rfl
@[simp] theorem iby_28 : (infoOf 28).bytes = 8 := by kernel_rfl
@[simp] theorem st_28 (id off : Nat) (v : V) (σ : St) : storeA P 28 id off v σ = stn (σ.heap.get id) 1 id off v σ := stn_of (by kernel_rfl) id off v σ
@[simp] theorem ld_28 (id off : Nat) (σ : St) : loadA P 28 id off σ = ldn (σ.heap.get id) off 1 := ldn_of (by kernel_rfl) id off σ
@[simp] theorem fa_28_0 (id off : Nat) : fieldAddrA P 28 0 (.ptr id off) = some (.ptr id (off + 0)) := by kernel_rfl
@[simp] theorem ze_28 : zeroV P 28 = some (.agg [.nilp]) := by kernel_rfl
@[simp] theorem info_29 : P.info? 29 = some (infoOf 29) := by kernel_rfl
@[simp] theorem isz_29 : (infoOf 29).size = 1 := by kernel_rfl
@[simp] theorem iby_29 : (infoOf 29).bytes = 8 := by kernel_rfl
@[simp] theorem und_29 : P.underlying 29 = some (.int (Go.IntKind.u64)) := by kernel_rfl
@[simp] theorem ld_29 (id off : Nat) (σ : St) : loadA P 29 id off σ = ld1 (σ.heap.get id) off := ld1_of (by kernel_rfl) id off σ
@[simp] theorem st_29 (id off : Nat) (v : V) (σ : St) : storeA P 29 id off v σ = stn (σ.heap.get id) 1 id off v σ := stn_of (by kernel_rfl) id off v σ
@[simp] theorem ze_29 : zeroV P 29 = some (.int .u64 0) := by kernel_rfl
@[simp] theorem info_41 : P.info? 41 = some (infoOf 41) := by kernel_rfl
@[simp] theorem isz_41 : (infoOf 41).size = 1 := by kernel_rfl
@[simp] theorem iby_41 : (infoOf 41).bytes = 24 := by kernel_rfl
@[simp] theorem und_41 : P.underlying 41 = some (.slice 3) := by kernel_rfl
@[simp] theorem ld_41 (id off : Nat) (σ : St) : loadA P 41 id off σ = ld1 (σ.heap.get id) off := ld1_of (by kernel_rfl) id off σ
@[simp] theorem st_41 (id off : Nat) (v : V) (σ : St) : storeA P 41 id off v σ = stn (σ.heap.get id) 1 id off v σ := stn_of (by kernel_rfl) id off v σ
@[simp] theorem ze_41 : zeroV P 41 = some (.nils) := by kernel_rfl
@[simp] theorem info_44 : P.info? 44 = some (infoOf 44) := by kernel_rfl
@[simp] theorem isz_44 : (infoOf 44).size = 1 := by kernel_rfl
@[simp] theorem iby_44 : (infoOf 44).bytes = 24 := by kernel_rfl
@[simp] theorem und_44 : P.underlying 44 = some (.slice 29) := by kernel_rfl
@[simp] theorem ld_44 (id off : Nat) (σ : St) : loadA P 44 id off σ = ld1 (σ.heap.get id) off := ld1_of (by kernel_rfl) id off σ
@[simp] theorem st_44 (id off : Nat) (v : V) (σ : St) : storeA P 44 id off v σ = stn (σ.heap.get id) 1 id off v σ := stn_of (by kernel_rfl) id off v σ
@[simp] theorem ze_44 : zeroV P 44 = some (.nils) := by kernel_rfl
@[simp] theorem info_49 : P.info? 49 = some (infoOf 49) := by kernel_rfl
@[simp] theorem isz_49 : (infoOf 49).size = 1 := by kernel_rfl
@[simp] theorem iby_49 : (infoOf 49).bytes = 24 := by kernel_rfl
@[simp] theorem und_49 : P.underlying 49 = some (.slice 156) := by kernel_rfl
@[simp] theorem ld_49 (id off : Nat) (σ : St) : loadA P 49 id off σ = ld1 (σ.heap.get id) off := ld1_of (by kernel_rfl) id off σ
@[simp] theorem st_49 (id off : Nat) (v : V) (σ : St) : storeA P 49 id off v σ = stn (σ.heap.get id) 1 id off v σ := stn_of (by kernel_rfl) id off v σ
@[simp] theorem ze_49 : zeroV P 49 = some (.nils) := by kernel_rfl
@[simp] theorem info_50 : P.info? 50 = some (infoOf 50) := by kernel_rfl
@[simp] theorem isz_50 : (infoOf 50).size = 2 := by kernel_rfl
@[simp] theorem iby_50 : (infoOf 50).bytes = 32 := by kernel_rfl
@[simp] theorem st_50 (id off : Nat) (v : V) (σ : St) : storeA P 50 id off v σ = stn (σ.heap.get id) 2 id off v σ := stn_of (by kernel_rfl) id off v σ
@[simp] theorem ld_50 (id off : Nat) (σ : St) : loadA P 50 id off σ = ldn (σ.heap.get id) off 2 := ldn_of (by kernel_rfl) id off σ
@[simp] theorem fa_50_0 (id off : Nat) : fieldAddrA P 50 0 (.ptr id off) = some (.ptr id (off + 0)) := by kernel_rfl
@[simp] theorem fa_50_1 (id off : Nat) : fieldAddrA P 50 1 (.ptr id off) = some (.ptr id (off + 1)) := by kernel_rfl
@[simp] theorem ze_50 : zeroV P 50 = some (.agg [.bool false, .nils]) := by kernel_rfl
@[simp] theorem info_51 : P.info? 51 = some (infoOf 51) := by kernel_rfl
@[simp] theorem isz_51 : (infoOf 51).size = 2 := by kernel_rfl
@[simp] theorem iby_51 : (infoOf 51).bytes = 32 := by kernel_rfl
@[simp] theorem st_51 (id off : Nat) (v : V) (σ : St) : storeA P 51 id off v σ = stn (σ.heap.get id) 2 id off v σ := stn_of (by kernel_rfl) id off v σ
@[simp] theorem ld_51 (id off : Nat) (σ : St) : loadA P 51 id off σ = ldn (σ.heap.get id) off 2 := ldn_of (by kernel_rfl) id off σ
@[simp] theorem fa_51_0 (id off : Nat) : fieldAddrA P 51 0 (.ptr id off) = some (.ptr id (off + 0)) := by kernel_rfl
@[simp] theorem fa_51_1 (id off : Nat) : fieldAddrA P 51 1 (.ptr id off) = some (.ptr id (off + 1)) := by kernel_rfl
@[simp] theorem ze_51 : zeroV P 51 = some (.agg [.bool false, .nils]) := by kernel_rfl
@[simp] theorem info_52 : P.info? 52 = some (infoOf 52) := by kernel_rfl
@[simp] theorem isz_52 : (infoOf 52).size = 1 := by kernel_rfl
@[simp] theorem iby_52 : (infoOf 52).bytes = 24 := by kernel_rfl
@[simp] theorem und_52 : P.underlying 52 = some (.slice 54) := by kernel_rfl
@[simp] theorem ld_52 (id off : Nat) (σ : St) : loadA P 52 id off σ = ld1 (σ.heap.get id) off := ld1_of (by kernel_rfl) id off σ
@[simp] theorem st_52 (id off : Nat) (v : V) (σ : St) : storeA P 52 id off v σ = stn (σ.heap.get id) 1 id off v σ := stn_of (by kernel_rfl) id off v σ
@[simp] theorem ze_52 : zeroV P 52 = some (.nils) := by kernel_rfl
@[simp] theorem info_53 : P.info? 53 = some (infoOf 53) := by kernel_rfl
@[simp] theorem isz_53 : (infoOf 53).size = 7 := by kernel_rfl
@[simp] theorem iby_53 : (infoOf 53).bytes = 112 := by kernel_rfl
@[simp] theorem st_53 (id off : Nat) (v : V) (σ : St) : storeA P 53 id off v σ = stn (σ.heap.get id) 7 id off v σ := stn_of (by kernel_rfl) id off v σ
@[simp] theorem ld_53 (id off : Nat) (σ : St) : loadA P 53 id off σ = ldn (σ.heap.get id) off 7 := ldn_of (by kernel_rfl) id off σ
@[simp] theorem fa_53_0 (id off : Nat) : fieldAddrA P 53 0 (.ptr id off) = some (.ptr id (off + 0)) := by kernel_rfl
@[simp] theorem fa_53_1 (id off : Nat) : fieldAddrA P 53 1 (.ptr id off) = some (.ptr id (off + 1)) := by kernel_rfl
@[simp] theorem fa_53_2 (id off : Nat) : fieldAddrA P 53 2 (.ptr id off) = some (.ptr id (off + 2)) := by kernel_rfl
@[simp] theorem fa_53_3 (id off : Nat) : fieldAddrA P 53 3 (.ptr id off) = some (.ptr id (off + 4)) := by kernel_rfl
@[simp] theorem fa_53_4 (id off : Nat) : fieldAddrA P 53 4 (.ptr id off) = some (.ptr id (off + 5)) := by kernel_rfl
@[simp] theorem fa_53_5 (id off : Nat) : fieldAddrA P 53 5 (.ptr id off) = some (.ptr id (off + 6)) := by kernel_rfl
@[simp] theorem ze_53 : zeroV P 53 = some (.agg [.int .i64 0, .int .i64 0, .bool false, .nils, .str 0 0, .nils, .nils]) := by kernel_rfl
@[simp] theorem info_54 : P.info? 54 = some (infoOf 54) := by kernel_rfl
@[simp] theorem isz_54 : (infoOf 54).size = 7 := by kernel_rfl
@[simp] theorem iby_54 : (infoOf 54).bytes = 112 := by kernel_rfl
@[simp] theorem st_54 (id off : Nat) (v : V) (σ : St) : storeA P 54 id off v σ = stn (σ.heap.get id) 7 id off v σ := stn_of (by kernel_rfl) id off v σ
@[simp] theorem ld_54 (id off : Nat) (σ : St) : loadA P 54 id off σ = ldn (σ.heap.get id) off 7 := ldn_of (by kernel_rfl) id off σ
@[simp] theorem fa_54_0 (id off : Nat) : fieldAddrA P 54 0 (.ptr id off) = some (.ptr id (off + 0)) := by kernel_rfl
@[simp] theorem fa_54_1 (id off : Nat) : fieldAddrA P 54 1 (.ptr id off) = some (.ptr id (off + 1)) := by kernel_rfl
@[simp] theorem fa_54_2 (id off : Nat) : fieldAddrA P 54 2 (.ptr id off) = some (.ptr id (off + 2)) := by kernel_rfl
@[simp] theorem fa_54_3 (id off : Nat) : fieldAddrA P 54 3 (.ptr id off) = some (.ptr id (off + 4)) := by kernel_rfl
@[simp] theorem fa_54_4 (id off : Nat) : fieldAddrA P 54 4 (.ptr id off) = some (.ptr id (off + 5)) := by kernel_rfl
@[simp] theorem fa_54_5 (id off : Nat) : fieldAddrA P 54 5 (.ptr id off) = some (.ptr id (off + 6)) := by kernel_rfl
@[simp] theorem ze_54 : zeroV P 54 = some (.agg [.int .i64 0, .int .i64 0, .bool false, .nils, .str 0 0, .nils, .nils]) := by kernel_rfl
@[simp] theorem info_58 : P.info? 58 = some (infoOf 58) := by kernel_rfl
@[simp] theorem isz_58 : (infoOf 58).size = 1 := by kernel_rfl
@[simp] theorem iby_58 : (infoOf 58).bytes = 8 := by kernel_rfl
@[simp] theorem und_58 : P.underlying 58 = some (.pointer 111) := by kernel_rfl
@[simp] theorem ld_58 (id off : Nat) (σ : St) : loadA P 58 id off σ = ld1 (σ.heap.get id) off := ld1_of (by kernel_rfl) id off σ
@[simp] theorem st_58 (id off : Nat) (v : V) (σ : St) : storeA P 58 id off v σ = stn (σ.heap.get id) 1 id off v σ := stn_of (by kernel_rfl) id off v σ
@[simp] theorem ze_58 : zeroV P 58 = some (.nilp) := by kernel_rfl
@[simp] theorem info_59 : P.info? 59 = some (infoOf 59) := by kernel_rfl
@[simp] theorem isz_59 : (infoOf 59).size = 1 := by kernel_rfl
@[simp] theorem iby_59 : (infoOf 59).bytes = 8 := by kernel_rfl
@[simp] theorem und_59 : P.underlying 59 = some (.map 9 29) := by kernel_rfl
@[simp] theorem ld_59 (id off : Nat) (σ : St) : loadA P 59 id off σ = ld1 (σ.heap.get id) off := ld1_of (by kernel_rfl) id off σ
@[simp] theorem st_59 (id off : Nat) (v : V) (σ : St) : storeA P 59 id off v σ = stn (σ.heap.get id) 1 id off v σ := stn_of (by kernel_rfl) id off v σ
@[simp] theorem ze_59 : zeroV P 59 = some (.nilm) := by kernel_rfl
@[simp] theorem info_60 : P.info? 60 = some (infoOf 60) := by kernel_rfl
@[simp] theorem isz_60 : (infoOf 60).size = 1 := by kernel_rfl
@[simp] theorem iby_60 : (infoOf 60).bytes = 24 := by kernel_rfl
@[simp] theorem und_60 : P.underlying 60 = some (.slice 9) := by kernel_rfl
@[simp] theorem ld_60 (id off : Nat) (σ : St) : loadA P 60 id off σ = ld1 (σ.heap.get id) off := ld1_of (by kernel_rfl) id off σ
@[simp] theorem st_60 (id off : Nat) (v : V) (σ : St) : storeA P 60 id off v σ = stn (σ.heap.get id) 1 id off v σ := stn_of (by kernel_rfl) id off v σ
@[simp] theorem ze_60 : zeroV P 60 = some (.nils) := by kernel_rfl
@[simp] theorem info_61 : P.info? 61 = some (infoOf 61) := by kernel_rfl
@[simp] theorem isz_61 : (infoOf 61).size = 4 := by kernel_rfl
@[simp] theorem iby_61 : (infoOf 61).bytes = 48 := by kernel_rfl
@[simp] theorem st_61 (id off : Nat) (v : V) (σ : St) : storeA P 61 id off v σ = stn (σ.heap.get id) 4 id off v σ := stn_of (by kernel_rfl) id off v σ
@[simp] theorem ld_61 (id off : Nat) (σ : St) : loadA P 61 id off σ = ldn (σ.heap.get id) off 4 := ldn_of (by kernel_rfl) id off σ
@[simp] theorem fa_61_0 (id off : Nat) : fieldAddrA P 61 0 (.ptr id off) = some (.ptr id (off + 0)) := by kernel_rfl
@[simp] theorem fa_61_1 (id off : Nat) : fieldAddrA P 61 1 (.ptr id off) = some (.ptr id (off + 1)) := by kernel_rfl
@[simp] theorem fa_61_2 (id off : Nat) : fieldAddrA P 61 2 (.ptr id off) = some (.ptr id (off + 2)) := by kernel_rfl
@[simp] theorem fa_61_3 (id off : Nat) : fieldAddrA P 61 3 (.ptr id off) = some (.ptr id (off + 3)) := by kernel_rfl
@[simp] theorem ze_61 : zeroV P 61 = some (.agg [.nilp, .nilm, .nils, .int .i64 0]) := by kernel_rfl
@[simp] theorem info_62 : P.info? 62 = some (infoOf 62) := by kernel_rfl
@[simp] theorem isz_62 : (infoOf 62).size = 4 := by kernel_rfl
@[simp] theorem iby_62 : (infoOf 62).bytes = 48 := by kernel_rfl
@[simp] theorem st_62 (id off : Nat) (v : V) (σ : St) : storeA P 62 id off v σ = stn (σ.heap.get id) 4 id off v σ := stn_of (by kernel_rfl) id off v σ
@[simp] theorem ld_62 (id off : Nat) (σ : St) : loadA P 62 id off σ = ldn (σ.heap.get id) off 4 := ldn_of (by kernel_rfl) id off σ
@[simp] theorem fa_62_0 (id off : Nat) : fieldAddrA P 62 0 (.ptr id off) = some (.ptr id (off + 0)) := by kernel_rfl
@[simp] theorem fa_62_1 (id off : Nat) : fieldAddrA P 62 1 (.ptr id off) = some (.ptr id (off + 1)) := by kernel_rfl
@[simp] theorem fa_62_2 (id off : Nat) : fieldAddrA P 62 2 (.ptr id off) = some (.ptr id (off + 2)) := by kernel_rfl
@[simp] theorem fa_62_3 (id off : Nat) : fieldAddrA P 62 3 (.ptr id off) = some (.ptr id (off + 3)) := by kernel_rfl
@[simp] theorem ze_62 : zeroV P 62 = some (.agg [.nilp, .nilm, .nils, .int .i64 0]) := by kernel_rfl
@[simp] theorem info_64 : P.info? 64 = some (infoOf 64) := by kernel_rfl
@[simp] theorem isz_64 : (infoOf 64).size = 1 := by kernel_rfl
@[simp] theorem iby_64 : (infoOf 64).bytes = 24 := by kernel_rfl
@[simp] theorem und_64 : P.underlying 64 = some (.slice 67) := by kernel_rfl
@[simp] theorem ld_64 (id off : Nat) (σ : St) : loadA P 64 id off σ = ld1 (σ.heap.get id) off := ld1_of (by kernel_rfl) id off σ
@[simp] theorem st_64 (id off : Nat) (v : V) (σ : St) : storeA P 64 id off v σ = stn (σ.heap.get id) 1 id off v σ := stn_of (by kernel_rfl) id off v σ
@[simp] theorem ze_64 : zeroV P 64 = some (.nils) := by kernel_rfl
@[simp] theorem info_66 : P.info? 66 = some (infoOf 66) := by kernel_rfl
@[simp] theorem isz_66 : (infoOf 66).size = 3 := by kernel_rfl
@[simp] theorem iby_66 : (infoOf 66).bytes = 32 := by kernel_rfl
@[simp] theorem st_66 (id off : Nat) (v : V) (σ : St) : storeA P 66 id off v σ = stn (σ.heap.get id) 3 id off v σ := stn_of (by kernel_rfl) id off v σ
@[simp] theorem ld_66 (id off : Nat) (σ : St) : loadA P 66 id off σ = ldn (σ.heap.get id) off 3 := ldn_of (by kernel_rfl) id off σ
@[simp] theorem fa_66_0 (id off : Nat) : fieldAddrA P 66 0 (.ptr id off) = some (.ptr id (off + 0)) := by kernel_rfl
@[simp] theorem fa_66_1 (id off : Nat) : fieldAddrA P 66 1 (.ptr id off) = some (.ptr id (off + 1)) := by kernel_rfl
@[simp] theorem fa_66_2 (id off : Nat) : fieldAddrA P 66 2 (.ptr id off) = some (.ptr id (off + 2)) := by kernel_rfl
@[simp] theorem ze_66 : zeroV P 66 = some (.agg [.str 0 0, .int .i64 0, .int .i64 0]) := by kernel_rfl
@[simp] theorem info_67 : P.info? 67 = some (infoOf 67) := by kernel_rfl
@[simp] theorem isz_67 : (infoOf 67).size = 3 := by kernel_rfl
@[simp] theorem iby_67 : (infoOf 67).bytes = 32 := by kernel_rfl
@[simp] theorem st_67 (id off : Nat) (v : V) (σ : St) : storeA P 67 id off v σ = stn (σ.heap.get id) 3 id off v σ := stn_of (by kernel_rfl) id off v σ
@[simp] theorem ld_67 (id off : Nat) (σ : St) : loadA P 67 id off σ = ldn (σ.heap.get id) off 3 := ldn_of (by kernel_rfl) id off σ
@[simp] theorem fa_67_0 (id off : Nat) : fieldAddrA P 67 0 (.ptr id off) = some (.ptr id (off + 0)) := by kernel_rfl
@[simp] theorem fa_67_1 (id off : Nat) : fieldAddrA P 67 1 (.ptr id off) = some (.ptr id (off + 1)) := by kernel_rfl
@[simp] theorem fa_67_2 (id off : Nat) : fieldAddrA P 67 2 (.ptr id off) = some (.ptr id (off + 2)) := by kernel_rfl
@[simp] theorem ze_67 : zeroV P 67 = some (.agg [.str 0 0, .int .i64 0, .int .i64 0]) := by kernel_rfl
@[simp] theorem info_87 : P.info? 87 = some (infoOf 87) := by kernel_rfl
@[simp] theorem isz_87 : (infoOf 87).size = 1 := by kernel_rfl
@[simp] theorem iby_87 : (infoOf 87).bytes = 8 := by kernel_rfl
@[simp] theorem und_87 : P.underlying 87 = some (.pointer 123) := by kernel_rfl
@[simp] theorem ld_87 (id off : Nat) (σ : St) : loadA P 87 id off σ = ld1 (σ.heap.get id) off := ld1_of (by kernel_rfl) id off σ
@[simp] theorem st_87 (id off : Nat) (v : V) (σ : St) : storeA P 87 id off v σ = stn (σ.heap.get id) 1 id off v σ := stn_of (by kernel_rfl) id off v σ
@[simp] theorem ze_87 : zeroV P 87 = some (.nilp) := by kernel_rfl
@[simp] theorem info_96 : P.info? 96 = some (infoOf 96) := by kernel_rfl
@[simp] theorem isz_96 : (infoOf 96).size = 1 := by kernel_rfl
@[simp] theorem iby_96 : (infoOf 96).bytes = 8 := by kernel_rfl
@[simp] theorem und_96 : P.underlying 96 = some (.pointer 3) := by kernel_rfl
@[simp] theorem ld_96 (id off : Nat) (σ : St) : loadA P 96 id off σ = ld1 (σ.heap.get id) off := ld1_of (by kernel_rfl) id off σ
@[simp] theorem st_96 (id off : Nat) (v : V) (σ : St) : storeA P 96 id off v σ = stn (σ.heap.get id) 1 id off v σ := stn_of (by kernel_rfl) id off v σ
@[simp] theorem ze_96 : zeroV P 96 = some (.nilp) := by kernel_rfl
@[simp] theorem info_97 : P.info? 97 = some (infoOf 97) := by kernel_rfl
@[simp] theorem isz_97 : (infoOf 97).size = 1 := by kernel_rfl
@[simp] theorem iby_97 : (infoOf 97).bytes = 24 := by kernel_rfl
@[simp] theorem und_97 : P.underlying 97 = some (.slice 4) := by kernel_rfl
@[simp] theorem ld_97 (id off : Nat) (σ : St) : loadA P 97 id off σ = ld1 (σ.heap.get id) off := ld1_of (by kernel_rfl) id off σ
@[simp] theorem st_97 (id off : Nat) (v : V) (σ : St) : storeA P 97 id off v σ = stn (σ.heap.get id) 1 id off v σ := stn_of (by kernel_rfl) id off v σ
@[simp] theorem ze_97 : zeroV P 97 = some (.nils) := by kernel_rfl
@[simp] theorem info_98 : P.info? 98 = some (infoOf 98) := by kernel_rfl
@[simp] theorem isz_98 : (infoOf 98).size = 2 := by kernel_rfl
@[simp] theorem iby_98 : (infoOf 98).bytes = 48 := by kernel_rfl
@[simp] theorem st_98 (id off : Nat) (v : V) (σ : St) : storeA P 98 id off v σ = stn (σ.heap.get id) 2 id off v σ := stn_of (by kernel_rfl) id off v σ
@[simp] theorem ld_98 (id off : Nat) (σ : St) : loadA P 98 id off σ = ldn (σ.heap.get id) off 2 := ldn_of (by kernel_rfl) id off σ
@[simp] theorem fa_98_0 (id off : Nat) : fieldAddrA P 98 0 (.ptr id off) = some (.ptr id (off + 0)) := by kernel_rfl
@[simp] theorem fa_98_1 (id off : Nat) : fieldAddrA P 98 1 (.ptr id off) = some (.ptr id (off + 1)) := by kernel_rfl
@[simp] theorem ze_98 : zeroV P 98 = some (.agg [.nils, .nils]) := by kernel_rfl
@[simp] theorem info_99 : P.info? 99 = some (infoOf 99) := by kernel_rfl
@[simp] theorem isz_99 : (infoOf 99).size = 2 := by kernel_rfl
@[simp] theorem iby_99 : (infoOf 99).bytes = 48 := by kernel_rfl
@[simp] theorem st_99 (id off : Nat) (v : V) (σ : St) : storeA P 99 id off v σ = stn (σ.heap.get id) 2 id off v σ := stn_of (by kernel_rfl) id off v σ
@[simp] theorem ld_99 (id off : Nat) (σ : St) : loadA P 99 id off σ = ldn (σ.heap.get id) off 2 := ldn_of (by kernel_rfl) id off σ
@[simp] theorem fa_99_0 (id off : Nat) : fieldAddrA P 99 0 (.ptr id off) = some (.ptr id (off + 0)) := by kernel_rfl
@[simp] theorem fa_99_1 (id off : Nat) : fieldAddrA P 99 1 (.ptr id off) = some (.ptr id (off + 1)) := by kernel_rfl
@[simp] theorem ze_99 : zeroV P 99 = some (.agg [.nils, .nils]) := by kernel_rfl
@[simp] theorem info_100 : P.info? 100 = some (infoOf 100) := by kernel_rfl
@[simp] theorem isz_100 : (infoOf 100).size = 1 := by kernel_rfl
@[simp] theorem iby_100 : (infoOf 100).bytes = 8 := by kernel_rfl
@[simp] theorem und_100 : P.underlying 100 = some (.pointer 99) := by kernel_rfl
@[simp] theorem ld_100 (id off : Nat) (σ : St) : loadA P 100 id off σ = ld1 (σ.heap.get id) off := ld1_of (by kernel_rfl) id off σ
@[simp] theorem st_100 (id off : Nat) (v : V) (σ : St) : storeA P 100 id off v σ = stn (σ.heap.get id) 1 id off v σ := stn_of (by kernel_rfl) id off v σ
@[simp] theorem ze_100 : zeroV P 100 = some (.nilp) := by kernel_rfl
@[simp] theorem info_109 : P.info? 109 = some (infoOf 109) := by kernel_rfl
@[simp] theorem isz_109 : (infoOf 109).size = 4 := by kernel_rfl
@[simp] theorem iby_109 : (infoOf 109).bytes = 96 := by kernel_rfl
@[simp] theorem und_109 : P.underlying 109 = some (.array 2 99) := by kernel_rfl
@[simp] theorem st_109 (id off : Nat) (v : V) (σ : St) : storeA P 109 id off v σ = stn (σ.heap.get id) 4 id off v σ := stn_of (by kernel_rfl) id off v σ
@[simp] theorem ld_109 (id off : Nat) (σ : St) : loadA P 109 id off σ = ldn (σ.heap.get id) off 4 := ldn_of (by kernel_rfl) id off σ
@[simp] theorem ze_109 : zeroV P 109 = some (.agg [.nils, .nils, .nils, .nils]) := by kernel_rfl
@[simp] theorem info_110 : P.info? 110 = some (infoOf 110) := by kernel_rfl
@[simp] theorem isz_110 : (infoOf 110).size = 7 := by kernel_rfl
@[simp] theorem iby_110 : (infoOf 110).bytes = 120 := by kernel_rfl
@[simp] theorem st_110 (id off : Nat) (v : V) (σ : St) : storeA P 110 id off v σ = stn (σ.heap.get id) 7 id off v σ := stn_of (by kernel_rfl) id off v σ
@[simp] theorem ld_110 (id off : Nat) (σ : St) : loadA P 110 id off σ = ldn (σ.heap.get id) off 7 := ldn_of (by kernel_rfl) id off σ
@[simp] theorem fa_110_0 (id off : Nat) : fieldAddrA P 110 0 (.ptr id off) = some (.ptr id (off + 0)) := by kernel_rfl
@[simp] theorem fa_110_1 (id off : Nat) : fieldAddrA P 110 1 (.ptr id off) = some (.ptr id (off + 1)) := by kernel_rfl
@[simp] theorem fa_110_2 (id off : Nat) : fieldAddrA P 110 2 (.ptr id off) = some (.ptr id (off + 5)) := by kernel_rfl
@[simp] theorem fa_110_3 (id off : Nat) : fieldAddrA P 110 3 (.ptr id off) = some (.ptr id (off + 6)) := by kernel_rfl
@[simp] theorem ze_110 : zeroV P 110 = some (.agg [.int .i64 0, .nils, .nils, .nils, .nils, .int .i64 0, .int .i64 0]) := by kernel_rfl
@[simp] theorem info_111 : P.info? 111 = some (infoOf 111) := by kernel_rfl
@[simp] theorem isz_111 : (infoOf 111).size = 7 := by kernel_rfl
@[simp] theorem iby_111 : (infoOf 111).bytes = 120 := by kernel_rfl
@[simp] theorem st_111 (id off : Nat) (v : V) (σ : St) : storeA P 111 id off v σ = stn (σ.heap.get id) 7 id off v σ := stn_of (by kernel_rfl) id off v σ
@[simp] theorem ld_111 (id off : Nat) (σ : St) : loadA P 111 id off σ = ldn (σ.heap.get id) off 7 := ldn_of (by kernel_rfl) id off σ
@[simp] theorem fa_111_0 (id off : Nat) : fieldAddrA P 111 0 (.ptr id off) = some (.ptr id (off + 0)) := by kernel_rfl
@[simp] theorem fa_111_1 (id off : Nat) : fieldAddrA P 111 1 (.ptr id off) = some (.ptr id (off + 1)) := by kernel_rfl
@[simp] theorem fa_111_2 (id off : Nat) : fieldAddrA P 111 2 (.ptr id off) = some (.ptr id (off + 5)) := by kernel_rfl
@[simp] theorem fa_111_3 (id off : Nat) : fieldAddrA P 111 3 (.ptr id off) = some (.ptr id (off + 6)) := by kernel_rfl
@[simp] theorem ze_111 : zeroV P 111 = some (.agg [.int .i64 0, .nils, .nils, .nils, .nils, .int .i64 0, .int .i64 0]) := by kernel_rfl
@[simp] theorem info_112 : P.info? 112 = some (infoOf 112) := by kernel_rfl
@[simp] theorem isz_112 : (infoOf 112).size = 2 := by kernel_rfl
@[simp] theorem iby_112 : (infoOf 112).bytes = 16 := by kernel_rfl
@[simp] theorem st_112 (id off : Nat) (v : V) (σ : St) : storeA P 112 id off v σ = stn (σ.heap.get id) 2 id off v σ := stn_of (by kernel_rfl) id off v σ
@[simp] theorem ld_112 (id off : Nat) (σ : St) : loadA P 112 id off σ = ldn (σ.heap.get id) off 2 := ldn_of (by kernel_rfl) id off σ
@[simp] theorem fa_112_0 (id off : Nat) : fieldAddrA P 112 0 (.ptr id off) = some (.ptr id (off + 0)) := by kernel_rfl
@[simp] theorem fa_112_1 (id off : Nat) : fieldAddrA P 112 1 (.ptr id off) = some (.ptr id (off + 1)) := by kernel_rfl
@[simp] theorem ze_112 : zeroV P 112 = some (.agg [.int .u64 0, .int .u64 0]) := by kernel_rfl
@[simp] theorem info_113 : P.info? 113 = some (infoOf 113) := by kernel_rfl
@[simp] theorem isz_113 : (infoOf 113).size = 2 := by kernel_rfl
@[simp] theorem iby_113 : (infoOf 113).bytes = 16 := by kernel_rfl
@[simp] theorem st_113 (id off : Nat) (v : V) (σ : St) : storeA P 113 id off v σ = stn (σ.heap.get id) 2 id off v σ := stn_of (by kernel_rfl) id off v σ
@[simp] theorem ld_113 (id off : Nat) (σ : St) : loadA P 113 id off σ = ldn (σ.heap.get id) off 2 := ldn_of (by kernel_rfl) id off σ
@[simp] theorem fa_113_0 (id off : Nat) : fieldAddrA P 113 0 (.ptr id off) = some (.ptr id (off + 0)) := by kernel_rfl
@[simp] theorem fa_113_1 (id off : Nat) : fieldAddrA P 113 1 (.ptr id off) = some (.ptr id (off + 1)) := by kernel_rfl
@[simp] theorem ze_113 : zeroV P 113 = some (.agg [.int .u64 0, .int .u64 0]) := by kernel_rfl
@[simp] theorem info_114 : P.info? 114 = some (infoOf 114) := by kernel_rfl
@[simp] theorem isz_114 : (infoOf 114).size = 1 := by kernel_rfl
@[simp] theorem iby_114 : (infoOf 114).bytes = 24 := by kernel_rfl
@[simp] theorem und_114 : P.underlying 114 = some (.slice 113) := by kernel_rfl
@[simp] theorem ld_114 (id off : Nat) (σ : St) : loadA P 114 id off σ = ld1 (σ.heap.get id) off := ld1_of (by kernel_rfl) id off σ
@[simp] theorem st_114 (id off : Nat) (v : V) (σ : St) : storeA P 114 id off v σ = stn (σ.heap.get id) 1 id off v σ := stn_of (by kernel_rfl) id off v σ
@[simp] theorem ze_114 : zeroV P 114 = some (.nils) := by kernel_rfl
@[simp] theorem info_117 : P.info? 117 = some (infoOf 117) := by kernel_rfl
@[simp] theorem isz_117 : (infoOf 117).size = 1 := by kernel_rfl
@[simp] theorem iby_117 : (infoOf 117).bytes = 8 := by kernel_rfl
@[simp] theorem und_117 : P.underlying 117 = some (.pointer 119) := by kernel_rfl
@[simp] theorem ld_117 (id off : Nat) (σ : St) : loadA P 117 id off σ = ld1 (σ.heap.get id) off := ld1_of (by kernel_rfl) id off σ
@[simp] theorem st_117 (id off : Nat) (v : V) (σ : St) : storeA P 117 id off v σ = stn (σ.heap.get id) 1 id off v σ := stn_of (by kernel_rfl) id off v σ
@[simp] theorem ze_117 : zeroV P 117 = some (.nilp) := by kernel_rfl
@[simp] theorem info_118 : P.info? 118 = some (infoOf 118) := by kernel_rfl
@[simp] theorem isz_118 : (infoOf 118).size = 5 := by kernel_rfl
@[simp] theorem iby_118 : (infoOf 118).bytes = 80 := by kernel_rfl
@[simp] theorem st_118 (id off : Nat) (v : V) (σ : St) : storeA P 118 id off v σ = stn (σ.heap.get id) 5 id off v σ := stn_of (by kernel_rfl) id off v σ
@[simp] theorem ld_118 (id off : Nat) (σ : St) : loadA P 118 id off σ = ldn (σ.heap.get id) off 5 := ldn_of (by kernel_rfl) id off σ
@[simp] theorem fa_118_0 (id off : Nat) : fieldAddrA P 118 0 (.ptr id off) = some (.ptr id (off + 0)) := by kernel_rfl
@[simp] theorem fa_118_1 (id off : Nat) : fieldAddrA P 118 1 (.ptr id off) = some (.ptr id (off + 1)) := by kernel_rfl
@[simp] theorem fa_118_2 (id off : Nat) : fieldAddrA P 118 2 (.ptr id off) = some (.ptr id (off + 2)) := by kernel_rfl
@[simp] theorem fa_118_3 (id off : Nat) : fieldAddrA P 118 3 (.ptr id off) = some (.ptr id (off + 3)) := by kernel_rfl
@[simp] theorem fa_118_4 (id off : Nat) : fieldAddrA P 118 4 (.ptr id off) = some (.ptr id (off + 4)) := by kernel_rfl
@[simp] theorem ze_118 : zeroV P 118 = some (.agg [.nilp, .str 0 0, .nils, .nils, .int .i64 0]) := by kernel_rfl
@[simp] theorem info_119 : P.info? 119 = some (infoOf 119) := by kernel_rfl
@[simp] theorem isz_119 : (infoOf 119).size = 5 := by kernel_rfl
@[simp] theorem iby_119 : (infoOf 119).bytes = 80 := by kernel_rfl
@[simp] theorem st_119 (id off : Nat) (v : V) (σ : St) : storeA P 119 id off v σ = stn (σ.heap.get id) 5 id off v σ := stn_of (by kernel_rfl) id off v σ
@[simp] theorem ld_119 (id off : Nat) (σ : St) : loadA P 119 id off σ = ldn (σ.heap.get id) off 5 := ldn_of (by kernel_rfl) id off σ
@[simp] theorem fa_119_0 (id off : Nat) : fieldAddrA P 119 0 (.ptr id off) = some (.ptr id (off + 0)) := by kernel_rfl
@[simp] theorem fa_119_1 (id off : Nat) : fieldAddrA P 119 1 (.ptr id off) = some (.ptr id (off + 1)) := by kernel_rfl
@[simp] theorem fa_119_2 (id off : Nat) : fieldAddrA P 119 2 (.ptr id off) = some (.ptr id (off + 2)) := by kernel_rfl
@[simp] theorem fa_119_3 (id off : Nat) : fieldAddrA P 119 3 (.ptr id off) = some (.ptr id (off + 3)) := by kernel_rfl
@[simp] theorem fa_119_4 (id off : Nat) : fieldAddrA P 119 4 (.ptr id off) = some (.ptr id (off + 4)) := by kernel_rfl
@[simp] theorem ze_119 : zeroV P 119 = some (.agg [.nilp, .str 0 0, .nils, .nils, .int .i64 0]) := by kernel_rfl
@[simp] theorem info_120 : P.info? 120 = some (infoOf 120) := by kernel_rfl
@[simp] theorem isz_120 : (infoOf 120).size = 1 := by kernel_rfl
@[simp] theorem iby_120 : (infoOf 120).bytes = 8 := by kernel_rfl
@[simp] theorem und_120 : P.underlying 120 = some (.map 9 127) := by kernel_rfl
@[simp] theorem ld_120 (id off : Nat) (σ : St) : loadA P 120 id off σ = ld1 (σ.heap.get id) off := ld1_of (by kernel_rfl) id off σ
@[simp] theorem st_120 (id off : Nat) (v : V) (σ : St) : storeA P 120 id off v σ = stn (σ.heap.get id) 1 id off v σ := stn_of (by kernel_rfl) id off v σ
@[simp] theorem ze_120 : zeroV P 120 = some (.nilm) := by kernel_rfl
@[simp] theorem info_122 : P.info? 122 = some (infoOf 122) := by kernel_rfl
@[simp] theorem isz_122 : (infoOf 122).size = 3 := by kernel_rfl
@[simp] theorem iby_122 : (infoOf 122).bytes = 40 := by kernel_rfl
@[simp] theorem st_122 (id off : Nat) (v : V) (σ : St) : storeA P 122 id off v σ = stn (σ.heap.get id) 3 id off v σ := stn_of (by kernel_rfl) id off v σ
@[simp] theorem ld_122 (id off : Nat) (σ : St) : loadA P 122 id off σ = ldn (σ.heap.get id) off 3 := ldn_of (by kernel_rfl) id off σ
@[simp] theorem fa_122_0 (id off : Nat) : fieldAddrA P 122 0 (.ptr id off) = some (.ptr id (off + 0)) := by kernel_rfl
@[simp] theorem fa_122_1 (id off : Nat) : fieldAddrA P 122 1 (.ptr id off) = some (.ptr id (off + 1)) := by kernel_rfl
@[simp] theorem fa_122_2 (id off : Nat) : fieldAddrA P 122 2 (.ptr id off) = some (.ptr id (off + 2)) := by kernel_rfl
@[simp] theorem ze_122 : zeroV P 122 = some (.agg [.nils, .nilp, .nilm]) := by kernel_rfl
@[simp] theorem info_123 : P.info? 123 = some (infoOf 123) := by kernel_rfl
@[simp] theorem isz_123 : (infoOf 123).size = 3 := by kernel_rfl
@[simp] theorem iby_123 : (infoOf 123).bytes = 40 := by kernel_rfl
@[simp] theorem st_123 (id off : Nat) (v : V) (σ : St) : storeA P 123 id off v σ = stn (σ.heap.get id) 3 id off v σ := stn_of (by kernel_rfl) id off v σ
@[simp] theorem ld_123 (id off : Nat) (σ : St) : loadA P 123 id off σ = ldn (σ.heap.get id) off 3 := ldn_of (by kernel_rfl) id off σ
@[simp] theorem fa_123_0 (id off : Nat) : fieldAddrA P 123 0 (.ptr id off) = some (.ptr id (off + 0)) := by kernel_rfl
@[simp] theorem fa_123_1 (id off : Nat) : fieldAddrA P 123 1 (.ptr id off) = some (.ptr id (off + 1)) := by kernel_rfl
@[simp] theorem fa_123_2 (id off : Nat) : fieldAddrA P 123 2 (.ptr id off) = some (.ptr id (off + 2)) := by kernel_rfl
@[simp] theorem ze_123 : zeroV P 123 = some (.agg [.nils, .nilp, .nilm]) := by kernel_rfl
@[simp] theorem info_127 : P.info? 127 = some (infoOf 127) := by kernel_rfl
@[simp] theorem isz_127 : (infoOf 127).size = 1 := by kernel_rfl
@[simp] theorem iby_127 : (infoOf 127).bytes = 8 := by kernel_rfl
@[simp] theorem ld_127 (id off : Nat) (σ : St) : loadA P 127 id off σ = ld1 (σ.heap.get id) off := ld1_of (by kernel_rfl) id off σ
@[simp] theorem st_127 (id off : Nat) (v : V) (σ : St) : storeA P 127 id off v σ = stn (σ.heap.get id) 1 id off v σ := stn_of (by kernel_rfl) id off v σ
@[simp] theorem ze_127 : zeroV P 127 = some (.nilf) := by kernel_rfl
@[simp] theorem info_129 : P.info? 129 = some (infoOf 129) := by kernel_rfl
@[simp] theorem isz_129 : (infoOf 129).size = 1 := by kernel_rfl
@[simp] theorem iby_129 : (infoOf 129).bytes = 8 := by kernel_rfl
@[simp] theorem und_129 : P.underlying 129 = some (.int (Go.IntKind.u64)) := by kernel_rfl
@[simp] theorem ld_129 (id off : Nat) (σ : St) : loadA P 129 id off σ = ld1 (σ.heap.get id) off := ld1_of (by kernel_rfl) id off σ
@[simp] theorem st_129 (id off : Nat) (v : V) (σ : St) : storeA P 129 id off v σ = stn (σ.heap.get id) 1 id off v σ := stn_of (by kernel_rfl) id off v σ
@[simp] theorem ze_129 : zeroV P 129 = some (.int .u64 0) := by kernel_rfl
@[simp] theorem info_131 : P.info? 131 = some (infoOf 131) := by kernel_rfl
@[simp] theorem isz_131 : (infoOf 131).size = 1 := by kernel_rfl
@[simp] theorem iby_131 : (infoOf 131).bytes = 8 := by kernel_rfl
@[simp] theorem und_131 : P.underlying 131 = some (.pointer 29) := by kernel_rfl
@[simp] theorem ld_131 (id off : Nat) (σ : St) : loadA P 131 id off σ = ld1 (σ.heap.get id) off := ld1_of (by kernel_rfl) id off σ
@[simp] theorem st_131 (id off : Nat) (v : V) (σ : St) : storeA P 131 id off v σ = stn (σ.heap.get id) 1 id off v σ := stn_of (by kernel_rfl) id off v σ
@[simp] theorem ze_131 : zeroV P 131 = some (.nilp) := by kernel_rfl
@[simp] theorem info_156 : P.info? 156 = some (infoOf 156) := by kernel_rfl
@[simp] theorem isz_156 : (infoOf 156).size = 1 := by kernel_rfl
@[simp] theorem iby_156 : (infoOf 156).bytes = 4 := by kernel_rfl
@[simp] theorem und_156 : P.underlying 156 = some (.int (Go.IntKind.u32)) := by kernel_rfl
@[simp] theorem ld_156 (id off : Nat) (σ : St) : loadA P 156 id off σ = ld1 (σ.heap.get id) off := ld1_of (by kernel_rfl) id off σ
@[simp] theorem st_156 (id off : Nat) (v : V) (σ : St) : storeA P 156 id off v σ = stn (σ.heap.get id) 1 id off v σ := stn_of (by kernel_rfl) id off v σ
@[simp] theorem ze_156 : zeroV P 156 = some (.int .u32 0) := by kernel_rfl
@[simp] theorem info_161 : P.info? 161 = some (infoOf 161) := by kernel_rfl
@[simp] theorem isz_161 : (infoOf 161).size = 1 := by kernel_rfl
@[simp] theorem iby_161 : (infoOf 161).bytes = 24 := by kernel_rfl
@[simp] theorem st_161 (id off : Nat) (v : V) (σ : St) : storeA P 161 id off v σ = stn (σ.heap.get id) 1 id off v σ := stn_of (by kernel_rfl) id off v σ
@[simp] theorem ld_161 (id off : Nat) (σ : St) : loadA P 161 id off σ = ldn (σ.heap.get id) off 1 := ldn_of (by kernel_rfl) id off σ
@[simp] theorem fa_161_0 (id off : Nat) : fieldAddrA P 161 0 (.ptr id off) = some (.ptr id (off + 0)) := by kernel_rfl
@[simp] theorem ze_161 : zeroV P 161 = some (.agg [.nils]) := by kernel_rfl
@[simp] theorem info_162 : P.info? 162 = some (infoOf 162) := by kernel_rfl
@[simp] theorem isz_162 : (infoOf 162).size = 1 := by kernel_rfl
@[simp] theorem iby_162 : (infoOf 162).bytes = 24 := by kernel_rfl
@[simp] theorem st_162 (id off : Nat) (v : V) (σ : St) : storeA P 162 id off v σ = stn (σ.heap.get id) 1 id off v σ := stn_of (by kernel_rfl) id off v σ
@[simp] theorem ld_162 (id off : Nat) (σ : St) : loadA P 162 id off σ = ldn (σ.heap.get id) off 1 := ldn_of (by kernel_rfl) id off σ
@[simp] theorem fa_162_0 (id off : Nat) : fieldAddrA P 162 0 (.ptr id off) = some (.ptr id (off + 0)) := by kernel_rfl
@[simp] theorem ze_162 : zeroV P 162 = some (.agg [.nils]) := by kernel_rfl
@[simp] theorem info_163 : P.info? 163 = some (infoOf 163) := by kernel_rfl
@[simp] theorem isz_163 : (infoOf 163).size = 2 := by kernel_rfl
@[simp] theorem iby_163 : (infoOf 163).bytes = 32 := by kernel_rfl
@[simp] theorem st_163 (id off : Nat) (v : V) (σ : St) : storeA P 163 id off v σ = stn (σ.heap.get id) 2 id off v σ := stn_of (by kernel_rfl) id off v σ
@[simp] theorem ld_163 (id off : Nat) (σ : St) : loadA P 163 id off σ = ldn (σ.heap.get id) off 2 := ldn_of (by kernel_rfl) id off σ
@[simp] theorem fa_163_0 (id off : Nat) : fieldAddrA P 163 0 (.ptr id off) = some (.ptr id (off + 0)) := by kernel_rfl
@[simp] theorem fa_163_1 (id off : Nat) : fieldAddrA P 163 1 (.ptr id off) = some (.ptr id (off + 1)) := by kernel_rfl
@[simp] theorem ze_163 : zeroV P 163 = some (.agg [.nils, .bool false]) := by kernel_rfl
@[simp] theorem info_164 : P.info? 164 = some (infoOf 164) := by kernel_rfl
@[simp] theorem isz_164 : (infoOf 164).size = 2 := by kernel_rfl
@[simp] theorem iby_164 : (infoOf 164).bytes = 32 := by kernel_rfl
@[simp] theorem st_164 (id off : Nat) (v : V) (σ : St) : storeA P 164 id off v σ = stn (σ.heap.get id) 2 id off v σ := stn_of (by kernel_rfl) id off v σ
@[simp] theorem ld_164 (id off : Nat) (σ : St) : loadA P 164 id off σ = ldn (σ.heap.get id) off 2 := ldn_of (by kernel_rfl) id off σ
@[simp] theorem fa_164_0 (id off : Nat) : fieldAddrA P 164 0 (.ptr id off) = some (.ptr id (off + 0)) := by kernel_rfl
@[simp] theorem fa_164_1 (id off : Nat) : fieldAddrA P 164 1 (.ptr id off) = some (.ptr id (off + 1)) := by kernel_rfl
@[simp] theorem ze_164 : zeroV P 164 = some (.agg [.nils, .bool false]) := by kernel_rfl
@[simp] theorem info_169 : P.info? 169 = some (infoOf 169) := by kernel_rfl
@[simp] theorem isz_169 : (infoOf 169).size = 1 := by kernel_rfl
@[simp] theorem iby_169 : (infoOf 169).bytes = 24 := by kernel_rfl
@[simp] theorem und_169 : P.underlying 169 = some (.slice 51) := by kernel_rfl
@[simp] theorem ld_169 (id off : Nat) (σ : St) : loadA P 169 id off σ = ld1 (σ.heap.get id) off := ld1_of (by kernel_rfl) id off σ
@[simp] theorem st_169 (id off : Nat) (v : V) (σ : St) : storeA P 169 id off v σ = stn (σ.heap.get id) 1 id off v σ := stn_of (by kernel_rfl) id off v σ
@[simp] theorem ze_169 : zeroV P 169 = some (.nils) := by kernel_rfl
@[simp] theorem info_190 : P.info? 190 = some (infoOf 190) := by kernel_rfl
@[simp] theorem isz_190 : (infoOf 190).size = 1 := by kernel_rfl
@[simp] theorem iby_190 : (infoOf 190).bytes = 8 := by kernel_rfl
@[simp] theorem und_190 : P.underlying 190 = some (.map 3 3) := by kernel_rfl
@[simp] theorem ld_190 (id off : Nat) (σ : St) : loadA P 190 id off σ = ld1 (σ.heap.get id) off := ld1_of (by kernel_rfl) id off σ
@[simp] theorem st_190 (id off : Nat) (v : V) (σ : St) : storeA P 190 id off v σ = stn (σ.heap.get id) 1 id off v σ := stn_of (by kernel_rfl) id off v σ
@[simp] theorem ze_190 : zeroV P 190 = some (.nilm) := by kernel_rfl
@[simp] theorem info_201 : P.info? 201 = some (infoOf 201) := by kernel_rfl
@[simp] theorem isz_201 : (infoOf 201).size = 1 := by kernel_rfl
@[simp] theorem iby_201 : (infoOf 201).bytes = 8 := by kernel_rfl
@[simp] theorem und_201 : P.underlying 201 = some (.pointer 203) := by kernel_rfl
@[simp] theorem ld_201 (id off : Nat) (σ : St) : loadA P 201 id off σ = ld1 (σ.heap.get id) off := ld1_of (by kernel_rfl) id off σ
@[simp] theorem st_201 (id off : Nat) (v : V) (σ : St) : storeA P 201 id off v σ = stn (σ.heap.get id) 1 id off v σ := stn_of (by kernel_rfl) id off v σ
@[simp] theorem ze_201 : zeroV P 201 = some (.nilp) := by kernel_rfl
@[simp] theorem info_202 : P.info? 202 = some (infoOf 202) := by kernel_rfl
@[simp] theorem isz_202 : (infoOf 202).size = 2 := by kernel_rfl
@[simp] theorem iby_202 : (infoOf 202).bytes = 32 := by kernel_rfl
@[simp] theorem st_202 (id off : Nat) (v : V) (σ : St) : storeA P 202 id off v σ = stn (σ.heap.get id) 2 id off v σ := stn_of (by kernel_rfl) id off v σ
@[simp] theorem ld_202 (id off : Nat) (σ : St) : loadA P 202 id off σ = ldn (σ.heap.get id) off 2 := ldn_of (by kernel_rfl) id off σ
@[simp] theorem fa_202_0 (id off : Nat) : fieldAddrA P 202 0 (.ptr id off) = some (.ptr id (off + 0)) := by kernel_rfl
@[simp] theorem fa_202_1 (id off : Nat) : fieldAddrA P 202 1 (.ptr id off) = some (.ptr id (off + 1)) := by kernel_rfl
@[simp] theorem ze_202 : zeroV P 202 = some (.agg [.nilp, .nils]) := by kernel_rfl
@[simp] theorem info_203 : P.info? 203 = some (infoOf 203) := by kernel_rfl
@[simp] theorem isz_203 : (infoOf 203).size = 2 := by kernel_rfl
@[simp] theorem iby_203 : (infoOf 203).bytes = 32 := by kernel_rfl
@[simp] theorem st_203 (id off : Nat) (v : V) (σ : St) : storeA P 203 id off v σ = stn (σ.heap.get id) 2 id off v σ := stn_of (by kernel_rfl) id off v σ
@[simp] theorem ld_203 (id off : Nat) (σ : St) : loadA P 203 id off σ = ldn (σ.heap.get id) off 2 := ldn_of (by kernel_rfl) id off σ
@[simp] theorem fa_203_0 (id off : Nat) : fieldAddrA P 203 0 (.ptr id off) = some (.ptr id (off + 0)) := by kernel_rfl
@[simp] theorem fa_203_1 (id off : Nat) : fieldAddrA P 203 1 (.ptr id off) = some (.ptr id (off + 1)) := by kernel_rfl
@[simp] theorem ze_203 : zeroV P 203 = some (.agg [.nilp, .nils]) := by kernel_rfl
@[simp] theorem info_204 : P.info? 204 = some (infoOf 204) := by kernel_rfl
@[simp] theorem isz_204 : (infoOf 204).size = 1 := by kernel_rfl
@[simp] theorem iby_204 : (infoOf 204).bytes = 16 := by kernel_rfl
@[simp] theorem ld_204 (id off : Nat) (σ : St) : loadA P 204 id off σ = ld1 (σ.heap.get id) off := ld1_of (by kernel_rfl) id off σ
@[simp] theorem st_204 (id off : Nat) (v : V) (σ : St) : storeA P 204 id off v σ = stn (σ.heap.get id) 1 id off v σ := stn_of (by kernel_rfl) id off v σ
@[simp] theorem ze_204 : zeroV P 204 = some (.nili) := by kernel_rfl
@[simp] theorem info_205 : P.info? 205 = some (infoOf 205) := by kernel_rfl
@[simp] theorem isz_205 : (infoOf 205).size = 1 := by kernel_rfl
@[simp] theorem iby_205 : (infoOf 205).bytes = 16 := by kernel_rfl
@[simp] theorem ld_205 (id off : Nat) (σ : St) : loadA P 205 id off σ = ld1 (σ.heap.get id) off := ld1_of (by kernel_rfl) id off σ
@[simp] theorem st_205 (id off : Nat) (v : V) (σ : St) : storeA P 205 id off v σ = stn (σ.heap.get id) 1 id off v σ := stn_of (by kernel_rfl) id off v σ
@[simp] theorem ze_205 : zeroV P 205 = some (.nili) := by kernel_rfl
@[simp] theorem info_222 : P.info? 222 = some (infoOf 222) := by kernel_rfl
@[simp] theorem isz_222 : (infoOf 222).size = 1 := by kernel_rfl
@[simp] theorem iby_222 : (infoOf 222).bytes = 8 := by kernel_rfl
@[simp] theorem und_222 : P.underlying 222 = some (.pointer 5) := by kernel_rfl
@[simp] theorem ld_222 (id off : Nat) (σ : St) : loadA P 222 id off σ = ld1 (σ.heap.get id) off := ld1_of (by kernel_rfl) id off σ
@[simp] theorem st_222 (id off : Nat) (v : V) (σ : St) : storeA P 222 id off v σ = stn (σ.heap.get id) 1 id off v σ := stn_of (by kernel_rfl) id off v σ
@[simp] theorem ze_222 : zeroV P 222 = some (.nilp) := by kernel_rfl
@[simp] theorem info_232 : P.info? 232 = some (infoOf 232) := by kernel_rfl
@[simp] theorem isz_232 : (infoOf 232).size = 1 := by kernel_rfl
@[simp] theorem iby_232 : (infoOf 232).bytes = 24 := by kernel_rfl
@[simp] theorem und_232 : P.underlying 232 = some (.slice 49) := by kernel_rfl
@[simp] theorem ld_232 (id off : Nat) (σ : St) : loadA P 232 id off σ = ld1 (σ.heap.get id) off := ld1_of (by kernel_rfl) id off σ
@[simp] theorem st_232 (id off : Nat) (v : V) (σ : St) : storeA P 232 id off v σ = stn (σ.heap.get id) 1 id off v σ := stn_of (by kernel_rfl) id off v σ
@[simp] theorem ze_232 : zeroV P 232 = some (.nils) := by kernel_rfl
@[simp] theorem info_238 : P.info? 238 = some (infoOf 238) := by kernel_rfl
@[simp] theorem isz_238 : (infoOf 238).size = 1 := by kernel_rfl
@[simp] theorem iby_238 : (infoOf 238).bytes = 8 := by kernel_rfl
@[simp] theorem st_238 (id off : Nat) (v : V) (σ : St) : storeA P 238 id off v σ = stn (σ.heap.get id) 1 id off v σ := stn_of (by kernel_rfl) id off v σ
@[simp] theorem enter3 (args) : enterA P 3 args = some (true, 3, args) := enter_of Tryz.func3 rfl args
@[simp] theorem enter4 (args) : enterA P 4 args = some (true, 4, args) := enter_of Tryz.func4 rfl args
@[simp] theorem enter5 (args) : enterA P 5 args = some (true, 5, args) := enter_of Tryz.func5 rfl args
@[simp] theorem enter6 (args) : enterA P 6 args = some (true, 6, args) := enter_of Tryz.func6 rfl args
@[simp] theorem enter7 (args) : enterA P 7 args = some (true, 7, args) := enter_of Tryz.func7 rfl args
@[simp] theorem enter8 (args) : enterA P 8 args = some (true, 8, args) := enter_of Tryz.func8 rfl args
@[simp] theorem enter9 (args) : enterA P 9 args = some (true, 9, args) := enter_of Tryz.func9 rfl args
@[simp] theorem enter10 (args) : enterA P 10 args = some (true, 10, args) := enter_of Tryz.func10 rfl args
@[simp] theorem enter11 (args) : enterA P 11 args = some (true, 11, args) := enter_of Tryz.func11 rfl args
@[simp] theorem enter12 (args) : enterA P 12 args = some (true, 12, args) := enter_of Tryz.func12 rfl args
@[simp] theorem enter13 (args) : enterA P 13 args = some (true, 13, args) := enter_of Tryz.func13 rfl args
@[simp] theorem enter14 (args) : enterA P 14 args = some (true, 14, args) := enter_of Tryz.func14 rfl args
@[simp] theorem enter15 (args) : enterA P 15 args = some (true, 15, args) := enter_of Tryz.func15 rfl args
@[simp] theorem enter16 (args) : enterA P 16 args = some (true, 16, args) := enter_of Tryz.func16 rfl args
@[simp] theorem enter17 (args) : enterA P 17 args = some (true, 17, args) := enter_of Tryz.func17 rfl args
@[simp] theorem enter18 (args) : enterA P 18 args = some (true, 18, args) := enter_of Tryz.func18 rfl args
@[simp] theorem enter19 (args) : enterA P 19 args = some (true, 19, args) := enter_of Tryz.func19 rfl args
@[simp] theorem enter20 (args) : enterA P 20 args = some (true, 20, args) := enter_of Tryz.func20 rfl args
@[simp] theorem enter21 (args) : enterA P 21 args = some (true, 21, args) := enter_of Tryz.func21 rfl args
@[simp] theorem enter22 (args) : enterA P 22 args = some (true, 22, args) := enter_of Tryz.func22 rfl args
@[simp] theorem enter23 (args) : enterA P 23 args = some (true, 23, args) := enter_of Tryz.func23 rfl args
@[simp] theorem enter24 (args) : enterA P 24 args = some (true, 24, args) := enter_of Tryz.func24 rfl args
@[simp] theorem enter25 (args) : enterA P 25 args = some (true, 25, args) := enter_of Tryz.func25 rfl args
@[simp] theorem enter26 (args) : enterA P 26 args = some (true, 26, args) := enter_of Tryz.func26 rfl args
@[simp] theorem enter27 (args) : enterA P 27 args = some (true, 27, args) := enter_of Tryz.func27 rfl args
@[simp] theorem enter28 (args) : enterA P 28 args = some (true, 28, args) := enter_of Tryz.func28 rfl args
@[simp] theorem enter29 (args) : enterA P 29 args = some (true, 29, args) := enter_of Tryz.func29 rfl args
@[simp] theorem enter30 (args) : enterA P 30 args = some (true, 30, args) := enter_of Tryz.func30 rfl args
@[simp] theorem enter31 (args) : enterA P 31 args = some (true, 31, args) := enter_of Tryz.func31 rfl args
@[simp] theorem enter32 (args) : enterA P 32 args = some (true, 32, args) := enter_of Tryz.func32 rfl args
@[simp] theorem enter33 (args) : enterA P 33 args = some (true, 33, args) := enter_of Tryz.func33 rfl args
@[simp] theorem enter34 (args) : enterA P 34 args = some (true, 34, args) := enter_of Tryz.func34 rfl args
@[simp] theorem enter35 (args) : enterA P 35 args = some (true, 35, args) := enter_of Tryz.func35 rfl args
@[simp] theorem enter36 (args) : enterA P 36 args = some (true, 36, args) := enter_of Tryz.func36 rfl args
@[simp] theorem enter37 (args) : enterA P 37 args = some (true, 37, args) := enter_of Tryz.func37 rfl args
@[simp] theorem enter38 (args) : enterA P 38 args = some (true, 38, args) := enter_of Tryz.func38 rfl args
@[simp] theorem enter39 (args) : enterA P 39 args = some (true, 39, args) := enter_of Tryz.func39 rfl args
@[simp] theorem enter40 (args) : enterA P 40 args = some (true, 40, args) := enter_of Tryz.func40 rfl args
@[simp] theorem enter41 (args) : enterA P 41 args = some (true, 41, args) := enter_of Tryz.func41 rfl args
@[simp] theorem enter42 (args) : enterA P 42 args = some (true, 42, args) := enter_of Tryz.func42 rfl args
@[simp] theorem enter43 (args) : enterA P 43 args = some (true, 43, args) := enter_of Tryz.func43 rfl args
@[simp] theorem enter44 (args) : enterA P 44 args = some (true, 44, args) := enter_of Tryz.func44 rfl args
@[simp] theorem enter45 (args) : enterA P 45 args = some (true, 45, args) := enter_of Tryz.func45 rfl args
@[simp] theorem enter46 (args) : enterA P 46 args = some (true, 46, args) := enter_of Tryz.func46 rfl args
@[simp] theorem enter47 (args) : enterA P 47 args = some (true, 47, args) := enter_of Tryz.func47 rfl args
@[simp] theorem enter48 (args) : enterA P 48 args = some (true, 48, args) := enter_of Tryz.func48 rfl args
@[simp] theorem enter49 (args) : enterA P 49 args = some (true, 49, args) := enter_of Tryz.func49 rfl args
@[simp] theorem enter50 (args) : enterA P 50 args = some (true, 50, args) := enter_of Tryz.func50 rfl args
@[simp] theorem enter51 (args) : enterA P 51 args = some (true, 51, args) := enter_of Tryz.func51 rfl args
@[simp] theorem enter52 (args) : enterA P 52 args = some (true, 52, args) := enter_of Tryz.func52 rfl args
@[simp] theorem enter53 (args) : enterA P 53 args = some (true, 53, args) := enter_of Tryz.func53 rfl args
@[simp] theorem enter54 (args) : enterA P 54 args = some (true, 54, args) := enter_of Tryz.func54 rfl args
@[simp] theorem enter55 (args) : enterA P 55 args = some (true, 55, args) := enter_of Tryz.func55 rfl args
@[simp] theorem enter56 (args) : enterA P 56 args = some (true, 56, args) := enter_of Tryz.func56 rfl args
@[simp] theorem enter57 (args) : enterA P 57 args = some (true, 57, args) := enter_of Tryz.func57 rfl args
@[simp] theorem enter58 (args) : enterA P 58 args = some (true, 58, args) := enter_of Tryz.func58 rfl args
@[simp] theorem enter59 (args) : enterA P 59 args = some (true, 59, args) := enter_of Tryz.func59 rfl args
@[simp] theorem enter60 (args) : enterA P 60 args = some (true, 60, args) := enter_of Tryz.func60 rfl args
@[simp] theorem enter61 (args) : enterA P 61 args = some (true, 61, args) := enter_of Tryz.func61 rfl args
@[simp] theorem enter62 (args) : enterA P 62 args = some (true, 62, args) := enter_of Tryz.func62 rfl args
@[simp] theorem enter63 (args) : enterA P 63 args = some (true, 63, args) := enter_of Tryz.func63 rfl args
@[simp] theorem enter64 (args) : enterA P 64 args = some (true, 64, args) := enter_of Tryz.func64 rfl args
@[simp] theorem enter65 (args) : enterA P 65 args = some (true, 65, args) := enter_of Tryz.func65 rfl args
@[simp] theorem enter66 (args) : enterA P 66 args = some (true, 66, args) := enter_of Tryz.func66 rfl args
@[simp] theorem enter67 (args) : enterA P 67 args = some (true, 67, args) := enter_of Tryz.func67 rfl args
@[simp] theorem enter68 (args) : enterA P 68 args = some (true, 68, args) := enter_of Tryz.func68 rfl args
@[simp] theorem enter69 (args) : enterA P 69 args = some (true, 69, args) := enter_of Tryz.func69 rfl args
@[simp] theorem enter70 (args) : enterA P 70 args = some (true, 70, args) := enter_of Tryz.func70 rfl args
@[simp] theorem enter71 (args) : enterA P 71 args = some (true, 71, args) := enter_of Tryz.func71 rfl args
@[simp] theorem enter72 (args) : enterA P 72 args = some (true, 72, args) := enter_of Tryz.func72 rfl args
@[simp] theorem enter73 (args) : enterA P 73 args = some (true, 73, args) := enter_of Tryz.func73 rfl args
@[simp] theorem enter74 (args) : enterA P 74 args = some (true, 74, args) := enter_of Tryz.func74 rfl args
@[simp] theorem enter75 (args) : enterA P 75 args = some (true, 75, args) := enter_of Tryz.func75 rfl args
@[simp] theorem enter76 (args) : enterA P 76 args = some (true, 76, args) := enter_of Tryz.func76 rfl args
@[simp] theorem enter77 (args) : enterA P 77 args = some (true, 77, args) := enter_of Tryz.func77 rfl args
@[simp] theorem enter78 (args) : enterA P 78 args = some (true, 78, args) := enter_of Tryz.func78 rfl args
@[simp] theorem enter79 (args) : enterA P 79 args = some (true, 79, args) := enter_of Tryz.func79 rfl args
@[simp] theorem enter80 (args) : enterA P 80 args = some (true, 80, args) := enter_of Tryz.func80 rfl args
@[simp] theorem enter81 (args) : enterA P 81 args = some (true, 81, args) := enter_of Tryz.func81 rfl args
@[simp] theorem enter82 (args) : enterA P 82 args = some (true, 82, args) := enter_of Tryz.func82 rfl args
@[simp] theorem enter83 (args) : enterA P 83 args = some (true, 83, args) := enter_of Tryz.func83 rfl args
@[simp] theorem enter84 (args) : enterA P 84 args = some (true, 84, args) := enter_of Tryz.func84 rfl args
@[simp] theorem enter85 (args) : enterA P 85 args = some (true, 85, args) := enter_of Tryz.func85 rfl args
@[simp] theorem enter86 (args) : enterA P 86 args = some (true, 86, args) := enter_of Tryz.func86 rfl args
@[simp] theorem enter87 (args) : enterA P 87 args = some (true, 87, args) := enter_of Tryz.func87 rfl args
@[simp] theorem enter88 (args) : enterA P 88 args = some (true, 88, args) := enter_of Tryz.func88 rfl args
@[simp] theorem enter89 (args) : enterA P 89 args = some (true, 89, args) := enter_of Tryz.func89 rfl args
@[simp] theorem enter90 (args) : enterA P 90 args = some (true, 90, args) := enter_of Tryz.func90 rfl args
@[simp] theorem enter91 (args) : enterA P 91 args = some (true, 91, args) := enter_of Tryz.func91 rfl args
@[simp] theorem enter92 (args) : enterA P 92 args = some (true, 92, args) := enter_of Tryz.func92 rfl args
@[simp] theorem enter93 (args) : enterA P 93 args = some (true, 93, args) := enter_of Tryz.func93 rfl args
@[simp] theorem enter94 (args) : enterA P 94 args = some (true, 94, args) := enter_of Tryz.func94 rfl args
@[simp] theorem enter95 (args) : enterA P 95 args = some (true, 95, args) := enter_of Tryz.func95 rfl args
@[simp] theorem enter96 (args) : enterA P 96 args = some (true, 96, args) := enter_of Tryz.func96 rfl args
@[simp] theorem enter97 (args) : enterA P 97 args = some (true, 97, args) := enter_of Tryz.func97 rfl args
@[simp] theorem enter98 (args) : enterA P 98 args = some (true, 98, args) := enter_of Tryz.func98 rfl args
@[simp] theorem enter99 (args) : enterA P 99 args = some (true, 99, args) := enter_of Tryz.func99 rfl args
@[simp] theorem enter100 (args) : enterA P 100 args = some (true, 100, args) := enter_of Tryz.func100 rfl args
@[simp] theorem enter101 (args) : enterA P 101 args = some (true, 101, args) := enter_of Tryz.func101 rfl args
@[simp] theorem enter102 (args) : enterA P 102 args = some (true, 102, args) := enter_of Tryz.func102 rfl args
@[simp] theorem enter103 (args) : enterA P 103 args = some (true, 103, args) := enter_of Tryz.func103 rfl args
@[simp] theorem enter104 (args) : enterA P 104 args = some (true, 104, args) := enter_of Tryz.func104 rfl args
@[simp] theorem enter105 (args) : enterA P 105 args = some (true, 105, args) := enter_of Tryz.func105 rfl args
@[simp] theorem enter106 (args) : enterA P 106 args = some (true, 106, args) := enter_of Tryz.func106 rfl args
@[simp] theorem enter107 (args) : enterA P 107 args = some (true, 107, args) := enter_of Tryz.func107 rfl args
@[simp] theorem enter108 (args) : enterA P 108 args = some (true, 108, args) := enter_of Tryz.func108 rfl args
@[simp] theorem enter109 (args) : enterA P 109 args = some (true, 109, args) := enter_of Tryz.func109 rfl args
@[simp] theorem enter110 (args) : enterA P 110 args = some (true, 110, args) := enter_of Tryz.func110 rfl args
@[simp] theorem enter111 (args) : enterA P 111 args = some (true, 111, args) := enter_of Tryz.func111 rfl args
@[simp] theorem enter112 (args) : enterA P 112 args = some (true, 112, args) := enter_of Tryz.func112 rfl args
@[simp] theorem enter113 (args) : enterA P 113 args = some (true, 113, args) := enter_of Tryz.func113 rfl args
@[simp] theorem enter114 (args) : enterA P 114 args = some (true, 114, args) := enter_of Tryz.func114 rfl args
@[simp] theorem enter115 (args) : enterA P 115 args = some (true, 115, args) := enter_of Tryz.func115 rfl args
@[simp] theorem enter116 (args) : enterA P 116 args = some (true, 116, args) := enter_of Tryz.func116 rfl args
@[simp] theorem enter117 (args) : enterA P 117 args = some (true, 117, args) := enter_of Tryz.func117 rfl args
@[simp] theorem enter118 (args) : enterA P 118 args = some (true, 118, args) := enter_of Tryz.func118 rfl args
@[simp] theorem enter119 (args) : enterA P 119 args = some (true, 119, args) := enter_of Tryz.func119 rfl args
@[simp] theorem enter120 (args) : enterA P 120 args = some (true, 120, args) := enter_of Tryz.func120 rfl args
@[simp] theorem enter121 (args) : enterA P 121 args = some (true, 121, args) := enter_of Tryz.func121 rfl args
@[simp] theorem enter122 (args) : enterA P 122 args = some (true, 122, args) := enter_of Tryz.func122 rfl args
@[simp] theorem enter123 (args) : enterA P 123 args = some (true, 123, args) := enter_of Tryz.func123 rfl args
@[simp] theorem enter124 (args) : enterA P 124 args = some (true, 124, args) := enter_of Tryz.func124 rfl args
@[simp] theorem enter125 (args) : enterA P 125 args = some (true, 125, args) := enter_of Tryz.func125 rfl args
@[simp] theorem enter126 (args) : enterA P 126 args = some (true, 126, args) := enter_of Tryz.func126 rfl args
@[simp] theorem enter127 (args) : enterA P 127 args = some (true, 127, args) := enter_of Tryz.func127 rfl args
@[simp] theorem enter128 (args) : enterA P 128 args = some (true, 128, args) := enter_of Tryz.func128 rfl args
@[simp] theorem enter129 (args) : enterA P 129 args = some (true, 129, args) := enter_of Tryz.func129 rfl args
@[simp] theorem enter130 (args) : enterA P 130 args = some (true, 130, args) := enter_of Tryz.func130 rfl args
@[simp] theorem enter131 (args) : enterA P 131 args = some (true, 131, args) := enter_of Tryz.func131 rfl args
@[simp] theorem enter132 (args) : enterA P 132 args = some (true, 132, args) := enter_of Tryz.func132 rfl args
@[simp] theorem enter133 (args) : enterA P 133 args = some (true, 133, args) := enter_of Tryz.func133 rfl args
@[simp] theorem enter134 (args) : enterA P 134 args = some (true, 134, args) := enter_of Tryz.func134 rfl args
@[simp] theorem enter135 (args) : enterA P 135 args = some (true, 135, args) := enter_of Tryz.func135 rfl args
@[simp] theorem enter136 (args) : enterA P 136 args = some (true, 136, args) := enter_of Tryz.func136 rfl args
@[simp] theorem enter137 (args) : enterA P 137 args = some (true, 137, args) := enter_of Tryz.func137 rfl args
@[simp] theorem enter138 (args) : enterA P 138 args = some (true, 138, args) := enter_of Tryz.func138 rfl args
@[simp] theorem enter139 (args) : enterA P 139 args = some (true, 139, args) := enter_of Tryz.func139 rfl args
@[simp] theorem enter140 (args) : enterA P 140 args = some (true, 140, args) := enter_of Tryz.func140 rfl args
@[simp] theorem enter141 (args) : enterA P 141 args = some (true, 141, args) := enter_of Tryz.func141 rfl args
@[simp] theorem enter142 (args) : enterA P 142 args = some (true, 142, args) := enter_of Tryz.func142 rfl args
@[simp] theorem enter143 (args) : enterA P 143 args = some (true, 143, args) := enter_of Tryz.func143 rfl args
@[simp] theorem enter144 (args) : enterA P 144 args = some (true, 144, args) := enter_of Tryz.func144 rfl args
@[simp] theorem enter145 (args) : enterA P 145 args = some (true, 145, args) := enter_of Tryz.func145 rfl args
@[simp] theorem enter146 (args) : enterA P 146 args = some (true, 146, args) := enter_of Tryz.func146 rfl args
@[simp] theorem enter147 (args) : enterA P 147 args = some (true, 147, args) := enter_of Tryz.func147 rfl args
@[simp] theorem enter148 (args) : enterA P 148 args = some (true, 148, args) := enter_of Tryz.func148 rfl args
@[simp] theorem enter149 (args) : enterA P 149 args = some (true, 149, args) := enter_of Tryz.func149 rfl args
@[simp] theorem enter150 (args) : enterA P 150 args = some (true, 150, args) := enter_of Tryz.func150 rfl args
@[simp] theorem enter151 (args) : enterA P 151 args = some (true, 151, args) := enter_of Tryz.func151 rfl args
@[simp] theorem enter152 (args) : enterA P 152 args = some (true, 152, args) := enter_of Tryz.func152 rfl args
@[simp] theorem enter153 (args) : enterA P 153 args = some (true, 153, args) := enter_of Tryz.func153 rfl args
@[simp] theorem enter154 (args) : enterA P 154 args = some (true, 154, args) := enter_of Tryz.func154 rfl args
@[simp] theorem enter155 (args) : enterA P 155 args = some (true, 155, args) := enter_of Tryz.func155 rfl args
@[simp] theorem enter156 (args) : enterA P 156 args = some (true, 156, args) := enter_of Tryz.func156 rfl args
@[simp] theorem enter157 (args) : enterA P 157 args = some (true, 157, args) := enter_of Tryz.func157 rfl args
@[simp] theorem enter158 (args) : enterA P 158 args = some (true, 158, args) := enter_of Tryz.func158 rfl args
@[simp] theorem enter159 (args) : enterA P 159 args = some (true, 159, args) := enter_of Tryz.func159 rfl args
@[simp] theorem enter160 (args) : enterA P 160 args = some (true, 160, args) := enter_of Tryz.func160 rfl args
@[simp] theorem enter161 (args) : enterA P 161 args = some (true, 161, args) := enter_of Tryz.func161 rfl args
@[simp] theorem enter162 (args) : enterA P 162 args = some (true, 162, args) := enter_of Tryz.func162 rfl args
@[simp] theorem enter163 (args) : enterA P 163 args = some (true, 163, args) := enter_of Tryz.func163 rfl args
@[simp] theorem enter164 (args) : enterA P 164 args = some (true, 164, args) := enter_of Tryz.func164 rfl args
@[simp] theorem enter165 (args) : enterA P 165 args = some (true, 165, args) := enter_of Tryz.func165 rfl args
@[simp] theorem enter166 (args) : enterA P 166 args = some (true, 166, args) := enter_of Tryz.func166 rfl args
@[simp] theorem enter167 (args) : enterA P 167 args = some (true, 167, args) := enter_of Tryz.func167 rfl args
@[simp] theorem enter168 (args) : enterA P 168 args = some (true, 168, args) := enter_of Tryz.func168 rfl args
@[simp] theorem enter169 (args) : enterA P 169 args = some (true, 169, args) := enter_of Tryz.func169 rfl args
@[simp] theorem enter170 (args) : enterA P 170 args = some (true, 170, args) := enter_of Tryz.func170 rfl args
@[simp] theorem enter171 (args) : enterA P 171 args = some (true, 171, args) := enter_of Tryz.func171 rfl args
@[simp] theorem enter172 (args) : enterA P 172 args = some (true, 172, args) := enter_of Tryz.func172 rfl args
@[simp] theorem enter173 (args) : enterA P 173 args = some (true, 173, args) := enter_of Tryz.func173 rfl args
@[simp] theorem enter174 (args) : enterA P 174 args = some (true, 174, args) := enter_of Tryz.func174 rfl args
@[simp] theorem enter175 (args) : enterA P 175 args = some (true, 175, args) := enter_of Tryz.func175 rfl args
@[simp] theorem enter176 (args) : enterA P 176 args = some (true, 176, args) := enter_of Tryz.func176 rfl args
@[simp] theorem enter177 (args) : enterA P 177 args = some (true, 177, args) := enter_of Tryz.func177 rfl args
@[simp] theorem enter178 (args) : enterA P 178 args = some (true, 178, args) := enter_of Tryz.func178 rfl args
@[simp] theorem enter179 (args) : enterA P 179 args = some (true, 179, args) := enter_of Tryz.func179 rfl args
@[simp] theorem enter180 (args) : enterA P 180 args = some (true, 180, args) := enter_of Tryz.func180 rfl args
@[simp] theorem enter181 (args) : enterA P 181 args = some (true, 181, args) := enter_of Tryz.func181 rfl args
@[simp] theorem enter182 (args) : enterA P 182 args = some (true, 182, args) := enter_of Tryz.func182 rfl args
@[simp] theorem enter183 (args) : enterA P 183 args = some (true, 183, args) := enter_of Tryz.func183 rfl args
@[simp] theorem enter184 (args) : enterA P 184 args = some (true, 184, args) := enter_of Tryz.func184 rfl args
@[simp] theorem enter185 (args) : enterA P 185 args = some (true, 185, args) := enter_of Tryz.func185 rfl args
@[simp] theorem enter186 (args) : enterA P 186 args = some (true, 186, args) := enter_of Tryz.func186 rfl args
@[simp] theorem enter187 (args) : enterA P 187 args = some (true, 187, args) := enter_of Tryz.func187 rfl args
@[simp] theorem enter189 (args) : enterA P 189 args = some (true, 189, args) := enter_of Tryz.func189 rfl args
@[simp] theorem enter190 (args) : enterA P 190 args = some (true, 190, args) := enter_of Tryz.func190 rfl args
@[simp] theorem enter191 (args) : enterA P 191 args = some (true, 191, args) := enter_of Tryz.func191 rfl args
@[simp] theorem enter192 (args) : enterA P 192 args = some (true, 192, args) := enter_of Tryz.func192 rfl args
@[simp] theorem enter193 (args) : enterA P 193 args = some (true, 193, args) := enter_of Tryz.func193 rfl args
@[simp] theorem enter194 (args) : enterA P 194 args = some (true, 194, args) := enter_of Tryz.func194 rfl args
@[simp] theorem enter195 (args) : enterA P 195 args = some (true, 195, args) := enter_of Tryz.func195 rfl args
@[simp] theorem enter196 (args) : enterA P 196 args = some (true, 196, args) := enter_of Tryz.func196 rfl args
@[simp] theorem enter197 (args) : enterA P 197 args = some (true, 197, args) := enter_of Tryz.func197 rfl args
@[simp] theorem enter198 (args) : enterA P 198 args = some (true, 198, args) := enter_of Tryz.func198 rfl args
@[simp] theorem enter199 (args) : enterA P 199 args = some (true, 199, args) := enter_of Tryz.func199 rfl args
@[simp] theorem enter200 (args) : enterA P 200 args = some (true, 200, args) := enter_of Tryz.func200 rfl args
@[simp] theorem enter201 (args) : enterA P 201 args = some (true, 201, args) := enter_of Tryz.func201 rfl args
@[simp] theorem enter202 (args) : enterA P 202 args = some (true, 202, args) := enter_of Tryz.func202 rfl args
@[simp] theorem enter203 (args) : enterA P 203 args = some (true, 203, args) := enter_of Tryz.func203 rfl args
@[simp] theorem enter204 (args) : enterA P 204 args = some (true, 204, args) := enter_of Tryz.func204 rfl args
@[simp] theorem enter206 (args) : enterA P 206 args = some (true, 206, args) := enter_of Tryz.func206 rfl args
@[simp] theorem enter208 (args) : enterA P 208 args = some (true, 208, args) := enter_of Tryz.func208 rfl args
@[simp] theorem enter209 (args) : enterA P 209 args = some (true, 209, args) := enter_of Tryz.func209 rfl args
@[simp] theorem enter210 (args) : enterA P 210 args = some (true, 210, args) := enter_of Tryz.func210 rfl args
@[simp] theorem enter211 (args) : enterA P 211 args = some (true, 211, args) := enter_of Tryz.func211 rfl args
@[simp] theorem enter213 (args) : enterA P 213 args = some (true, 213, args) := enter_of Tryz.func213 rfl args
@[simp] theorem enter214 (args) : enterA P 214 args = some (true, 214, args) := enter_of Tryz.func214 rfl args
@[simp] theorem enter215 (args) : enterA P 215 args = some (true, 215, args) := enter_of Tryz.func215 rfl args
@[simp] theorem enter217 (args) : enterA P 217 args = some (true, 217, args) := enter_of Tryz.func217 rfl args
@[simp] theorem enter219 (args) : enterA P 219 args = some (true, 219, args) := enter_of Tryz.func219 rfl args
@[simp] theorem enter220 (args) : enterA P 220 args = some (true, 220, args) := enter_of Tryz.func220 rfl args
@[simp] theorem enter221 (args) : enterA P 221 args = some (true, 221, args) := enter_of Tryz.func221 rfl args
@[simp] theorem enter225 (args) : enterA P 225 args = some (true, 225, args) := enter_of Tryz.func225 rfl args
@[simp] theorem enter234 (args) : enterA P 234 args = some (true, 234, args) := enter_of Tryz.func234 rfl args
@[simp] theorem enter252 (args) : enterA P 252 args = some (true, 252, args) := enter_of Tryz.func252 rfl args
end
end Go.Dg
