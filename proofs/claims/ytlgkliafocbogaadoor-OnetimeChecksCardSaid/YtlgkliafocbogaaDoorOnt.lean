/- The types of one-time signatures: sizes and zero values. -/
import Derived.Test.YtlgkliafocbogaaDoorHeap
namespace Go.Proofs.YtlgkliafocbogaaDoor
open Go Go.RowKit Go.Bul
theorem row_a16 : RowTy Tryd.prog 22 16 := ⟨⟨_, Tryd.underlying22, rfl, by kernel_rfl⟩⟩
theorem row_a32 : RowTy Tryd.prog 45 32 := ⟨⟨_, Tryd.underlying45, rfl, by kernel_rfl⟩⟩
theorem row_i35 : RowTy Tryd.prog 27 35 := ⟨⟨_, Tryd.underlying27, rfl, by kernel_rfl⟩⟩
theorem row_val : RowTy Tryd.prog 37 16 := ⟨⟨_, Tryd.underlying37, rfl, by kernel_rfl⟩⟩
theorem row_e35 : RowTy Tryd.prog 51 560 := ⟨⟨_, Tryd.underlying51, rfl, by kernel_rfl⟩⟩
theorem row_v35 : RowTy Tryd.prog 53 560 := ⟨⟨_, Tryd.underlying53, rfl, by kernel_rfl⟩⟩
theorem row_sig : RowTy Tryd.prog 59 560 := ⟨⟨_, Tryd.underlying59, rfl, by kernel_rfl⟩⟩
theorem one_u8 : OneTy Tryd.prog 5 := ⟨⟨_, Tryd.underlying5, rfl, by kernel_rfl⟩⟩
theorem one_int : OneTy Tryd.prog 3 := ⟨⟨_, Tryd.underlying3, rfl, by kernel_rfl⟩⟩
theorem zero_a16 : ZeroTy Tryd.prog 22 16 (cellsOf .u8 (zeros 16)) := ⟨⟨.agg _, by kernel_rfl, rfl, zeros_size _ _⟩⟩
theorem zero_a32' : ZeroTy Tryd.prog 45 32 (cellsOf .u8 (zeros 32)) := ⟨⟨.agg _, by kernel_rfl, rfl, zeros_size _ _⟩⟩
theorem zero_i35' : ZeroTy Tryd.prog 27 35 (cellsOf .i64 (zeros 35)) := ⟨⟨.agg _, by kernel_rfl, rfl, zeros_size _ _⟩⟩
theorem zero_val : ZeroTy Tryd.prog 37 16 (cellsOf .u8 (zeros 16)) := ⟨⟨.agg _, by kernel_rfl, rfl, zeros_size _ _⟩⟩
theorem zero_e35 : ZeroTy Tryd.prog 51 560 (cellsOf .u8 (zeros 560)) := ⟨⟨.agg _, by kernel_rfl, rfl, zeros_size _ _⟩⟩
theorem zero_v35 : ZeroTy Tryd.prog 53 560 (cellsOf .u8 (zeros 560)) := ⟨⟨.agg _, by kernel_rfl, rfl, zeros_size _ _⟩⟩
theorem zero_sig : ZeroTy Tryd.prog 59 560 (cellsOf .u8 (zeros 560)) := ⟨⟨.agg _, by kernel_rfl, rfl, zeros_size _ _⟩⟩
theorem arr_a16 : ArrTy Tryd.prog 22 := ⟨⟨_, _, 1, Tryd.underlying22, by kernel_rfl⟩⟩
theorem arr_val : ArrTy Tryd.prog 37 := ⟨⟨_, _, 1, Tryd.underlying37, by kernel_rfl⟩⟩
theorem arr_sig : ArrTy Tryd.prog 59 := ⟨⟨_, _, 16, Tryd.underlying59, by kernel_rfl⟩⟩
end Go.Proofs.YtlgkliafocbogaaDoor
