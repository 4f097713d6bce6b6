import Derived.Test.YtgcppaohinfdmaaSxL
import Derived.Test.YtgcppaohinfdmaaProg
/-
  The types that the walked functions use, as the engine's table, and its test.
-/
namespace Go.Proofs.Ytgcppaohinfdmaa.Sx
open Go
set_option maxRecDepth 100000

def T : Tab := [
  (1, ⟨1, false, [], 1, 1, 0, 0, [.nilf], .i64, [], 0⟩),
  (3, ⟨1, false, [], 1, 1, 0, 0, [.int .i64 0], .i64, [], 2⟩),
  (4, ⟨1, false, [], 1, 1, 0, 0, [.bool false], .i64, [], 1⟩),
  (8, ⟨4, true, [(0, (1, false)), (1, (1, false)), (2, (1, false)), (3, (1, false))], 1, 4, 0, 0, [.int .i64 0, .int .i64 0, .bool false, .int .u8 0], .i64, [2, 2, 1, 2], 4⟩),
  (9, ⟨1, false, [], 1, 1, 0, 0, [.str (ByteArray.mk #[])], .i64, [], 3⟩),
  (10, ⟨1, false, [], 1, 1, 0, 0, [.str (ByteArray.mk #[])], .i64, [], 3⟩),
  (11, ⟨1, false, [], 1, 1, 0, 0, [.str (ByteArray.mk #[])], .i64, [], 3⟩),
  (12, ⟨1, false, [], 1, 1, 0, 0, [.int .u64 0], .u64, [], 2⟩),
  (13, ⟨2, true, [(0, (1, false)), (1, (1, false))], 1, 2, 0, 0, [.str (ByteArray.mk #[]), .int .u64 0], .i64, [], 8⟩),
  (14, ⟨2, true, [(0, (1, false)), (1, (1, false))], 1, 2, 0, 0, [.str (ByteArray.mk #[]), .int .u64 0], .i64, [], 8⟩),
  (15, ⟨1, false, [], 1, 1, 0, 0, [.nilp], .i64, [], 0⟩),
  (16, ⟨1, false, [], 1, 1, 0, 0, [.nilp], .i64, [], 0⟩),
  (17, ⟨1, false, [], 1, 1, 0, 0, [.nilp], .i64, [], 0⟩),
  (18, ⟨1, true, [(0, (1, false))], 1, 1, 0, 0, [.nilp], .i64, [], 8⟩),
  (19, ⟨1, true, [(0, (1, false))], 1, 1, 0, 0, [.nilp], .i64, [], 8⟩),
  (20, ⟨1, false, [], 1, 1, 0, 0, [.nili], .i64, [], 0⟩),
  (21, ⟨1, false, [], 1, 1, 0, 0, [.int .i32 0], .i32, [], 2⟩),
  (22, ⟨1, false, [], 1, 1, 0, 0, [.int .u64 0], .u64, [], 2⟩),
  (23, ⟨1, false, [], 1, 1, 22, 0, [.nils], .i64, [], 7⟩),
  (24, ⟨1, false, [], 1, 1, 0, 0, [.nilf], .i64, [], 0⟩),
  (26, ⟨1, false, [], 1, 1, 0, 0, [.nilf], .i64, [], 0⟩),
  (27, ⟨1, false, [], 1, 1, 0, 0, [.nilf], .i64, [], 0⟩),
  (28, ⟨1, false, [], 1, 1, 0, 0, [.nilf], .i64, [], 0⟩),
  (29, ⟨1, false, [], 1, 1, 0, 0, [.nilf], .i64, [], 0⟩),
  (30, ⟨1, false, [], 1, 1, 0, 0, [.nilf], .i64, [], 0⟩),
  (31, ⟨1, false, [], 1, 1, 0, 0, [.nilf], .i64, [], 0⟩),
  (32, ⟨1, false, [], 1, 1, 0, 0, [.nilf], .i64, [], 0⟩),
  (33, ⟨1, false, [], 1, 1, 0, 0, [.int .u64 0], .u64, [], 2⟩),
  (35, ⟨1, false, [], 1, 1, 0, 0, [.flt .f64 0], .i64, [], 9⟩),
  (41, ⟨1, false, [], 1, 1, 0, 0, [.nilf], .i64, [], 0⟩),
  (43, ⟨1, false, [], 1, 1, 0, 0, [.nilf], .i64, [], 0⟩),
  (46, ⟨0, true, [], 1, 0, 0, 0, [], .i64, [], 4⟩)
]

theorem T_ok : TabOK Go.Proofs.Try.prog T := tabOK_of (by kernel_rfl) (by kernel_rfl)

end Go.Proofs.Ytgcppaohinfdmaa.Sx
