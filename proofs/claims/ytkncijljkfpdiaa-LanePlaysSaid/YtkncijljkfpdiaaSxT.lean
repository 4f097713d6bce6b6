import Derived.Test.YtkncijljkfpdiaaSxL
import Derived.Test.YtkncijljkfpdiaaProg
/-
  The types that the walked functions use, as the engine's table, and its test.
-/
namespace Go.Proofs.Ytkncijljkfpdiaa.Sx
open Go
set_option maxRecDepth 100000

def T : Tab := [
  (1, ⟨1, false, [], 1, 1, 0, 0, [.nilf], .i64, [], 0⟩),
  (2, ⟨1, false, [], 1, 1, 0, 0, [.int .i64 0], .i64, [], 2⟩),
  (3, ⟨1, false, [], 1, 1, 0, 0, [.int .i64 0], .i64, [], 2⟩),
  (4, ⟨1, false, [], 1, 1, 0, 0, [.bool false], .i64, [], 1⟩),
  (5, ⟨1, false, [], 1, 1, 0, 0, [.int .u8 0], .u8, [], 2⟩),
  (8, ⟨4, true, [(0, (1, false)), (1, (1, false)), (2, (1, false)), (3, (1, false))], 1, 4, 0, 0, [.int .i64 0, .int .i64 0, .bool false, .int .u8 0], .i64, [2, 2, 1, 2], 4⟩),
  (9, ⟨1, false, [], 1, 1, 0, 0, [.str (ByteArray.mk #[])], .i64, [], 3⟩),
  (10, ⟨1, false, [], 1, 1, 0, 0, [.str (ByteArray.mk #[])], .i64, [], 3⟩),
  (11, ⟨1, false, [], 1, 1, 0, 0, [.str (ByteArray.mk #[])], .i64, [], 3⟩),
  (12, ⟨1, false, [], 1, 1, 0, 0, [.int .u64 0], .u64, [], 2⟩),
  (13, ⟨2, true, [(0, (1, false)), (1, (1, false))], 1, 2, 0, 0, [.str (ByteArray.mk #[]), .int .u64 0], .i64, [], 8⟩),
  (14, ⟨2, true, [(0, (1, false)), (1, (1, false))], 1, 2, 0, 0, [.str (ByteArray.mk #[]), .int .u64 0], .i64, [], 8⟩),
  (15, ⟨1, false, [], 1, 1, 0, 0, [.nilp], .i64, [], 10⟩),
  (16, ⟨1, false, [], 1, 1, 0, 0, [.nilp], .i64, [], 10⟩),
  (17, ⟨1, false, [], 1, 1, 0, 0, [.nilp], .i64, [], 10⟩),
  (18, ⟨1, true, [(0, (1, false))], 1, 1, 0, 0, [.nilp], .i64, [], 8⟩),
  (19, ⟨1, true, [(0, (1, false))], 1, 1, 0, 0, [.nilp], .i64, [], 8⟩),
  (20, ⟨1, false, [], 1, 1, 0, 0, [.nili], .i64, [], 0⟩),
  (21, ⟨1, false, [], 1, 1, 0, 0, [.int .i32 0], .i32, [], 2⟩),
  (22, ⟨1, false, [], 1, 1, 5, 0, [.nils], .i64, [], 7⟩),
  (23, ⟨1, false, [], 1, 1, 0, 0, [.nilf], .i64, [], 0⟩),
  (24, ⟨1, false, [], 1, 1, 0, 0, [.nilp], .i64, [], 10⟩),
  (25, ⟨1, false, [], 1, 1, 0, 0, [.int .i64 0], .i64, [], 2⟩),
  (27, ⟨1, false, [], 1, 1, 0, 0, [.nilf], .i64, [], 0⟩),
  (28, ⟨1, false, [], 1, 1, 3, 0, [.nils], .i64, [], 7⟩),
  (29, ⟨1, false, [], 1, 1, 0, 0, [.nilf], .i64, [], 0⟩),
  (30, ⟨1, false, [], 1, 1, 0, 0, [.nilf], .i64, [], 0⟩),
  (32, ⟨1, false, [], 1, 1, 0, 0, [.nilf], .i64, [], 0⟩),
  (34, ⟨1, false, [], 1, 1, 0, 0, [.nilf], .i64, [], 0⟩),
  (35, ⟨1, false, [], 1, 1, 0, 0, [.nilf], .i64, [], 0⟩),
  (36, ⟨1, false, [], 1, 1, 38, 0, [.nils], .i64, [], 7⟩),
  (38, ⟨3, true, [(0, (1, false)), (1, (1, false)), (2, (1, false))], 1, 3, 0, 0, [.int .i64 0, .int .i64 0, .int .i64 0], .i64, [2, 2, 2], 4⟩),
  (46, ⟨1, false, [], 1, 1, 0, 0, [.nilp], .i64, [], 10⟩),
  (48, ⟨1, false, [], 1, 1, 64, 0, [.nils], .i64, [], 7⟩),
  (50, ⟨3, true, [(0, (1, false)), (1, (1, false)), (2, (1, false))], 1, 3, 0, 0, [.int .i64 0, .int .i64 0, .nils], .i64, [], 8⟩),
  (52, ⟨1, false, [], 1, 1, 58, 0, [.nils], .i64, [], 7⟩),
  (53, ⟨1, false, [], 1, 1, 0, 0, [.nilm], .i64, [], 11⟩),
  (55, ⟨3, true, [(0, (1, false)), (1, (1, false)), (2, (1, false))], 1, 3, 0, 0, [.nils, .int .i64 0, .nilm], .i64, [], 8⟩),
  (58, ⟨1, true, [(0, (1, false))], 1, 1, 0, 0, [.nils], .i64, [], 8⟩),
  (64, ⟨2, true, [(0, (1, false)), (1, (1, false))], 1, 2, 0, 0, [.int .i64 0, .int .i64 0], .i64, [2, 2], 4⟩),
  (65, ⟨1, false, [], 1, 1, 0, 0, [.nilp], .i64, [], 10⟩)
]

theorem T_ok : TabOK Go.Proofs.Try.prog T := tabOK_of (by kernel_rfl) (by kernel_rfl)

end Go.Proofs.Ytkncijljkfpdiaa.Sx
