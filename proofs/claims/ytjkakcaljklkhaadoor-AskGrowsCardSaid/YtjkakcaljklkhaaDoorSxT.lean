import Derived.Test.YtjkakcaljklkhaaDoorSxL
import Derived.Test.YtjkakcaljklkhaaDoorProg
/-
  The types that the walked functions use, as the engine's table, and its test.
-/
namespace Go.Proofs.YtjkakcaljklkhaaDoor.Sx
open Go
set_option maxRecDepth 100000

def T : Tab := [
  (1, ⟨1, false, [], 1, 1, 0, 0, [.nilf], .i64, [], 0⟩),
  (2, ⟨1, false, [], 1, 1, 0, 0, [.int .i64 0], .i64, [], 2⟩),
  (3, ⟨1, false, [], 1, 1, 0, 0, [.int .i64 0], .i64, [], 2⟩),
  (4, ⟨1, false, [], 1, 1, 0, 0, [.bool false], .i64, [], 1⟩),
  (5, ⟨1, false, [], 1, 1, 0, 0, [.int .u8 0], .u8, [], 2⟩),
  (6, ⟨1, false, [], 1, 1, 0, 0, [.int .u8 0], .u8, [], 2⟩),
  (7, ⟨4, true, [(0, (1, false)), (1, (1, false)), (2, (1, false)), (3, (1, false))], 1, 4, 0, 0, [.int .i64 0, .int .i64 0, .bool false, .int .u8 0], .i64, [2, 2, 1, 2], 4⟩),
  (8, ⟨4, true, [(0, (1, false)), (1, (1, false)), (2, (1, false)), (3, (1, false))], 1, 4, 0, 0, [.int .i64 0, .int .i64 0, .bool false, .int .u8 0], .i64, [2, 2, 1, 2], 4⟩),
  (9, ⟨1, false, [], 1, 1, 0, 0, [.str (ByteArray.mk #[])], .i64, [], 3⟩),
  (10, ⟨1, false, [], 1, 1, 0, 0, [.str (ByteArray.mk #[])], .i64, [], 3⟩),
  (11, ⟨1, false, [], 1, 1, 0, 0, [.str (ByteArray.mk #[])], .i64, [], 3⟩),
  (12, ⟨1, false, [], 1, 1, 0, 0, [.int .u64 0], .u64, [], 2⟩),
  (13, ⟨2, true, [(0, (1, false)), (1, (1, false))], 1, 2, 0, 0, [.str (ByteArray.mk #[]), .int .u64 0], .i64, [], 8⟩),
  (14, ⟨2, true, [(0, (1, false)), (1, (1, false))], 1, 2, 0, 0, [.str (ByteArray.mk #[]), .int .u64 0], .i64, [], 8⟩),
  (15, ⟨1, false, [], 1, 1, 0, 0, [.nilp], .i64, [], 0⟩),
  (16, ⟨1, false, [], 1, 1, 0, 0, [.nilp], .i64, [], 0⟩),
  (17, ⟨1, false, [], 1, 1, 0, 0, [.nilp], .i64, [], 0⟩),
  (18, ⟨1, true, [(0, (1, false))], 1, 1, 0, 0, [.nilp], .i64, [], 8⟩),
  (19, ⟨1, true, [(0, (1, false))], 1, 1, 0, 0, [.nilp], .i64, [], 8⟩),
  (23, ⟨14, true, [(0, (1, false)), (1, (1, false)), (2, (1, false)), (3, (1, false)), (4, (1, false)), (5, (1, false)), (6, (1, false)), (7, (1, false)), (8, (1, false)), (9, (1, false)), (10, (1, false)), (11, (1, false)), (12, (1, false)), (13, (1, false))], 1, 14, 0, 0, List.replicate 14 (.int .i64 0), .i64, List.replicate 14 (2), 4⟩),
  (25, ⟨1, false, [], 1, 1, 0, 0, [.int .i64 0], .i64, [], 2⟩),
  (32, ⟨1, false, [], 1, 1, 67, 0, [.nils], .i64, [], 7⟩),
  (34, ⟨6, true, [(0, (1, false)), (1, (1, false)), (2, (1, false)), (3, (1, false)), (4, (1, false)), (5, (1, false))], 1, 6, 0, 0, [.int .i64 0, .int .i64 0, .int .i64 0, .int .i64 0, .nils, .bool false], .i64, [], 8⟩),
  (37, ⟨2, true, [(0, (1, false)), (1, (1, false))], 1, 2, 0, 0, [.int .i64 0, .int .i64 0], .i64, [2, 2], 4⟩),
  (43, ⟨14, true, [], 14, 1, 3, 14, List.replicate 14 (.int .i64 0), .i64, List.replicate 14 (2), 5⟩),
  (45, ⟨2, true, [(0, (1, false)), (1, (1, false))], 1, 2, 0, 0, [.int .i64 0, .int .i64 0], .i64, [2, 2], 4⟩),
  (46, ⟨28, true, [], 14, 2, 45, 14, List.replicate 28 (.int .i64 0), .i64, [], 6⟩),
  (67, ⟨1, false, [], 1, 1, 0, 0, [.int .u64 0], .u64, [], 2⟩)
]

theorem T_ok : TabOK Go.Proofs.Tryd.prog T := tabOK_of (by kernel_rfl) (by kernel_rfl)

end Go.Proofs.YtjkakcaljklkhaaDoor.Sx
