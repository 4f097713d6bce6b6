import Derived.Test.YtfmnebdfanaafaaSxL
import Derived.Test.YtfmnebdfanaafaaProg
/-
  The types that the walked functions use, as the engine's table, and its test.
-/
namespace Go.Proofs.Ytfmnebdfanaafaa.Sx
open Go
set_option maxRecDepth 100000

def T : Tab := [
  (1, ⟨1, false, [], 1, 1, 0, 0, [.nilf], .i64, [], 0⟩),
  (2, ⟨1, false, [], 1, 1, 0, 0, [.int .i64 0], .i64, [], 2⟩),
  (3, ⟨1, false, [], 1, 1, 0, 0, [.int .i64 0], .i64, [], 2⟩),
  (4, ⟨1, false, [], 1, 1, 0, 0, [.bool false], .i64, [], 1⟩),
  (7, ⟨4, true, [(0, (1, false)), (1, (1, false)), (2, (1, false)), (3, (1, false))], 1, 4, 0, 0, [.int .i64 0, .int .i64 0, .bool false, .int .u8 0], .i64, [2, 2, 1, 2], 4⟩),
  (8, ⟨4, true, [(0, (1, false)), (1, (1, false)), (2, (1, false)), (3, (1, false))], 1, 4, 0, 0, [.int .i64 0, .int .i64 0, .bool false, .int .u8 0], .i64, [2, 2, 1, 2], 4⟩),
  (9, ⟨1, false, [], 1, 1, 0, 0, [.str (ByteArray.mk #[])], .i64, [], 3⟩),
  (10, ⟨1, false, [], 1, 1, 0, 0, [.str (ByteArray.mk #[])], .i64, [], 3⟩),
  (11, ⟨1, false, [], 1, 1, 0, 0, [.str (ByteArray.mk #[])], .i64, [], 3⟩),
  (12, ⟨1, false, [], 1, 1, 0, 0, [.int .u64 0], .u64, [], 2⟩),
  (13, ⟨2, true, [(0, (1, false)), (1, (1, false))], 1, 2, 0, 0, [.str (ByteArray.mk #[]), .int .u64 0], .i64, [], 8⟩),
  (14, ⟨2, true, [(0, (1, false)), (1, (1, false))], 1, 2, 0, 0, [.str (ByteArray.mk #[]), .int .u64 0], .i64, [], 8⟩),
  (15, ⟨1, false, [], 1, 1, 0, 0, [.nilp], .i64, [], 0⟩),
  (16, ⟨1, false, [], 1, 1, 0, 0, [.nilp], .i64, [], 0⟩),
  (17, ⟨1, false, [], 1, 1, 0, 0, [.nilp], .i64, [], 0⟩),
  (18, ⟨1, true, [(0, (1, false))], 1, 1, 0, 0, [.nilp], .i64, [], 8⟩),
  (19, ⟨1, true, [(0, (1, false))], 1, 1, 0, 0, [.nilp], .i64, [], 8⟩),
  (20, ⟨1, false, [], 1, 1, 0, 0, [.nili], .i64, [], 0⟩),
  (21, ⟨1, false, [], 1, 1, 0, 0, [.int .i32 0], .i32, [], 2⟩),
  (22, ⟨1, false, [], 1, 1, 3, 0, [.nils], .i64, [], 7⟩),
  (23, ⟨3, true, [(0, (1, false)), (1, (1, false)), (2, (1, false))], 1, 3, 0, 0, [.int .i64 0, .int .i64 0, .int .i64 0], .i64, [2, 2, 2], 4⟩),
  (24, ⟨3, true, [(0, (1, false)), (1, (1, false)), (2, (1, false))], 1, 3, 0, 0, [.int .i64 0, .int .i64 0, .int .i64 0], .i64, [2, 2, 2], 4⟩),
  (25, ⟨1, false, [], 1, 1, 0, 0, [.nilf], .i64, [], 0⟩),
  (26, ⟨2, true, [(0, (1, false)), (1, (1, false))], 1, 2, 0, 0, [.int .i64 0, .int .i64 0], .i64, [2, 2], 4⟩),
  (27, ⟨2, true, [(0, (1, false)), (1, (1, false))], 1, 2, 0, 0, [.int .i64 0, .int .i64 0], .i64, [2, 2], 4⟩),
  (28, ⟨1, false, [], 1, 1, 0, 0, [.int .i64 0], .i64, [], 2⟩),
  (32, ⟨4, true, [], 2, 2, 27, 2, [.int .i64 0, .int .i64 0, .int .i64 0, .int .i64 0], .i64, [], 6⟩),
  (33, ⟨1, false, [], 1, 1, 27, 0, [.nils], .i64, [], 7⟩),
  (45, ⟨1, false, [], 1, 1, 0, 0, [.nilf], .i64, [], 0⟩),
  (48, ⟨256, true, [], 256, 1, 4, 256, List.replicate 256 (.bool false), .i64, List.replicate 256 (1), 5⟩)
]

theorem T_ok : TabOK Go.Proofs.Try.prog T := tabOK_of (by kernel_rfl) (by kernel_rfl)

end Go.Proofs.Ytfmnebdfanaafaa.Sx
