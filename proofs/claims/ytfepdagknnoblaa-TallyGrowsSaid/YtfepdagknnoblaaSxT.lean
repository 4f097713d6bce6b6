import Derived.Test.YtfepdagknnoblaaSxL
import Derived.Test.YtfepdagknnoblaaProg
/-
  The types that the walked functions use, as the engine's table, and its test.
-/
namespace Go.Proofs.Ytfepdagknnoblaa.Sx
open Go
set_option maxRecDepth 100000

def T : Tab := [
  (1, ⟨1, false, [], 1, 1, 0, 0, [.nilf], .i64, [], 0⟩),
  (2, ⟨1, false, [], 1, 1, 0, 0, [.int .i64 0], .i64, [], 2⟩),
  (3, ⟨1, false, [], 1, 1, 0, 0, [.int .i64 0], .i64, [], 2⟩),
  (4, ⟨1, false, [], 1, 1, 0, 0, [.bool false], .i64, [], 1⟩),
  (5, ⟨1, false, [], 1, 1, 0, 0, [.int .u8 0], .u8, [], 2⟩),
  (6, ⟨1, false, [], 1, 1, 0, 0, [.int .u8 0], .u8, [], 2⟩),
  (7, ⟨4, true, [(0, (1, false)), (1, (1, false)), (2, (1, false)), (3, (1, false))], 1, 4, 0, 0, [.int .i64 0, .int .i64 0, .bool false, .int .u8 0], .i64, [2, 2, 1, 2], 4⟩),
  (8, ⟨4, true, [(0, (1, false)), (1, (1, false)), (2, (1, false)), (3, (1, false))], 1, 4, 0, 0, [.int .i64 0, .int .i64 0, .bool false, .int .u8 0], .i64, [2, 2, 1, 2], 4⟩),
  (9, ⟨1, false, [], 1, 1, 0, 0, [.str (ByteArray.mk #[])], .i64, [], 3⟩),
  (10, ⟨1, false, [], 1, 1, 0, 0, [.str (ByteArray.mk #[])], .i64, [], 3⟩),
  (11, ⟨1, false, [], 1, 1, 0, 0, [.str (ByteArray.mk #[])], .i64, [], 3⟩),
  (12, ⟨1, false, [], 1, 1, 0, 0, [.int .u64 0], .u64, [], 2⟩),
  (13, ⟨2, true, [(0, (1, false)), (1, (1, false))], 1, 2, 0, 0, [.str (ByteArray.mk #[]), .int .u64 0], .i64, [], 8⟩),
  (14, ⟨2, true, [(0, (1, false)), (1, (1, false))], 1, 2, 0, 0, [.str (ByteArray.mk #[]), .int .u64 0], .i64, [], 8⟩),
  (15, ⟨1, false, [], 1, 1, 0, 0, [.nilp], .i64, [], 0⟩),
  (16, ⟨1, false, [], 1, 1, 0, 0, [.nilp], .i64, [], 0⟩),
  (17, ⟨1, false, [], 1, 1, 0, 0, [.nilp], .i64, [], 0⟩),
  (18, ⟨1, true, [(0, (1, false))], 1, 1, 0, 0, [.nilp], .i64, [], 8⟩),
  (19, ⟨1, true, [(0, (1, false))], 1, 1, 0, 0, [.nilp], .i64, [], 8⟩),
  (20, ⟨1, false, [], 1, 1, 0, 0, [.nili], .i64, [], 0⟩),
  (21, ⟨1, false, [], 1, 1, 0, 0, [.int .i32 0], .i32, [], 2⟩),
  (22, ⟨1, false, [], 1, 1, 0, 0, [.int .u64 0], .u64, [], 2⟩),
  (23, ⟨10, true, [(0, (1, false)), (1, (1, false)), (2, (1, false)), (3, (1, false)), (4, (1, false)), (5, (1, false)), (6, (1, false)), (7, (1, false)), (8, (1, false)), (9, (1, false))], 1, 10, 0, 0, List.replicate 10 (.int .u64 0), .i64, List.replicate 10 (2), 4⟩),
  (24, ⟨10, true, [(0, (1, false)), (1, (1, false)), (2, (1, false)), (3, (1, false)), (4, (1, false)), (5, (1, false)), (6, (1, false)), (7, (1, false)), (8, (1, false)), (9, (1, false))], 1, 10, 0, 0, List.replicate 10 (.int .u64 0), .i64, List.replicate 10 (2), 4⟩),
  (25, ⟨2, true, [(0, (1, false)), (1, (1, false))], 1, 2, 0, 0, [.int .i64 0, .int .u64 0], .i64, [2, 2], 4⟩),
  (26, ⟨2, true, [(0, (1, false)), (1, (1, false))], 1, 2, 0, 0, [.int .i64 0, .int .u64 0], .i64, [2, 2], 4⟩),
  (28, ⟨1, false, [], 1, 1, 0, 0, [.int .i64 0], .i64, [], 2⟩),
  (31, ⟨10, true, [], 10, 1, 22, 10, List.replicate 10 (.int .u64 0), .i64, List.replicate 10 (2), 5⟩),
  (35, ⟨2, true, [], 2, 1, 22, 2, [.int .u64 0, .int .u64 0], .i64, [2, 2], 5⟩),
  (40, ⟨1, false, [], 1, 1, 26, 0, [.nils], .i64, [], 7⟩),
  (45, ⟨10, true, [], 10, 1, 22, 10, List.replicate 10 (.int .u64 0), .i64, List.replicate 10 (2), 5⟩),
  (49, ⟨1, false, [], 1, 1, 22, 0, [.nils], .i64, [], 7⟩),
  (51, ⟨1, false, [], 1, 1, 3, 0, [.nils], .i64, [], 7⟩),
  (52, ⟨1, false, [], 1, 1, 0, 0, [.nilp], .i64, [], 0⟩)
]

theorem T_ok : TabOK Go.Proofs.Try.prog T := tabOK_of (by kernel_rfl) (by kernel_rfl)

end Go.Proofs.Ytfepdagknnoblaa.Sx
