import Derived.Test.YtgcnknhfphgfnaaSxL
import Derived.Test.YtgcnknhfphgfnaaProg
/-
  The types that the walked functions use, as the engine's table, and its test.
-/
namespace Go.Proofs.Ytgcnknhfphgfnaa.Sx
open Go
set_option maxRecDepth 100000

def T : Tab := [
  (1, ⟨1, false, [], 1, 1, 0, 0, [.nilf], .i64, [], 0⟩),
  (2, ⟨1, false, [], 1, 1, 0, 0, [.int .i64 0], .i64, [], 2⟩),
  (3, ⟨1, false, [], 1, 1, 0, 0, [.int .i64 0], .i64, [], 2⟩),
  (4, ⟨1, false, [], 1, 1, 0, 0, [.bool false], .i64, [], 1⟩),
  (5, ⟨1, false, [], 1, 1, 0, 0, [.int .u8 0], .u8, [], 2⟩),
  (8, ⟨4, true, [(0, (1, false)), (1, (1, false)), (2, (1, false)), (3, (1, false))], 1, 4, 0, 0, [.int .i64 0, .int .i64 0, .bool false, .int .u8 0], .i64, [2, 2, 1, 2], 4⟩),
  (9, ⟨1, false, [], 1, 1, 0, 0, [.str (ByteArray.mk #[])], .i64, [], 3⟩),
  (10, ⟨1, false, [], 1, 1, 0, 0, [.str (ByteArray.mk #[])], .i64, [], 3⟩),
  (11, ⟨1, false, [], 1, 1, 0, 0, [.str (ByteArray.mk #[])], .i64, [], 3⟩),
  (12, ⟨1, false, [], 1, 1, 0, 0, [.int .u64 0], .u64, [], 2⟩),
  (13, ⟨2, true, [(0, (1, false)), (1, (1, false))], 1, 2, 0, 0, [.str (ByteArray.mk #[]), .int .u64 0], .i64, [], 8⟩),
  (14, ⟨2, true, [(0, (1, false)), (1, (1, false))], 1, 2, 0, 0, [.str (ByteArray.mk #[]), .int .u64 0], .i64, [], 8⟩),
  (15, ⟨1, false, [], 1, 1, 0, 0, [.nilp], .i64, [], 10⟩),
  (16, ⟨1, false, [], 1, 1, 0, 0, [.nilp], .i64, [], 10⟩),
  (17, ⟨1, false, [], 1, 1, 0, 0, [.nilp], .i64, [], 10⟩),
  (18, ⟨1, true, [(0, (1, false))], 1, 1, 0, 0, [.nilp], .i64, [], 8⟩),
  (19, ⟨1, true, [(0, (1, false))], 1, 1, 0, 0, [.nilp], .i64, [], 8⟩),
  (20, ⟨1, false, [], 1, 1, 0, 0, [.nili], .i64, [], 0⟩),
  (21, ⟨1, false, [], 1, 1, 0, 0, [.int .i32 0], .i32, [], 2⟩),
  (22, ⟨1, false, [], 1, 1, 32, 0, [.nils], .i64, [], 7⟩),
  (23, ⟨1, false, [], 1, 1, 0, 0, [.nilf], .i64, [], 0⟩),
  (24, ⟨1, false, [], 1, 1, 0, 0, [.nilp], .i64, [], 10⟩),
  (25, ⟨1, false, [], 1, 1, 0, 0, [.int .i64 0], .i64, [], 2⟩),
  (27, ⟨1, false, [], 1, 1, 0, 0, [.nilf], .i64, [], 0⟩),
  (28, ⟨1, false, [], 1, 1, 0, 0, [.nilf], .i64, [], 0⟩),
  (29, ⟨1, false, [], 1, 1, 0, 0, [.nilp], .i64, [], 10⟩),
  (30, ⟨1, false, [], 1, 1, 0, 0, [.nilf], .i64, [], 0⟩),
  (31, ⟨3, true, [(0, (1, false)), (1, (1, false)), (2, (1, false))], 1, 3, 0, 0, [.int .i64 0, .int .i64 0, .bool false], .i64, [2, 2, 1], 4⟩),
  (32, ⟨3, true, [(0, (1, false)), (1, (1, false)), (2, (1, false))], 1, 3, 0, 0, [.int .i64 0, .int .i64 0, .bool false], .i64, [2, 2, 1], 4⟩),
  (34, ⟨1, false, [], 1, 1, 0, 0, [.nilf], .i64, [], 0⟩),
  (35, ⟨1, false, [], 1, 1, 3, 0, [.nils], .i64, [], 7⟩),
  (36, ⟨1, false, [], 1, 1, 0, 0, [.nilf], .i64, [], 0⟩),
  (37, ⟨1, false, [], 1, 1, 0, 0, [.nilf], .i64, [], 0⟩),
  (38, ⟨1, false, [], 1, 1, 0, 0, [.nilf], .i64, [], 0⟩),
  (39, ⟨1, false, [], 1, 1, 0, 0, [.nilf], .i64, [], 0⟩),
  (40, ⟨1, false, [], 1, 1, 5, 0, [.nils], .i64, [], 7⟩),
  (41, ⟨1, false, [], 1, 1, 0, 0, [.nilf], .i64, [], 0⟩),
  (42, ⟨1, false, [], 1, 1, 0, 0, [.nilf], .i64, [], 0⟩),
  (43, ⟨1, false, [], 1, 1, 0, 0, [.nilf], .i64, [], 0⟩),
  (45, ⟨1, false, [], 1, 1, 0, 0, [.nilf], .i64, [], 0⟩),
  (46, ⟨1, false, [], 1, 1, 72, 0, [.nils], .i64, [], 7⟩),
  (48, ⟨4, true, [(0, (1, false)), (1, (1, false)), (2, (1, false)), (3, (1, false))], 1, 4, 0, 0, [.nils, .nils, .int .i64 0, .int .i64 0], .i64, [], 8⟩),
  (51, ⟨2, true, [], 2, 1, 5, 2, [.int .u8 0, .int .u8 0], .i64, [2, 2], 5⟩),
  (53, ⟨1, false, [], 1, 1, 61, 0, [.nilm], .i64, [], 11⟩),
  (54, ⟨2, true, [], 2, 1, 3, 2, [.int .i64 0, .int .i64 0], .i64, [2, 2], 5⟩),
  (56, ⟨4, true, [(0, (1, false)), (1, (2, true)), (3, (1, false))], 1, 4, 0, 0, [.nilm, .int .i64 0, .int .i64 0, .int .i64 0], .i64, [], 8⟩),
  (59, ⟨1, false, [], 1, 1, 61, 0, [.nils], .i64, [], 7⟩),
  (61, ⟨4, true, [(0, (1, false)), (1, (1, false)), (2, (1, false)), (3, (1, false))], 1, 4, 0, 0, [.int .i64 0, .int .i64 0, .bool false, .bool false], .i64, [2, 2, 1, 1], 4⟩),
  (63, ⟨1, false, [], 1, 1, 0, 0, [.nilp], .i64, [], 10⟩),
  (72, ⟨2, true, [(0, (1, false)), (1, (1, false))], 1, 2, 0, 0, [.int .i64 0, .bool false], .i64, [2, 1], 4⟩),
  (77, ⟨1, false, [], 1, 1, 0, 0, [.nili], .i64, [], 0⟩),
  (85, ⟨1, true, [(0, (1, false))], 1, 1, 0, 0, [.int .i64 0], .i64, [2], 4⟩)
]

theorem T_ok : TabOK Go.Proofs.Try.prog T := tabOK_of (by kernel_rfl) (by kernel_rfl)

end Go.Proofs.Ytgcnknhfphgfnaa.Sx
