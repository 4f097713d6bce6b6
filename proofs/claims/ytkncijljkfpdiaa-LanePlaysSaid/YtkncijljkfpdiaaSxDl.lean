import Derived.Shelf.Slices.Delete
import Derived.Test.YtkncijljkfpdiaaProg
/-
  The library's slices.Delete at this program.
-/
namespace Go.Proofs.Ytkncijljkfpdiaa.Sx
open Go Go.Proofs
open Go.Shelf Go.RowKit
def ren23 : Go.Shelf.Ren := ⟨fun | 23 => 35 | n => n, fun | 22 => 28 | n => n, fun n => n⟩
theorem lays23 : Go.Proofs.Lays2.n23 Try.prog ren23 := {
  mixed := by kernel_rfl
  f23 := Try.func35.trans (congrArg some (by kernel_rfl))
  t0 := Try.underlying0
  a0 := Try.isAgg0
  z0 := Try.sizeOf0
  v0 := Try.zeroValue0
  t3 := Try.underlying3
  a3 := Try.isAgg3
  z3 := Try.sizeOf3
  v3 := Try.zeroValue3
  t4 := Try.underlying4
  a4 := Try.isAgg4
  z4 := Try.sizeOf4
  v4 := Try.zeroValue4
  t22 := Try.underlying28
  a22 := Try.isAgg28
  z22 := Try.sizeOf28
  v22 := Try.zeroValue28
  i3 := by kernel_rfl
}
theorem delete_ok (blk off cap i j : Nat) (zs : List Int) (w : World) (hH : Sort.Holds (Value.int .i64) w blk off zs.toArray) (hcap : zs.length ≤ cap) (hm : cap ≤ 9223372036854775807) (hij : i ≤ j) (hj : j ≤ zs.length) :
    Calls Try.prog 35 #[.slice (some ⟨blk, off, none⟩) zs.length cap, .int .i64 i, .int .i64 j] w fun e w' => e = .returned (.slice (some ⟨blk, off, none⟩) (zs.length - (j - i)) cap) ∧ ∃ q, w' = Sort.putRow (Value.int .i64) (Sort.ahead w q) blk off (zs.take i ++ zs.drop j ++ List.replicate (j - i) 0).toArray :=
  Any.slices_Delete_int lays23 blk off cap i j zs w hH hcap hm hij hj
end Go.Proofs.Ytkncijljkfpdiaa.Sx
