import Derived.Shelf.Slices.Reverse
import Derived.Test.YtdjekplkejkgdaaProg
/-
  The library's slices.Reverse at this program.
-/
namespace Go.Proofs.Ytdjekplkejkgdaa.Sx
open Go Go.Proofs
open Go.Shelf Go.RowKit
def ren112 : Go.Shelf.Ren := ⟨fun | 112 => 34 | n => n, fun | 28 => 36 | n => n, fun n => n⟩
theorem lays112 : Go.Proofs.Lays.n112 Try.prog ren112 := {
  mixed := by kernel_rfl
  f112 := Try.func34.trans (congrArg some (by kernel_rfl))
  t0 := Try.underlying0
  a0 := Try.isAgg0
  z0 := Try.sizeOf0
  v0 := Try.zeroValue0
  t3 := Try.underlying3
  a3 := Try.isAgg3
  z3 := Try.sizeOf3
  v3 := Try.zeroValue3
  t4 := Try.underlying4
  a4 := Try.isAgg4
  z4 := Try.sizeOf4
  v4 := Try.zeroValue4
  t28 := Try.underlying36
  a28 := Try.isAgg36
  z28 := Try.sizeOf36
  v28 := Try.zeroValue36
}
theorem reverse_ok (blk off cap : Nat) (zs : List Int) (w : World) (hH : Sort.Holds (Value.int .i64) w blk off zs.toArray) (hsz : zs.length ≤ 9223372036854775807) :
    Calls Try.prog 34 #[.slice (some ⟨blk, off, none⟩) zs.length cap] w fun e w' => e = .returned (.tuple #[]) ∧ ∃ n, w' = Sort.putRow (Value.int .i64) (Sort.ahead w n) blk off zs.reverse.toArray :=
  Any.slices_Reverse_int lays112 blk off cap zs w hH hsz
theorem reverse_nil (a : Option Addr) (cap : Nat) (w : World) :
    Calls Try.prog 34 #[.slice a 0 cap] w fun e w' => e = .returned (.tuple #[]) ∧ w' = w :=
  Any.slices_Reverse_int_empty lays112 a cap w
end Go.Proofs.Ytdjekplkejkgdaa.Sx
