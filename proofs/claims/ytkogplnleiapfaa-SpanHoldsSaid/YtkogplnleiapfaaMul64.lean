/- The kit's contract of math/bits.Mul64 at this translation, in plain words. -/
import Derived.Shelf.Bits.Mul64
import Derived.Test.YtkogplnleiapfaaProg
namespace Go.Proofs.Ytkogplnleiapfaa
open Go.Shelf
def Try.lays264_ren : Go.Shelf.Ren := ⟨fun | 264 => /-F-/99 | n => n, fun | 53 => /-T-/111 | 46 => /-T-/134 | n => n, fun | n => n⟩
theorem Try.lays264 : Go.Proofs.Lays.n264 Try.prog Try.lays264_ren := {
  mixed := by kernel_rfl
  f264 := Try.func99.trans (congrArg some (by kernel_rfl))
  t46 := Try.underlying134
  a46 := Try.isAgg134
  z46 := Try.sizeOf134
  v46 := Try.zeroValue134
  t53 := Try.underlying111
  a53 := Try.isAgg111
  z53 := Try.sizeOf111
  v53 := Try.zeroValue111 }
open Go.RowKit Go.Lib in
theorem bits_Mul64 (x y : Nat) (hx : x < 18446744073709551616) (hy : y < 18446744073709551616) (w : World) :
    Calls Try.prog 99 #[.int .u64 x, .int .u64 y] w fun e w' => e = .returned (.tuple #[.int .u64 ((x * y / 18446744073709551616 : Nat) : Int), .int .u64 ((x * y % 18446744073709551616 : Nat) : Int)]) ∧ w' = w := Any.bits_Mul64 Try.lays264 x y hx hy w
end Go.Proofs.Ytkogplnleiapfaa
