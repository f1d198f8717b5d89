/-
  A codec that takes whatever a block is.
-/
import Derived.Test.YthpndhdpohmoaaaCodec
namespace Go.Cor
def tkAll : List Int → Bool := fun _ => true
theorem tak_all (xs : List Int) : tak tkAll xs = blk xs.length := by unfold tak tkAll; simp
theorem wrg_all (xs : List Int) : wrg tkAll xs = if blk xs.length then 0 else 7 := by unfold wrg tkAll; simp
end Go.Cor
