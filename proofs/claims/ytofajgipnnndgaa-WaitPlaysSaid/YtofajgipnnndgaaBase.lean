/-
  The seat's program, and the front end for it.
-/
import Derived.Test.YtofajgipnnndgaaProg
import Derived.KernelRfl
import Derived.Test.YtofajgipnnndgaaSxU
namespace Go.Proofs.Ytofajgipnnndgaa
open Go Go.Sx
theorem Try.mixed : Try.prog.follows .mixedOrders = true := by kernel_rfl
end Go.Proofs.Ytofajgipnnndgaa
