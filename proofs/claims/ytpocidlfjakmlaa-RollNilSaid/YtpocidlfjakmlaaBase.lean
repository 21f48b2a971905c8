/-
  The seat's program, and the front end for it.
-/
import Derived.Test.YtpocidlfjakmlaaProg
import Derived.KernelRfl
import Derived.Test.YtpocidlfjakmlaaSxU
namespace Go.Proofs.Ytpocidlfjakmlaa
open Go Go.Sx
theorem Try.mixed : Try.prog.follows .mixedOrders = true := by kernel_rfl
end Go.Proofs.Ytpocidlfjakmlaa
