/- Chapter 31: the closed values. -/
import Derived.Test.YtbchgegclgpdhaaC0
namespace Go.Proofs.Ytbchgegclgpdhaa.V
open Go Go.Proofs.Ytbchgegclgpdhaa.E
theorem awake_ok : quadformlaw31_awake = some true := c_quadformlaw31_awake.le 300 true (by kernel_rfl)
end Go.Proofs.Ytbchgegclgpdhaa.V
