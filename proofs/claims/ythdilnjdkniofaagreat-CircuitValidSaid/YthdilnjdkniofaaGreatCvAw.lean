/- The fixed examples of the law's own check give true, by computation. No condition. -/
import Derived.Test.YthdilnjdkniofaaGreatBnX
namespace Go.Av
open Go
/-- The closed examples of law29. -/
theorem awake29 : PCall env (cloneExt []) 179 [] (.s (.c (.bool true))) := PCall.of_quick (xeN_ok []) 1000000 (by kernel_rfl)
end Go.Av
