/- The fixed examples of the law's own check give true, by computation. No condition. -/
import Derived.Test.YtncdbpobpkmliaaGreatBnX
namespace Go.Av
open Go
theorem awake38 : PCall env (cloneExt [125]) 159 [] (.s (.c (.bool true))) := PCall.of_quick (xeN_ok [125]) 1000000 (by kernel_rfl)
end Go.Av
