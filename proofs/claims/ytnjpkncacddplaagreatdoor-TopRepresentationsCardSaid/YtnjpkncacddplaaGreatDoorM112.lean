/- Texts of this seat's own, merged: each begins with its own remark. -/
import Derived.Test.YtnjpkncacddplaaGreatDoorM104
/- The finite check, part 1. Plain. -/
namespace Go.Rp
set_option maxRecDepth 100000 in
theorem QdZ:fd1.all chkd=true:=by kernel_rfl
end Go.Rp

/- The finite check, part 2. Plain. -/
namespace Go.Rp
set_option maxRecDepth 100000 in
theorem QdK:fd2.all chkd=true:=by kernel_rfl
end Go.Rp

/- The finite check, part 3. Plain. -/
namespace Go.Rp
set_option maxRecDepth 100000 in
theorem QeG:fd3.all chkd=true:=by kernel_rfl
end Go.Rp
