/- Texts of this seat's own, merged: each begins with its own remark. -/
import Derived.Test.YtnjpkncacddplaaGreatDoorM111
/- Runs for the law TopRepresentations, Divisors 3. No condition. -/
namespace Go.Proofs.YtnjpkncacddplaaGreatDoor
open Go.Hp Go.Gx Go.Rp
set_option maxRecDepth 100000 in
theorem Qcj:(List.range' 201 100).all divR=true:=by kernel_rfl
end Go.Proofs.YtnjpkncacddplaaGreatDoor

/- Runs for the law TopRepresentations, Divisors 4. No condition. -/
namespace Go.Proofs.YtnjpkncacddplaaGreatDoor
open Go.Hp Go.Gx Go.Rp
set_option maxRecDepth 100000 in
theorem Qcl:(List.range' 301 100).all divR=true:=by kernel_rfl
end Go.Proofs.YtnjpkncacddplaaGreatDoor
