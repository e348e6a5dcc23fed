/- Texts of this seat's own, merged: each begins with its own remark. -/
import Derived.Test.YtnjpkncacddplaaGreatDoorM111
/- Runs for the law TopRepresentations, Divisors 1. No condition. -/
namespace Go.Proofs.YtnjpkncacddplaaGreatDoor
open Go.Hp Go.Gx Go.Rp
set_option maxRecDepth 100000 in
theorem QcX:(List.range' 1 100).all divR=true:=by kernel_rfl
end Go.Proofs.YtnjpkncacddplaaGreatDoor

/- Runs for the law TopRepresentations, Divisors 2. No condition. -/
namespace Go.Proofs.YtnjpkncacddplaaGreatDoor
open Go.Hp Go.Gx Go.Rp
set_option maxRecDepth 100000 in
theorem Qcf:(List.range' 101 100).all divR=true:=by kernel_rfl
end Go.Proofs.YtnjpkncacddplaaGreatDoor

/- Runs for the law TopRepresentations, Classes 3. No condition. -/
namespace Go.Proofs.YtnjpkncacddplaaGreatDoor
open Go.Hp Go.Gx Go.Rp
set_option maxRecDepth 100000 in
theorem Qdb:fd3.all clsR=true:=by kernel_rfl
end Go.Proofs.YtnjpkncacddplaaGreatDoor
