/- Texts of this seat's own, merged: each begins with its own remark. -/
import Derived.Test.YtnjpkncacddplaaGreatM120
/- Runs for the law TopEtaSpace: Divisors 1. No condition. -/
namespace Go.Proofs.YtnjpkncacddplaaGreat
open Go.Hp Go.Gx Go.Rp Go.Et
set_option maxRecDepth 100000 in
theorem QeY:(List.range' 1 100).all edivR=true:=by kernel_rfl
end Go.Proofs.YtnjpkncacddplaaGreat

/- Runs for the law TopEtaSpace: Divisors 2. No condition. -/
namespace Go.Proofs.YtnjpkncacddplaaGreat
open Go.Hp Go.Gx Go.Rp Go.Et
set_option maxRecDepth 100000 in
theorem QeQ:(List.range' 101 100).all edivR=true:=by kernel_rfl
end Go.Proofs.YtnjpkncacddplaaGreat

/- Runs for the law TopEtaSpace: Divisors 3. No condition. -/
namespace Go.Proofs.YtnjpkncacddplaaGreat
open Go.Hp Go.Gx Go.Rp Go.Et
set_option maxRecDepth 100000 in
theorem Qew:(List.range' 201 100).all edivR=true:=by kernel_rfl
end Go.Proofs.YtnjpkncacddplaaGreat
