/- Texts of this seat's own, merged: each begins with its own remark. -/
import Derived.Test.YtnjpkncacddplaaGreatM120
/- Runs for the law TopEtaSpace: Divisors 4. No condition. -/
namespace Go.Proofs.YtnjpkncacddplaaGreat
open Go.Hp Go.Gx Go.Rp Go.Et
set_option maxRecDepth 100000 in
theorem Qem:(List.range' 301 100).all edivR=true:=by kernel_rfl
end Go.Proofs.YtnjpkncacddplaaGreat

/- Runs for the law TopEtaSpace: Divisors 5. No condition. -/
namespace Go.Proofs.YtnjpkncacddplaaGreat
open Go.Hp Go.Gx Go.Rp Go.Et
set_option maxRecDepth 100000 in
theorem QeC:(List.range' 401 100).all edivR=true:=by kernel_rfl
end Go.Proofs.YtnjpkncacddplaaGreat

/- Runs for the law TopEtaSpace: Divisors 6. No condition. -/
namespace Go.Proofs.YtnjpkncacddplaaGreat
open Go.Hp Go.Gx Go.Rp Go.Et
set_option maxRecDepth 100000 in
theorem Qet:(List.range' 501 100).all edivR=true:=by kernel_rfl
end Go.Proofs.YtnjpkncacddplaaGreat
