/- Texts of this seat's own, merged: each begins with its own remark. -/
import Derived.Test.YtnjpkncacddplaaGreatM120
/- Runs for the law TopEtaSpace: twelve, Psi, Fundamental. No condition. -/
namespace Go.Proofs.YtnjpkncacddplaaGreat
open Go.Hp Go.Gx Go.Rp Go.Et
set_option maxRecDepth 100000 in
theorem QiG:isTrue (runK fnT3 noCall tb0 10000 100 11 [])=true:=by kernel_rfl
set_option maxRecDepth 100000 in
theorem QfH:(List.range' 1 120).all epsiR=true:=by kernel_rfl
set_option maxRecDepth 100000 in
theorem QeU:(List.range' 1 120).all (fun n=>efunR (n:Int))=true:=by kernel_rfl
set_option maxRecDepth 100000 in
theorem QeI:(List.range' 1 120).all (fun n=>efunR (-(n:Int)))=true:=by kernel_rfl
set_option maxRecDepth 100000 in
theorem QhY:(List.range' 1 600).all chk6=true:=by kernel_rfl
end Go.Proofs.YtnjpkncacddplaaGreat

/- Runs for the law TopEtaSpace: Factor 1. No condition. -/
namespace Go.Proofs.YtnjpkncacddplaaGreat
open Go.Hp Go.Gx Go.Rp Go.Et
set_option maxRecDepth 100000 in
theorem Qel:(List.range' 1 200).all efacR=true:=by kernel_rfl
end Go.Proofs.YtnjpkncacddplaaGreat

/- Runs for the law TopEtaSpace: Factor 2. No condition. -/
namespace Go.Proofs.YtnjpkncacddplaaGreat
open Go.Hp Go.Gx Go.Rp Go.Et
set_option maxRecDepth 100000 in
theorem Qez:(List.range' 201 200).all efacR=true:=by kernel_rfl
end Go.Proofs.YtnjpkncacddplaaGreat

/- Runs for the law TopEtaSpace: Factor 3. No condition. -/
namespace Go.Proofs.YtnjpkncacddplaaGreat
open Go.Hp Go.Gx Go.Rp Go.Et
set_option maxRecDepth 100000 in
theorem Qeo:(List.range' 401 200).all efacR=true:=by kernel_rfl
end Go.Proofs.YtnjpkncacddplaaGreat
