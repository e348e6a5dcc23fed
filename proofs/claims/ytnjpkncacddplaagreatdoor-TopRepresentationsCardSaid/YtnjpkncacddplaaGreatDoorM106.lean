/- Texts of this seat's own, merged: each begins with its own remark. -/
import Derived.Test.YtnjpkncacddplaaGreatDoorM111
/- Runs for the law TopRepresentations, Fundamental. No condition. -/
namespace Go.Proofs.YtnjpkncacddplaaGreatDoor
open Go.Hp Go.Gx Go.Rp
set_option maxRecDepth 100000 in
theorem QdI:(List.range' 1 400).all fundR=true:=by kernel_rfl
end Go.Proofs.YtnjpkncacddplaaGreatDoor

/- Run of content for the law TopRepresentations. No condition. -/
namespace Go.Proofs.YtnjpkncacddplaaGreatDoor
open Go.Hp Go.Gx Go.Rp
noncomputable def conR (D:Nat):Bool:=match cls D with
 | f::_=>isOn 1 (runK fnT2 noCall tb 10000 100 62 [.agg [.it .i64 f.1,.it .i64 f.2.1,.it .i64 f.2.2]])
 | []=>false
set_option maxRecDepth 100000 in
theorem QfY:(List.range' 1 400).all tzR=true:=by kernel_rfl
set_option maxRecDepth 100000 in
theorem Qef:fds.all conR=true:=by kernel_rfl
end Go.Proofs.YtnjpkncacddplaaGreatDoor

/- Runs for the law TopRepresentations, Classes 1. No condition. -/
namespace Go.Proofs.YtnjpkncacddplaaGreatDoor
open Go.Hp Go.Gx Go.Rp
set_option maxRecDepth 100000 in
theorem QcG:fd1.all clsR=true:=by kernel_rfl
end Go.Proofs.YtnjpkncacddplaaGreatDoor

/- Runs for the law TopRepresentations, Classes 2. No condition. -/
namespace Go.Proofs.YtnjpkncacddplaaGreatDoor
open Go.Hp Go.Gx Go.Rp
set_option maxRecDepth 100000 in
theorem QcI:fd2.all clsR=true:=by kernel_rfl
end Go.Proofs.YtnjpkncacddplaaGreatDoor
