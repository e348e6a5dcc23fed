/- groupsAwake, run. No condition. -/
import Derived.Test.YtnjpkncacddplaaGreatDoorGl1
namespace Go.Proofs.YtnjpkncacddplaaGreatDoor
open Go.Hp Go.Gx
noncomputable def fnS:Tr FI:=Tr.put fuelE fnT 105 none
theorem fnSok:FOK Tryz.prog tys fnS:=QeJ fnOK (Nat.le_of_ble_eq_true rfl)
noncomputable def orS:CallF:=relS litS (evO 10000 100)
theorem Qgr {U:UH} (hQ:TabOK Tryz.prog tys tb U):CallsOK Tryz.prog U orS:=QeB (QdR hQ 10000 100) (Qfw hQ)
set_option maxRecDepth 100000 in
theorem QaI:isTrue (runK fnS orS tb 10000 100 7 [])=true:=by kernel_rfl
theorem QcD {G:World} {U:UH} {M:MH} (hQ:TabOK Tryz.prog tys tb U):Ct Tryz.prog 7 [] G U M fun v U' _=>U'=U∧v = .bool true :=
 Qcy hQ fnSok (Qgr hQ) QaI rfl
end Go.Proofs.YtnjpkncacddplaaGreatDoor
