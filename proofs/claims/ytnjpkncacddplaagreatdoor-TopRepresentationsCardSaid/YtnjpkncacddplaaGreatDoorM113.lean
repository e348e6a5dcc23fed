/- Texts of this seat's own, merged: each begins with its own remark. -/
import Derived.Test.YtnjpkncacddplaaGreatDoorM98
/- bernoulli.summands(1, 23), run. No condition. -/
namespace Go.Proofs.YtnjpkncacddplaaGreatDoor
open Go.Hp Go.Gx
noncomputable def litS:Ran where
 f:=105
 args:=[.one (.it .i64 1),.one (.it .i64 23)]
 r := .one (.one (.sl 0 0 0 23))
 bl:=[⟨68,4,[.bo true,.sl 1 0 0 1,.bo false,.sl 2 0 0 1,.bo true,.sl 3 0 0 1,.bo false,.sl 4 0 0 1,.bo true,.sl 5 0 0 1,.bo false,.sl 6 0 0 1,.bo true,.sl 7 0 0 1,.bo false,.sl 8 0 0 1,.bo true,.sl 9 0 0 1,.bo false,.sl 10 0 0 1,.bo true,.sl 11 0 0 1,.bo false,.sl 12 0 0 1,.bo true,.sl 13 0 0 1,.bo false,.sl 14 0 0 1,.bo true,.sl 15 0 0 1,.bo false,.sl 16 0 0 1,.bo true,.sl 17 0 0 1,.bo false,.sl 18 0 0 1,.bo true,.sl 19 0 0 1,.bo false,.sl 20 0 0 1,.bo true,.sl 21 0 0 1,.bo false,.sl 22 0 0 1,.bo false,.sl 23 0 0 1,.bo false,.sl 24 0 0 1,.bo false,.sl 25 0 0 1,.bo false,.sl 26 0 0 1,.bo false,.sl 27 0 0 1,.bo false,.sl 28 0 0 1,.bo false,.sl 29 0 0 1,.bo false,.sl 30 0 0 1,.bo false,.sl 31 0 0 1,.bo false,.sl 32 0 0 1,.bo false,.sl 33 0 0 1,.bo false,.sl 34 0 0 1,.bo false,.sl 35 0 0 1,.bo false,.sl 36 0 0 1,.bo false,.sl 37 0 0 1,.bo false,.sl 38 0 0 1,.bo false,.sl 39 0 0 1,.bo false,.sl 40 0 0 1,.bo false,.sl 41 0 0 1,.bo false,.sl 42 0 0 1,.bo false,.sl 43 0 0 1,.bo false,.sl 44 0 0 1,.bo false,.sl 45 0 0 1,.bo false,.sl 46 0 0 1],[]⟩,⟨95,1,[.it .u32 (21)],[]⟩,⟨95,1,[.it .u32 (46)],[]⟩,⟨95,1,[.it .u32 (19)],[]⟩,⟨95,1,[.it .u32 (46)],[]⟩,⟨95,1,[.it .u32 (17)],[]⟩,⟨95,1,[.it .u32 (46)],[]⟩,⟨95,1,[.it .u32 (15)],[]⟩,⟨95,1,[.it .u32 (46)],[]⟩,⟨95,1,[.it .u32 (13)],[]⟩,⟨95,1,[.it .u32 (46)],[]⟩,⟨95,1,[.it .u32 (11)],[]⟩,⟨95,1,[.it .u32 (46)],[]⟩,⟨95,1,[.it .u32 (9)],[]⟩,⟨95,1,[.it .u32 (46)],[]⟩,⟨95,1,[.it .u32 (7)],[]⟩,⟨95,1,[.it .u32 (46)],[]⟩,⟨95,1,[.it .u32 (5)],[]⟩,⟨95,1,[.it .u32 (46)],[]⟩,⟨95,1,[.it .u32 (3)],[]⟩,⟨95,1,[.it .u32 (46)],[]⟩,⟨95,1,[.it .u32 (1)],[]⟩,⟨95,1,[.it .u32 (46)],[]⟩,⟨95,1,[.it .u32 (1)],[]⟩,⟨95,1,[.it .u32 (46)],[]⟩,⟨95,1,[.it .u32 (3)],[]⟩,⟨95,1,[.it .u32 (46)],[]⟩,⟨95,1,[.it .u32 (5)],[]⟩,⟨95,1,[.it .u32 (46)],[]⟩,⟨95,1,[.it .u32 (7)],[]⟩,⟨95,1,[.it .u32 (46)],[]⟩,⟨95,1,[.it .u32 (9)],[]⟩,⟨95,1,[.it .u32 (46)],[]⟩,⟨95,1,[.it .u32 (11)],[]⟩,⟨95,1,[.it .u32 (46)],[]⟩,⟨95,1,[.it .u32 (13)],[]⟩,⟨95,1,[.it .u32 (46)],[]⟩,⟨95,1,[.it .u32 (15)],[]⟩,⟨95,1,[.it .u32 (46)],[]⟩,⟨95,1,[.it .u32 (17)],[]⟩,⟨95,1,[.it .u32 (46)],[]⟩,⟨95,1,[.it .u32 (19)],[]⟩,⟨95,1,[.it .u32 (46)],[]⟩,⟨95,1,[.it .u32 (21)],[]⟩,⟨95,1,[.it .u32 (46)],[]⟩,⟨95,1,[.it .u32 (1)],[]⟩,⟨95,1,[.it .u32 (2)],[]⟩]
 σ:=[5193,605,610,812,817,1019,1024,1226,1231,1433,1438,1640,1645,1847,1852,2054,2059,2261,2266,2468,2473,2675,2680,2882,2887,3089,3094,3296,3301,3503,3508,3710,3715,3917,3922,4124,4129,4331,4336,4538,4543,4745,4750,4952,4957,5177,5182]
set_option maxRecDepth 100000 in
theorem Qcw:chk litS (callK fnT (evO 10000 100) tb 10000 100 litS.f 0 litS.args ⟨.nil,0,.nil⟩)=true:=by kernel_rfl
theorem Qek {U:UH} (hQ:TabOK Tryz.prog tys tb U):RanOK Tryz.prog U litS:=Qfw hQ (Vh hQ fnOK (Qdt hQ 10000 100) 10000 100) Qcw
end Go.Proofs.YtnjpkncacddplaaGreatDoor

/- groupsAwake, run. No condition. -/
namespace Go.Proofs.YtnjpkncacddplaaGreatDoor
open Go.Hp Go.Gx
noncomputable def fnS:Tr FI:=Tr.put fuelE fnT 105 none
theorem fnSok:FOK Tryz.prog tys fnS:=QdP fnOK (Nat.le_of_ble_eq_true rfl)
noncomputable def orS:CallF:=relS litS (evO 10000 100)
theorem QfG {U:UH} (hQ:TabOK Tryz.prog tys tb U):CallsOK Tryz.prog U orS:=Qez (Qdt hQ 10000 100) (Qek hQ)
set_option maxRecDepth 100000 in
theorem vO:isTrue (runK fnS orS tb 10000 100 7 [])=true:=by kernel_rfl
theorem Qbp {G:World} {U:UH} {M:MH} (hQ:TabOK Tryz.prog tys tb U):Ct Tryz.prog 7 [] G U M fun v U' _=>U'=U∧v = .bool true :=
 QbI hQ fnSok (QfG hQ) vO rfl
end Go.Proofs.YtnjpkncacddplaaGreatDoor
