/- Texts of this seat's own, merged: each begins with its own remark. -/
import Derived.Test.YtnjpkncacddplaaGreatDoorM98
/- Closed calls, run (printed by ran.py). No condition. -/
namespace Go.Proofs.YtnjpkncacddplaaGreatDoor
open Go.Hp Go.Gx
noncomputable def litB:Ran where
 f:=40
 args:=[.one (.it .i64 2),.one (.it .i64 1)]
 r := .tup [.agg [.bo false,.sl 0 0 0 1,.bo false,.sl 1 0 0 1],.one (.it .i64 (0))]
 bl:=[⟨95,1,[.it .u32 (1)],[]⟩,⟨95,1,[.it .u32 (6)],[]⟩]
 σ:=[1163,1168]
set_option maxRecDepth 100000 in
theorem QkF:chk litB (callK fnT (evO 10000 100) tb 10000 100 litB.f 0 litB.args ⟨.nil,0,.nil⟩)=true:=by kernel_rfl
theorem Qld {U:UH} (hQ:TabOK Tryz.prog tys tb U):RanOK Tryz.prog U litB:=Qz hQ (Qq hQ fnOK (JP hQ 10000 100) 10000 100) QkF
noncomputable def litE1:Ran where
 f:=134
 args:=[.one (.it .i64 1),.one (.it .i64 1),.one (.it .i64 1),.one (.it .i64 1)]
 r := .one (.agg [.bo false,.sl 0 0 0 1])
 bl:=[⟨95,1,[.it .u32 (1),.it .u32 (0)],[]⟩]
 σ:=[31]
set_option maxRecDepth 100000 in
theorem Qhp:chk litE1 (callK fnT (evO 10000 100) tb 10000 100 litE1.f 0 litE1.args ⟨.nil,0,.nil⟩)=true:=by kernel_rfl
theorem QiW {U:UH} (hQ:TabOK Tryz.prog tys tb U):RanOK Tryz.prog U litE1:=Qz hQ (Qq hQ fnOK (JP hQ 10000 100) 10000 100) Qhp
noncomputable def litE2:Ran where
 f:=134
 args:=[.one (.it .i64 1),.one (.it .i64 1),.one (.it .i64 1),.one (.it .i64 2)]
 r := .one (.agg [.bo false,.sl 0 0 0 1])
 bl:=[⟨95,1,[.it .u32 (3),.it .u32 (0)],[]⟩]
 σ:=[60]
set_option maxRecDepth 100000 in
theorem QhF:chk litE2 (callK fnT (evO 10000 100) tb 10000 100 litE2.f 0 litE2.args ⟨.nil,0,.nil⟩)=true:=by kernel_rfl
theorem QkA {U:UH} (hQ:TabOK Tryz.prog tys tb U):RanOK Tryz.prog U litE2:=Qz hQ (Qq hQ fnOK (JP hQ 10000 100) 10000 100) QhF
noncomputable def litE3:Ran where
 f:=134
 args:=[.one (.it .i64 1),.one (.it .i64 1),.one (.it .i64 1),.one (.it .i64 3)]
 r := .one (.agg [.bo false,.sl 0 0 0 1])
 bl:=[⟨95,1,[.it .u32 (4),.it .u32 (0)],[]⟩]
 σ:=[60]
set_option maxRecDepth 100000 in
theorem QgX:chk litE3 (callK fnT (evO 10000 100) tb 10000 100 litE3.f 0 litE3.args ⟨.nil,0,.nil⟩)=true:=by kernel_rfl
theorem QjF {U:UH} (hQ:TabOK Tryz.prog tys tb U):RanOK Tryz.prog U litE3:=Qz hQ (Qq hQ fnOK (JP hQ 10000 100) 10000 100) QgX
noncomputable def litE4:Ran where
 f:=134
 args:=[.one (.it .i64 1),.one (.it .i64 1),.one (.it .i64 1),.one (.it .i64 4)]
 r := .one (.agg [.bo false,.sl 0 0 0 1])
 bl:=[⟨95,1,[.it .u32 (7),.it .u32 (0)],[]⟩]
 σ:=[89]
set_option maxRecDepth 100000 in
theorem Qhh:chk litE4 (callK fnT (evO 10000 100) tb 10000 100 litE4.f 0 litE4.args ⟨.nil,0,.nil⟩)=true:=by kernel_rfl
theorem Qks {U:UH} (hQ:TabOK Tryz.prog tys tb U):RanOK Tryz.prog U litE4:=Qz hQ (Qq hQ fnOK (JP hQ 10000 100) 10000 100) Qhh
noncomputable def litE5:Ran where
 f:=134
 args:=[.one (.it .i64 1),.one (.it .i64 1),.one (.it .i64 1),.one (.it .i64 5)]
 r := .one (.agg [.bo false,.sl 0 0 0 1])
 bl:=[⟨95,1,[.it .u32 (6),.it .u32 (0)],[]⟩]
 σ:=[60]
set_option maxRecDepth 100000 in
theorem QhZ:chk litE5 (callK fnT (evO 10000 100) tb 10000 100 litE5.f 0 litE5.args ⟨.nil,0,.nil⟩)=true:=by kernel_rfl
theorem Qkx {U:UH} (hQ:TabOK Tryz.prog tys tb U):RanOK Tryz.prog U litE5:=Qz hQ (Qq hQ fnOK (JP hQ 10000 100) 10000 100) QhZ
noncomputable def litE6:Ran where
 f:=134
 args:=[.one (.it .i64 1),.one (.it .i64 1),.one (.it .i64 1),.one (.it .i64 6)]
 r := .one (.agg [.bo false,.sl 0 0 0 1])
 bl:=[⟨95,1,[.it .u32 (12),.it .u32 (0)],[]⟩]
 σ:=[118]
set_option maxRecDepth 100000 in
theorem QhA:chk litE6 (callK fnT (evO 10000 100) tb 10000 100 litE6.f 0 litE6.args ⟨.nil,0,.nil⟩)=true:=by kernel_rfl
theorem QiK {U:UH} (hQ:TabOK Tryz.prog tys tb U):RanOK Tryz.prog U litE6:=Qz hQ (Qq hQ fnOK (JP hQ 10000 100) 10000 100) QhA
noncomputable def litE7:Ran where
 f:=134
 args:=[.one (.it .i64 1),.one (.it .i64 1),.one (.it .i64 1),.one (.it .i64 7)]
 r := .one (.agg [.bo false,.sl 0 0 0 1])
 bl:=[⟨95,1,[.it .u32 (8),.it .u32 (0)],[]⟩]
 σ:=[60]
set_option maxRecDepth 100000 in
theorem Qhx:chk litE7 (callK fnT (evO 10000 100) tb 10000 100 litE7.f 0 litE7.args ⟨.nil,0,.nil⟩)=true:=by kernel_rfl
theorem Qji {U:UH} (hQ:TabOK Tryz.prog tys tb U):RanOK Tryz.prog U litE7:=Qz hQ (Qq hQ fnOK (JP hQ 10000 100) 10000 100) Qhx
noncomputable def litE8:Ran where
 f:=134
 args:=[.one (.it .i64 1),.one (.it .i64 1),.one (.it .i64 1),.one (.it .i64 8)]
 r := .one (.agg [.bo false,.sl 0 0 0 1])
 bl:=[⟨95,1,[.it .u32 (15),.it .u32 (0)],[]⟩]
 σ:=[118]
set_option maxRecDepth 100000 in
theorem Qhr:chk litE8 (callK fnT (evO 10000 100) tb 10000 100 litE8.f 0 litE8.args ⟨.nil,0,.nil⟩)=true:=by kernel_rfl
theorem QiF {U:UH} (hQ:TabOK Tryz.prog tys tb U):RanOK Tryz.prog U litE8:=Qz hQ (Qq hQ fnOK (JP hQ 10000 100) 10000 100) Qhr
noncomputable def litE9:Ran where
 f:=134
 args:=[.one (.it .i64 1),.one (.it .i64 1),.one (.it .i64 1),.one (.it .i64 9)]
 r := .one (.agg [.bo false,.sl 0 0 0 1])
 bl:=[⟨95,1,[.it .u32 (13),.it .u32 (0)],[]⟩]
 σ:=[89]
set_option maxRecDepth 100000 in
theorem QhC:chk litE9 (callK fnT (evO 10000 100) tb 10000 100 litE9.f 0 litE9.args ⟨.nil,0,.nil⟩)=true:=by kernel_rfl
theorem Qiq {U:UH} (hQ:TabOK Tryz.prog tys tb U):RanOK Tryz.prog U litE9:=Qz hQ (Qq hQ fnOK (JP hQ 10000 100) 10000 100) QhC
noncomputable def litE10:Ran where
 f:=134
 args:=[.one (.it .i64 1),.one (.it .i64 1),.one (.it .i64 1),.one (.it .i64 10)]
 r := .one (.agg [.bo false,.sl 0 0 0 1])
 bl:=[⟨95,1,[.it .u32 (18),.it .u32 (0)],[]⟩]
 σ:=[118]
set_option maxRecDepth 100000 in
theorem QfH:chk litE10 (callK fnT (evO 10000 100) tb 10000 100 litE10.f 0 litE10.args ⟨.nil,0,.nil⟩)=true:=by kernel_rfl
theorem QhW {U:UH} (hQ:TabOK Tryz.prog tys tb U):RanOK Tryz.prog U litE10:=Qz hQ (Qq hQ fnOK (JP hQ 10000 100) 10000 100) QfH
noncomputable def litE11:Ran where
 f:=134
 args:=[.one (.it .i64 1),.one (.it .i64 1),.one (.it .i64 1),.one (.it .i64 11)]
 r := .one (.agg [.bo false,.sl 0 0 0 1])
 bl:=[⟨95,1,[.it .u32 (12),.it .u32 (0)],[]⟩]
 σ:=[60]
set_option maxRecDepth 100000 in
theorem Qfe:chk litE11 (callK fnT (evO 10000 100) tb 10000 100 litE11.f 0 litE11.args ⟨.nil,0,.nil⟩)=true:=by kernel_rfl
theorem Qhb {U:UH} (hQ:TabOK Tryz.prog tys tb U):RanOK Tryz.prog U litE11:=Qz hQ (Qq hQ fnOK (JP hQ 10000 100) 10000 100) Qfe
noncomputable def litE12:Ran where
 f:=134
 args:=[.one (.it .i64 1),.one (.it .i64 1),.one (.it .i64 1),.one (.it .i64 12)]
 r := .one (.agg [.bo false,.sl 0 0 0 1])
 bl:=[⟨95,1,[.it .u32 (28),.it .u32 (0)],[]⟩]
 σ:=[176]
set_option maxRecDepth 100000 in
theorem QeT:chk litE12 (callK fnT (evO 10000 100) tb 10000 100 litE12.f 0 litE12.args ⟨.nil,0,.nil⟩)=true:=by kernel_rfl
theorem QhR {U:UH} (hQ:TabOK Tryz.prog tys tb U):RanOK Tryz.prog U litE12:=Qz hQ (Qq hQ fnOK (JP hQ 10000 100) 10000 100) QeT
noncomputable def litE13:Ran where
 f:=134
 args:=[.one (.it .i64 1),.one (.it .i64 1),.one (.it .i64 1),.one (.it .i64 13)]
 r := .one (.agg [.bo false,.sl 0 0 0 1])
 bl:=[⟨95,1,[.it .u32 (14),.it .u32 (0)],[]⟩]
 σ:=[60]
set_option maxRecDepth 100000 in
theorem QfC:chk litE13 (callK fnT (evO 10000 100) tb 10000 100 litE13.f 0 litE13.args ⟨.nil,0,.nil⟩)=true:=by kernel_rfl
theorem QhO {U:UH} (hQ:TabOK Tryz.prog tys tb U):RanOK Tryz.prog U litE13:=Qz hQ (Qq hQ fnOK (JP hQ 10000 100) 10000 100) QfC
noncomputable def litE14:Ran where
 f:=134
 args:=[.one (.it .i64 1),.one (.it .i64 1),.one (.it .i64 1),.one (.it .i64 14)]
 r := .one (.agg [.bo false,.sl 0 0 0 1])
 bl:=[⟨95,1,[.it .u32 (24),.it .u32 (0)],[]⟩]
 σ:=[118]
set_option maxRecDepth 100000 in
theorem QeP:chk litE14 (callK fnT (evO 10000 100) tb 10000 100 litE14.f 0 litE14.args ⟨.nil,0,.nil⟩)=true:=by kernel_rfl
theorem Qhd {U:UH} (hQ:TabOK Tryz.prog tys tb U):RanOK Tryz.prog U litE14:=Qz hQ (Qq hQ fnOK (JP hQ 10000 100) 10000 100) QeP
noncomputable def litE15:Ran where
 f:=134
 args:=[.one (.it .i64 1),.one (.it .i64 1),.one (.it .i64 1),.one (.it .i64 15)]
 r := .one (.agg [.bo false,.sl 0 0 0 1])
 bl:=[⟨95,1,[.it .u32 (24),.it .u32 (0)],[]⟩]
 σ:=[118]
set_option maxRecDepth 100000 in
theorem Qff:chk litE15 (callK fnT (evO 10000 100) tb 10000 100 litE15.f 0 litE15.args ⟨.nil,0,.nil⟩)=true:=by kernel_rfl
theorem Qhs {U:UH} (hQ:TabOK Tryz.prog tys tb U):RanOK Tryz.prog U litE15:=Qz hQ (Qq hQ fnOK (JP hQ 10000 100) 10000 100) Qff
noncomputable def fnQ:Tr FI:=Tr.put fuelE (Tr.put fuelE fnT 134 none) 40 none
theorem fnQok:FOK Tryz.prog tys fnQ:=QgS (QgS fnOK (Nat.le_of_ble_eq_true rfl)) (Nat.le_of_ble_eq_true rfl)
noncomputable def orE:CallF:=(relS litE15 (relS litE14 (relS litE13 (relS litE12 (relS litE11 (relS litE10 (relS litE9 (relS litE8 (relS litE7 (relS litE6 (relS litE5 (relS litE4 (relS litE3 (relS litE2 (relS litE1 (relS litB (evO 10000 100)))))))))))))))))
theorem QQ {U:UH} (hQ:TabOK Tryz.prog tys tb U):CallsOK Tryz.prog U orE:=(JA (JA (JA (JA (JA (JA (JA (JA (JA (JA (JA (JA (JA (JA (JA (JA (JP hQ 10000 100) (Qld hQ)) (QiW hQ)) (QkA hQ)) (QjF hQ)) (Qks hQ)) (Qkx hQ)) (QiK hQ)) (Qji hQ)) (QiF hQ)) (Qiq hQ)) (QhW hQ)) (Qhb hQ)) (QhR hQ)) (QhO hQ)) (Qhd hQ)) (Qhs hQ))
end Go.Proofs.YtnjpkncacddplaaGreatDoor

/- Closed calls, run (printed by ran.py). No condition. -/
namespace Go.Proofs.YtnjpkncacddplaaGreatDoor
open Go.Hp Go.Gx
noncomputable def vK:Ran where
 f:=23
 args:=[.one (.it .i64 2),.one (.it .i64 1),.one (.it .i64 1),.one (.it .i64 2),.one (.it .i64 1)]
 r := .tup [.agg [.it .i64 (0),.sl 0 0 0 1],.one (.it .i64 (0))]
 bl:=[⟨68,4,[.bo false,.sl 1 0 0 1,.bo false,.sl 2 0 0 1],[]⟩,⟨95,1,[.it .u32 (1)],[]⟩,⟨95,1,[.it .u32 (24)],[]⟩]
 σ:=[251,261,266]
set_option maxRecDepth 100000 in
theorem QcZ:chk vK (callK fnQ orE tb 10000 100 vK.f 0 vK.args ⟨.nil,0,.nil⟩)=true:=by kernel_rfl
theorem QeV {U:UH} (hQ:TabOK Tryz.prog tys tb U):RanOK Tryz.prog U vK:=Qz hQ (Qq hQ fnQok (QQ hQ) 10000 100) QcZ
noncomputable def yX:Ran where
 f:=23
 args:=[.one (.it .i64 2),.one (.it .i64 1),.one (.it .i64 1),.one (.it .i64 2),.one (.it .i64 2)]
 r := .tup [.agg [.it .i64 (0),.sl 0 0 0 2],.one (.it .i64 (0))]
 bl:=[⟨68,4,[.bo false,.sl 1 0 0 1,.bo false,.sl 2 0 0 1,.bo false,.sl 3 0 0 1,.bo false,.sl 4 0 0 1],[]⟩,⟨95,1,[.it .u32 (1)],[]⟩,⟨95,1,[.it .u32 (24)],[]⟩,⟨95,1,[.it .u32 (1)],[]⟩,⟨95,1,[.it .u32 (1)],[]⟩]
 σ:=[333,343,348,368,373]
set_option maxRecDepth 100000 in
theorem QcP:chk yX (callK fnQ orE tb 10000 100 yX.f 0 yX.args ⟨.nil,0,.nil⟩)=true:=by kernel_rfl
theorem Qfl {U:UH} (hQ:TabOK Tryz.prog tys tb U):RanOK Tryz.prog U yX:=Qz hQ (Qq hQ fnQok (QQ hQ) 10000 100) QcP
noncomputable def vB:Ran where
 f:=23
 args:=[.one (.it .i64 2),.one (.it .i64 1),.one (.it .i64 1),.one (.it .i64 2),.one (.it .i64 3)]
 r := .tup [.agg [.it .i64 (0),.sl 0 0 0 3],.one (.it .i64 (0))]
 bl:=[⟨68,4,[.bo false,.sl 1 0 0 1,.bo false,.sl 2 0 0 1,.bo false,.sl 3 0 0 1,.bo false,.sl 4 0 0 1,.bo false,.sl 5 0 0 1,.bo false,.sl 6 0 0 1],[]⟩,⟨95,1,[.it .u32 (1)],[]⟩,⟨95,1,[.it .u32 (24)],[]⟩,⟨95,1,[.it .u32 (1)],[]⟩,⟨95,1,[.it .u32 (1)],[]⟩,⟨95,1,[.it .u32 (1)],[]⟩,⟨95,1,[.it .u32 (1)],[]⟩]
 σ:=[421,431,436,456,461,474,479]
set_option maxRecDepth 100000 in
theorem QdG:chk vB (callK fnQ orE tb 10000 100 vB.f 0 vB.args ⟨.nil,0,.nil⟩)=true:=by kernel_rfl
theorem QfF {U:UH} (hQ:TabOK Tryz.prog tys tb U):RanOK Tryz.prog U vB:=Qz hQ (Qq hQ fnQok (QQ hQ) 10000 100) QdG
noncomputable def vM:Ran where
 f:=23
 args:=[.one (.it .i64 2),.one (.it .i64 1),.one (.it .i64 1),.one (.it .i64 2),.one (.it .i64 4)]
 r := .tup [.agg [.it .i64 (0),.sl 0 0 0 4],.one (.it .i64 (0))]
 bl:=[⟨68,4,[.bo false,.sl 1 0 0 1,.bo false,.sl 2 0 0 1,.bo false,.sl 3 0 0 1,.bo false,.sl 4 0 0 1,.bo false,.sl 5 0 0 1,.bo false,.sl 6 0 0 1,.bo false,.sl 7 0 0 1,.bo false,.sl 8 0 0 1],[]⟩,⟨95,1,[.it .u32 (1)],[]⟩,⟨95,1,[.it .u32 (24)],[]⟩,⟨95,1,[.it .u32 (1)],[]⟩,⟨95,1,[.it .u32 (1)],[]⟩,⟨95,1,[.it .u32 (1)],[]⟩,⟨95,1,[.it .u32 (1)],[]⟩,⟨95,1,[.it .u32 (4)],[]⟩,⟨95,1,[.it .u32 (1)],[]⟩]
 σ:=[503,513,518,538,543,556,561,574,579]
set_option maxRecDepth 100000 in
theorem Qdb:chk vM (callK fnQ orE tb 10000 100 vM.f 0 vM.args ⟨.nil,0,.nil⟩)=true:=by kernel_rfl
theorem QeZ {U:UH} (hQ:TabOK Tryz.prog tys tb U):RanOK Tryz.prog U vM:=Qz hQ (Qq hQ fnQok (QQ hQ) 10000 100) Qdb
noncomputable def vA:Ran where
 f:=23
 args:=[.one (.it .i64 2),.one (.it .i64 1),.one (.it .i64 1),.one (.it .i64 2),.one (.it .i64 5)]
 r := .tup [.agg [.it .i64 (0),.sl 0 0 0 5],.one (.it .i64 (0))]
 bl:=[⟨68,4,[.bo false,.sl 1 0 0 1,.bo false,.sl 2 0 0 1,.bo false,.sl 3 0 0 1,.bo false,.sl 4 0 0 1,.bo false,.sl 5 0 0 1,.bo false,.sl 6 0 0 1,.bo false,.sl 7 0 0 1,.bo false,.sl 8 0 0 1,.bo false,.sl 9 0 0 1,.bo false,.sl 10 0 0 1],[]⟩,⟨95,1,[.it .u32 (1)],[]⟩,⟨95,1,[.it .u32 (24)],[]⟩,⟨95,1,[.it .u32 (1)],[]⟩,⟨95,1,[.it .u32 (1)],[]⟩,⟨95,1,[.it .u32 (1)],[]⟩,⟨95,1,[.it .u32 (1)],[]⟩,⟨95,1,[.it .u32 (4)],[]⟩,⟨95,1,[.it .u32 (1)],[]⟩,⟨95,1,[.it .u32 (1)],[]⟩,⟨95,1,[.it .u32 (1)],[]⟩]
 σ:=[591,601,606,626,631,644,649,662,667,680,685]
set_option maxRecDepth 100000 in
theorem QcL:chk vA (callK fnQ orE tb 10000 100 vA.f 0 vA.args ⟨.nil,0,.nil⟩)=true:=by kernel_rfl
theorem Qfc {U:UH} (hQ:TabOK Tryz.prog tys tb U):RanOK Tryz.prog U vA:=Qz hQ (Qq hQ fnQok (QQ hQ) 10000 100) QcL
noncomputable def vH:Ran where
 f:=23
 args:=[.one (.it .i64 2),.one (.it .i64 1),.one (.it .i64 1),.one (.it .i64 2),.one (.it .i64 6)]
 r := .tup [.agg [.it .i64 (0),.sl 0 0 0 6],.one (.it .i64 (0))]
 bl:=[⟨68,4,[.bo false,.sl 1 0 0 1,.bo false,.sl 2 0 0 1,.bo false,.sl 3 0 0 1,.bo false,.sl 4 0 0 1,.bo false,.sl 5 0 0 1,.bo false,.sl 6 0 0 1,.bo false,.sl 7 0 0 1,.bo false,.sl 8 0 0 1,.bo false,.sl 9 0 0 1,.bo false,.sl 10 0 0 1,.bo false,.sl 11 0 0 1,.bo false,.sl 12 0 0 1],[]⟩,⟨95,1,[.it .u32 (1)],[]⟩,⟨95,1,[.it .u32 (24)],[]⟩,⟨95,1,[.it .u32 (1)],[]⟩,⟨95,1,[.it .u32 (1)],[]⟩,⟨95,1,[.it .u32 (1)],[]⟩,⟨95,1,[.it .u32 (1)],[]⟩,⟨95,1,[.it .u32 (4)],[]⟩,⟨95,1,[.it .u32 (1)],[]⟩,⟨95,1,[.it .u32 (1)],[]⟩,⟨95,1,[.it .u32 (1)],[]⟩,⟨95,1,[.it .u32 (6)],[]⟩,⟨95,1,[.it .u32 (1)],[]⟩]
 σ:=[673,683,688,708,713,726,731,744,749,762,767,780,785]
set_option maxRecDepth 100000 in
theorem Qed:chk vH (callK fnQ orE tb 10000 100 vH.f 0 vH.args ⟨.nil,0,.nil⟩)=true:=by kernel_rfl
theorem Qfv {U:UH} (hQ:TabOK Tryz.prog tys tb U):RanOK Tryz.prog U vH:=Qz hQ (Qq hQ fnQok (QQ hQ) 10000 100) Qed
noncomputable def yQ:Ran where
 f:=23
 args:=[.one (.it .i64 2),.one (.it .i64 1),.one (.it .i64 1),.one (.it .i64 2),.one (.it .i64 7)]
 r := .tup [.agg [.it .i64 (0),.sl 0 0 0 7],.one (.it .i64 (0))]
 bl:=[⟨68,4,[.bo false,.sl 1 0 0 1,.bo false,.sl 2 0 0 1,.bo false,.sl 3 0 0 1,.bo false,.sl 4 0 0 1,.bo false,.sl 5 0 0 1,.bo false,.sl 6 0 0 1,.bo false,.sl 7 0 0 1,.bo false,.sl 8 0 0 1,.bo false,.sl 9 0 0 1,.bo false,.sl 10 0 0 1,.bo false,.sl 11 0 0 1,.bo false,.sl 12 0 0 1,.bo false,.sl 13 0 0 1,.bo false,.sl 14 0 0 1],[]⟩,⟨95,1,[.it .u32 (1)],[]⟩,⟨95,1,[.it .u32 (24)],[]⟩,⟨95,1,[.it .u32 (1)],[]⟩,⟨95,1,[.it .u32 (1)],[]⟩,⟨95,1,[.it .u32 (1)],[]⟩,⟨95,1,[.it .u32 (1)],[]⟩,⟨95,1,[.it .u32 (4)],[]⟩,⟨95,1,[.it .u32 (1)],[]⟩,⟨95,1,[.it .u32 (1)],[]⟩,⟨95,1,[.it .u32 (1)],[]⟩,⟨95,1,[.it .u32 (6)],[]⟩,⟨95,1,[.it .u32 (1)],[]⟩,⟨95,1,[.it .u32 (4)],[]⟩,⟨95,1,[.it .u32 (1)],[]⟩]
 σ:=[761,771,776,796,801,814,819,832,837,850,855,868,873,886,891]
set_option maxRecDepth 100000 in
theorem QcX:chk yQ (callK fnQ orE tb 10000 100 yQ.f 0 yQ.args ⟨.nil,0,.nil⟩)=true:=by kernel_rfl
theorem Qfh {U:UH} (hQ:TabOK Tryz.prog tys tb U):RanOK Tryz.prog U yQ:=Qz hQ (Qq hQ fnQok (QQ hQ) 10000 100) QcX
noncomputable def yR:Ran where
 f:=23
 args:=[.one (.it .i64 2),.one (.it .i64 1),.one (.it .i64 1),.one (.it .i64 2),.one (.it .i64 8)]
 r := .tup [.agg [.it .i64 (0),.sl 0 0 0 8],.one (.it .i64 (0))]
 bl:=[⟨68,4,[.bo false,.sl 1 0 0 1,.bo false,.sl 2 0 0 1,.bo false,.sl 3 0 0 1,.bo false,.sl 4 0 0 1,.bo false,.sl 5 0 0 1,.bo false,.sl 6 0 0 1,.bo false,.sl 7 0 0 1,.bo false,.sl 8 0 0 1,.bo false,.sl 9 0 0 1,.bo false,.sl 10 0 0 1,.bo false,.sl 11 0 0 1,.bo false,.sl 12 0 0 1,.bo false,.sl 13 0 0 1,.bo false,.sl 14 0 0 1,.bo false,.sl 15 0 0 1,.bo false,.sl 16 0 0 1],[]⟩,⟨95,1,[.it .u32 (1)],[]⟩,⟨95,1,[.it .u32 (24)],[]⟩,⟨95,1,[.it .u32 (1)],[]⟩,⟨95,1,[.it .u32 (1)],[]⟩,⟨95,1,[.it .u32 (1)],[]⟩,⟨95,1,[.it .u32 (1)],[]⟩,⟨95,1,[.it .u32 (4)],[]⟩,⟨95,1,[.it .u32 (1)],[]⟩,⟨95,1,[.it .u32 (1)],[]⟩,⟨95,1,[.it .u32 (1)],[]⟩,⟨95,1,[.it .u32 (6)],[]⟩,⟨95,1,[.it .u32 (1)],[]⟩,⟨95,1,[.it .u32 (4)],[]⟩,⟨95,1,[.it .u32 (1)],[]⟩,⟨95,1,[.it .u32 (8)],[]⟩,⟨95,1,[.it .u32 (1)],[]⟩]
 σ:=[843,853,858,878,883,896,901,914,919,932,937,950,955,968,973,986,991]
set_option maxRecDepth 100000 in
theorem QdI:chk yR (callK fnQ orE tb 10000 100 yR.f 0 yR.args ⟨.nil,0,.nil⟩)=true:=by kernel_rfl
theorem Qfz {U:UH} (hQ:TabOK Tryz.prog tys tb U):RanOK Tryz.prog U yR:=Qz hQ (Qq hQ fnQok (QQ hQ) 10000 100) QdI
end Go.Proofs.YtnjpkncacddplaaGreatDoor

/- Closed calls, run (printed by ran.py). No condition. -/
namespace Go.Proofs.YtnjpkncacddplaaGreatDoor
open Go.Hp Go.Gx
noncomputable def vD:Ran where
 f:=23
 args:=[.one (.it .i64 2),.one (.it .i64 1),.one (.it .i64 1),.one (.it .i64 2),.one (.it .i64 9)]
 r := .tup [.agg [.it .i64 (0),.sl 0 0 0 9],.one (.it .i64 (0))]
 bl:=[⟨68,4,[.bo false,.sl 1 0 0 1,.bo false,.sl 2 0 0 1,.bo false,.sl 3 0 0 1,.bo false,.sl 4 0 0 1,.bo false,.sl 5 0 0 1,.bo false,.sl 6 0 0 1,.bo false,.sl 7 0 0 1,.bo false,.sl 8 0 0 1,.bo false,.sl 9 0 0 1,.bo false,.sl 10 0 0 1,.bo false,.sl 11 0 0 1,.bo false,.sl 12 0 0 1,.bo false,.sl 13 0 0 1,.bo false,.sl 14 0 0 1,.bo false,.sl 15 0 0 1,.bo false,.sl 16 0 0 1,.bo false,.sl 17 0 0 1,.bo false,.sl 18 0 0 1],[]⟩,⟨95,1,[.it .u32 (1)],[]⟩,⟨95,1,[.it .u32 (24)],[]⟩,⟨95,1,[.it .u32 (1)],[]⟩,⟨95,1,[.it .u32 (1)],[]⟩,⟨95,1,[.it .u32 (1)],[]⟩,⟨95,1,[.it .u32 (1)],[]⟩,⟨95,1,[.it .u32 (4)],[]⟩,⟨95,1,[.it .u32 (1)],[]⟩,⟨95,1,[.it .u32 (1)],[]⟩,⟨95,1,[.it .u32 (1)],[]⟩,⟨95,1,[.it .u32 (6)],[]⟩,⟨95,1,[.it .u32 (1)],[]⟩,⟨95,1,[.it .u32 (4)],[]⟩,⟨95,1,[.it .u32 (1)],[]⟩,⟨95,1,[.it .u32 (8)],[]⟩,⟨95,1,[.it .u32 (1)],[]⟩,⟨95,1,[.it .u32 (1)],[]⟩,⟨95,1,[.it .u32 (1)],[]⟩]
 σ:=[931,941,946,966,971,984,989,1002,1007,1020,1025,1038,1043,1056,1061,1074,1079,1092,1097]
set_option maxRecDepth 100000 in
theorem QdP:chk vD (callK fnQ orE tb 10000 100 vD.f 0 vD.args ⟨.nil,0,.nil⟩)=true:=by kernel_rfl
theorem Qfx {U:UH} (hQ:TabOK Tryz.prog tys tb U):RanOK Tryz.prog U vD:=Qz hQ (Qq hQ fnQok (QQ hQ) 10000 100) QdP
noncomputable def jt:Ran where
 f:=23
 args:=[.one (.it .i64 2),.one (.it .i64 1),.one (.it .i64 1),.one (.it .i64 2),.one (.it .i64 10)]
 r := .tup [.agg [.it .i64 (0),.sl 0 0 0 10],.one (.it .i64 (0))]
 bl:=[⟨68,4,[.bo false,.sl 1 0 0 1,.bo false,.sl 2 0 0 1,.bo false,.sl 3 0 0 1,.bo false,.sl 4 0 0 1,.bo false,.sl 5 0 0 1,.bo false,.sl 6 0 0 1,.bo false,.sl 7 0 0 1,.bo false,.sl 8 0 0 1,.bo false,.sl 9 0 0 1,.bo false,.sl 10 0 0 1,.bo false,.sl 11 0 0 1,.bo false,.sl 12 0 0 1,.bo false,.sl 13 0 0 1,.bo false,.sl 14 0 0 1,.bo false,.sl 15 0 0 1,.bo false,.sl 16 0 0 1,.bo false,.sl 17 0 0 1,.bo false,.sl 18 0 0 1,.bo false,.sl 19 0 0 1,.bo false,.sl 20 0 0 1],[]⟩,⟨95,1,[.it .u32 (1)],[]⟩,⟨95,1,[.it .u32 (24)],[]⟩,⟨95,1,[.it .u32 (1)],[]⟩,⟨95,1,[.it .u32 (1)],[]⟩,⟨95,1,[.it .u32 (1)],[]⟩,⟨95,1,[.it .u32 (1)],[]⟩,⟨95,1,[.it .u32 (4)],[]⟩,⟨95,1,[.it .u32 (1)],[]⟩,⟨95,1,[.it .u32 (1)],[]⟩,⟨95,1,[.it .u32 (1)],[]⟩,⟨95,1,[.it .u32 (6)],[]⟩,⟨95,1,[.it .u32 (1)],[]⟩,⟨95,1,[.it .u32 (4)],[]⟩,⟨95,1,[.it .u32 (1)],[]⟩,⟨95,1,[.it .u32 (8)],[]⟩,⟨95,1,[.it .u32 (1)],[]⟩,⟨95,1,[.it .u32 (1)],[]⟩,⟨95,1,[.it .u32 (1)],[]⟩,⟨95,1,[.it .u32 (13)],[]⟩,⟨95,1,[.it .u32 (1)],[]⟩]
 σ:=[1013,1023,1028,1048,1053,1066,1071,1084,1089,1102,1107,1120,1125,1138,1143,1156,1161,1174,1179,1192,1197]
set_option maxRecDepth 100000 in
theorem QbW:chk jt (callK fnQ orE tb 10000 100 jt.f 0 jt.args ⟨.nil,0,.nil⟩)=true:=by kernel_rfl
theorem Qdx {U:UH} (hQ:TabOK Tryz.prog tys tb U):RanOK Tryz.prog U jt:=Qz hQ (Qq hQ fnQok (QQ hQ) 10000 100) QbW
noncomputable def jI:Ran where
 f:=23
 args:=[.one (.it .i64 2),.one (.it .i64 1),.one (.it .i64 1),.one (.it .i64 2),.one (.it .i64 11)]
 r := .tup [.agg [.it .i64 (0),.sl 0 0 0 11],.one (.it .i64 (0))]
 bl:=[⟨68,4,[.bo false,.sl 1 0 0 1,.bo false,.sl 2 0 0 1,.bo false,.sl 3 0 0 1,.bo false,.sl 4 0 0 1,.bo false,.sl 5 0 0 1,.bo false,.sl 6 0 0 1,.bo false,.sl 7 0 0 1,.bo false,.sl 8 0 0 1,.bo false,.sl 9 0 0 1,.bo false,.sl 10 0 0 1,.bo false,.sl 11 0 0 1,.bo false,.sl 12 0 0 1,.bo false,.sl 13 0 0 1,.bo false,.sl 14 0 0 1,.bo false,.sl 15 0 0 1,.bo false,.sl 16 0 0 1,.bo false,.sl 17 0 0 1,.bo false,.sl 18 0 0 1,.bo false,.sl 19 0 0 1,.bo false,.sl 20 0 0 1,.bo false,.sl 21 0 0 1,.bo false,.sl 22 0 0 1],[]⟩,⟨95,1,[.it .u32 (1)],[]⟩,⟨95,1,[.it .u32 (24)],[]⟩,⟨95,1,[.it .u32 (1)],[]⟩,⟨95,1,[.it .u32 (1)],[]⟩,⟨95,1,[.it .u32 (1)],[]⟩,⟨95,1,[.it .u32 (1)],[]⟩,⟨95,1,[.it .u32 (4)],[]⟩,⟨95,1,[.it .u32 (1)],[]⟩,⟨95,1,[.it .u32 (1)],[]⟩,⟨95,1,[.it .u32 (1)],[]⟩,⟨95,1,[.it .u32 (6)],[]⟩,⟨95,1,[.it .u32 (1)],[]⟩,⟨95,1,[.it .u32 (4)],[]⟩,⟨95,1,[.it .u32 (1)],[]⟩,⟨95,1,[.it .u32 (8)],[]⟩,⟨95,1,[.it .u32 (1)],[]⟩,⟨95,1,[.it .u32 (1)],[]⟩,⟨95,1,[.it .u32 (1)],[]⟩,⟨95,1,[.it .u32 (13)],[]⟩,⟨95,1,[.it .u32 (1)],[]⟩,⟨95,1,[.it .u32 (6)],[]⟩,⟨95,1,[.it .u32 (1)],[]⟩]
 σ:=[1101,1111,1116,1136,1141,1154,1159,1172,1177,1190,1195,1208,1213,1226,1231,1244,1249,1262,1267,1280,1285,1298,1303]
set_option maxRecDepth 100000 in
theorem QbM:chk jI (callK fnQ orE tb 10000 100 jI.f 0 jI.args ⟨.nil,0,.nil⟩)=true:=by kernel_rfl
theorem QdB {U:UH} (hQ:TabOK Tryz.prog tys tb U):RanOK Tryz.prog U jI:=Qz hQ (Qq hQ fnQok (QQ hQ) 10000 100) QbM
noncomputable def jp:Ran where
 f:=23
 args:=[.one (.it .i64 2),.one (.it .i64 1),.one (.it .i64 1),.one (.it .i64 2),.one (.it .i64 12)]
 r := .tup [.agg [.it .i64 (0),.sl 0 0 0 12],.one (.it .i64 (0))]
 bl:=[⟨68,4,[.bo false,.sl 1 0 0 1,.bo false,.sl 2 0 0 1,.bo false,.sl 3 0 0 1,.bo false,.sl 4 0 0 1,.bo false,.sl 5 0 0 1,.bo false,.sl 6 0 0 1,.bo false,.sl 7 0 0 1,.bo false,.sl 8 0 0 1,.bo false,.sl 9 0 0 1,.bo false,.sl 10 0 0 1,.bo false,.sl 11 0 0 1,.bo false,.sl 12 0 0 1,.bo false,.sl 13 0 0 1,.bo false,.sl 14 0 0 1,.bo false,.sl 15 0 0 1,.bo false,.sl 16 0 0 1,.bo false,.sl 17 0 0 1,.bo false,.sl 18 0 0 1,.bo false,.sl 19 0 0 1,.bo false,.sl 20 0 0 1,.bo false,.sl 21 0 0 1,.bo false,.sl 22 0 0 1,.bo false,.sl 23 0 0 1,.bo false,.sl 24 0 0 1],[]⟩,⟨95,1,[.it .u32 (1)],[]⟩,⟨95,1,[.it .u32 (24)],[]⟩,⟨95,1,[.it .u32 (1)],[]⟩,⟨95,1,[.it .u32 (1)],[]⟩,⟨95,1,[.it .u32 (1)],[]⟩,⟨95,1,[.it .u32 (1)],[]⟩,⟨95,1,[.it .u32 (4)],[]⟩,⟨95,1,[.it .u32 (1)],[]⟩,⟨95,1,[.it .u32 (1)],[]⟩,⟨95,1,[.it .u32 (1)],[]⟩,⟨95,1,[.it .u32 (6)],[]⟩,⟨95,1,[.it .u32 (1)],[]⟩,⟨95,1,[.it .u32 (4)],[]⟩,⟨95,1,[.it .u32 (1)],[]⟩,⟨95,1,[.it .u32 (8)],[]⟩,⟨95,1,[.it .u32 (1)],[]⟩,⟨95,1,[.it .u32 (1)],[]⟩,⟨95,1,[.it .u32 (1)],[]⟩,⟨95,1,[.it .u32 (13)],[]⟩,⟨95,1,[.it .u32 (1)],[]⟩,⟨95,1,[.it .u32 (6)],[]⟩,⟨95,1,[.it .u32 (1)],[]⟩,⟨95,1,[.it .u32 (12)],[]⟩,⟨95,1,[.it .u32 (1)],[]⟩]
 σ:=[1183,1193,1198,1218,1223,1236,1241,1254,1259,1272,1277,1290,1295,1308,1313,1326,1331,1344,1349,1362,1367,1380,1385,1398,1403]
set_option maxRecDepth 100000 in
theorem QbJ:chk jp (callK fnQ orE tb 10000 100 jp.f 0 jp.args ⟨.nil,0,.nil⟩)=true:=by kernel_rfl
theorem QdU {U:UH} (hQ:TabOK Tryz.prog tys tb U):RanOK Tryz.prog U jp:=Qz hQ (Qq hQ fnQok (QQ hQ) 10000 100) QbJ
end Go.Proofs.YtnjpkncacddplaaGreatDoor

/- Closed calls, run (printed by ran.py). No condition. -/
namespace Go.Proofs.YtnjpkncacddplaaGreatDoor
open Go.Hp Go.Gx
noncomputable def ju:Ran where
 f:=23
 args:=[.one (.it .i64 2),.one (.it .i64 1),.one (.it .i64 1),.one (.it .i64 2),.one (.it .i64 13)]
 r := .tup [.agg [.it .i64 (0),.sl 0 0 0 13],.one (.it .i64 (0))]
 bl:=[⟨68,4,[.bo false,.sl 1 0 0 1,.bo false,.sl 2 0 0 1,.bo false,.sl 3 0 0 1,.bo false,.sl 4 0 0 1,.bo false,.sl 5 0 0 1,.bo false,.sl 6 0 0 1,.bo false,.sl 7 0 0 1,.bo false,.sl 8 0 0 1,.bo false,.sl 9 0 0 1,.bo false,.sl 10 0 0 1,.bo false,.sl 11 0 0 1,.bo false,.sl 12 0 0 1,.bo false,.sl 13 0 0 1,.bo false,.sl 14 0 0 1,.bo false,.sl 15 0 0 1,.bo false,.sl 16 0 0 1,.bo false,.sl 17 0 0 1,.bo false,.sl 18 0 0 1,.bo false,.sl 19 0 0 1,.bo false,.sl 20 0 0 1,.bo false,.sl 21 0 0 1,.bo false,.sl 22 0 0 1,.bo false,.sl 23 0 0 1,.bo false,.sl 24 0 0 1,.bo false,.sl 25 0 0 1,.bo false,.sl 26 0 0 1],[]⟩,⟨95,1,[.it .u32 (1)],[]⟩,⟨95,1,[.it .u32 (24)],[]⟩,⟨95,1,[.it .u32 (1)],[]⟩,⟨95,1,[.it .u32 (1)],[]⟩,⟨95,1,[.it .u32 (1)],[]⟩,⟨95,1,[.it .u32 (1)],[]⟩,⟨95,1,[.it .u32 (4)],[]⟩,⟨95,1,[.it .u32 (1)],[]⟩,⟨95,1,[.it .u32 (1)],[]⟩,⟨95,1,[.it .u32 (1)],[]⟩,⟨95,1,[.it .u32 (6)],[]⟩,⟨95,1,[.it .u32 (1)],[]⟩,⟨95,1,[.it .u32 (4)],[]⟩,⟨95,1,[.it .u32 (1)],[]⟩,⟨95,1,[.it .u32 (8)],[]⟩,⟨95,1,[.it .u32 (1)],[]⟩,⟨95,1,[.it .u32 (1)],[]⟩,⟨95,1,[.it .u32 (1)],[]⟩,⟨95,1,[.it .u32 (13)],[]⟩,⟨95,1,[.it .u32 (1)],[]⟩,⟨95,1,[.it .u32 (6)],[]⟩,⟨95,1,[.it .u32 (1)],[]⟩,⟨95,1,[.it .u32 (12)],[]⟩,⟨95,1,[.it .u32 (1)],[]⟩,⟨95,1,[.it .u32 (4)],[]⟩,⟨95,1,[.it .u32 (1)],[]⟩]
 σ:=[1271,1281,1286,1306,1311,1324,1329,1342,1347,1360,1365,1378,1383,1396,1401,1414,1419,1432,1437,1450,1455,1468,1473,1486,1491,1504,1509]
set_option maxRecDepth 100000 in
theorem Qcj:chk ju (callK fnQ orE tb 10000 100 ju.f 0 ju.args ⟨.nil,0,.nil⟩)=true:=by kernel_rfl
theorem QdN {U:UH} (hQ:TabOK Tryz.prog tys tb U):RanOK Tryz.prog U ju:=Qz hQ (Qq hQ fnQok (QQ hQ) 10000 100) Qcj
noncomputable def jd:Ran where
 f:=23
 args:=[.one (.it .i64 2),.one (.it .i64 1),.one (.it .i64 1),.one (.it .i64 2),.one (.it .i64 14)]
 r := .tup [.agg [.it .i64 (0),.sl 0 0 0 14],.one (.it .i64 (0))]
 bl:=[⟨68,4,[.bo false,.sl 1 0 0 1,.bo false,.sl 2 0 0 1,.bo false,.sl 3 0 0 1,.bo false,.sl 4 0 0 1,.bo false,.sl 5 0 0 1,.bo false,.sl 6 0 0 1,.bo false,.sl 7 0 0 1,.bo false,.sl 8 0 0 1,.bo false,.sl 9 0 0 1,.bo false,.sl 10 0 0 1,.bo false,.sl 11 0 0 1,.bo false,.sl 12 0 0 1,.bo false,.sl 13 0 0 1,.bo false,.sl 14 0 0 1,.bo false,.sl 15 0 0 1,.bo false,.sl 16 0 0 1,.bo false,.sl 17 0 0 1,.bo false,.sl 18 0 0 1,.bo false,.sl 19 0 0 1,.bo false,.sl 20 0 0 1,.bo false,.sl 21 0 0 1,.bo false,.sl 22 0 0 1,.bo false,.sl 23 0 0 1,.bo false,.sl 24 0 0 1,.bo false,.sl 25 0 0 1,.bo false,.sl 26 0 0 1,.bo false,.sl 27 0 0 1,.bo false,.sl 28 0 0 1],[]⟩,⟨95,1,[.it .u32 (1)],[]⟩,⟨95,1,[.it .u32 (24)],[]⟩,⟨95,1,[.it .u32 (1)],[]⟩,⟨95,1,[.it .u32 (1)],[]⟩,⟨95,1,[.it .u32 (1)],[]⟩,⟨95,1,[.it .u32 (1)],[]⟩,⟨95,1,[.it .u32 (4)],[]⟩,⟨95,1,[.it .u32 (1)],[]⟩,⟨95,1,[.it .u32 (1)],[]⟩,⟨95,1,[.it .u32 (1)],[]⟩,⟨95,1,[.it .u32 (6)],[]⟩,⟨95,1,[.it .u32 (1)],[]⟩,⟨95,1,[.it .u32 (4)],[]⟩,⟨95,1,[.it .u32 (1)],[]⟩,⟨95,1,[.it .u32 (8)],[]⟩,⟨95,1,[.it .u32 (1)],[]⟩,⟨95,1,[.it .u32 (1)],[]⟩,⟨95,1,[.it .u32 (1)],[]⟩,⟨95,1,[.it .u32 (13)],[]⟩,⟨95,1,[.it .u32 (1)],[]⟩,⟨95,1,[.it .u32 (6)],[]⟩,⟨95,1,[.it .u32 (1)],[]⟩,⟨95,1,[.it .u32 (12)],[]⟩,⟨95,1,[.it .u32 (1)],[]⟩,⟨95,1,[.it .u32 (4)],[]⟩,⟨95,1,[.it .u32 (1)],[]⟩,⟨95,1,[.it .u32 (14)],[]⟩,⟨95,1,[.it .u32 (1)],[]⟩]
 σ:=[1353,1363,1368,1388,1393,1406,1411,1424,1429,1442,1447,1460,1465,1478,1483,1496,1501,1514,1519,1532,1537,1550,1555,1568,1573,1586,1591,1604,1609]
set_option maxRecDepth 100000 in
theorem QbP:chk jd (callK fnQ orE tb 10000 100 jd.f 0 jd.args ⟨.nil,0,.nil⟩)=true:=by kernel_rfl
theorem Qev {U:UH} (hQ:TabOK Tryz.prog tys tb U):RanOK Tryz.prog U jd:=Qz hQ (Qq hQ fnQok (QQ hQ) 10000 100) QbP
noncomputable def jc:Ran where
 f:=23
 args:=[.one (.it .i64 2),.one (.it .i64 1),.one (.it .i64 1),.one (.it .i64 2),.one (.it .i64 15)]
 r := .tup [.agg [.it .i64 (0),.sl 0 0 0 15],.one (.it .i64 (0))]
 bl:=[⟨68,4,[.bo false,.sl 1 0 0 1,.bo false,.sl 2 0 0 1,.bo false,.sl 3 0 0 1,.bo false,.sl 4 0 0 1,.bo false,.sl 5 0 0 1,.bo false,.sl 6 0 0 1,.bo false,.sl 7 0 0 1,.bo false,.sl 8 0 0 1,.bo false,.sl 9 0 0 1,.bo false,.sl 10 0 0 1,.bo false,.sl 11 0 0 1,.bo false,.sl 12 0 0 1,.bo false,.sl 13 0 0 1,.bo false,.sl 14 0 0 1,.bo false,.sl 15 0 0 1,.bo false,.sl 16 0 0 1,.bo false,.sl 17 0 0 1,.bo false,.sl 18 0 0 1,.bo false,.sl 19 0 0 1,.bo false,.sl 20 0 0 1,.bo false,.sl 21 0 0 1,.bo false,.sl 22 0 0 1,.bo false,.sl 23 0 0 1,.bo false,.sl 24 0 0 1,.bo false,.sl 25 0 0 1,.bo false,.sl 26 0 0 1,.bo false,.sl 27 0 0 1,.bo false,.sl 28 0 0 1,.bo false,.sl 29 0 0 1,.bo false,.sl 30 0 0 1],[]⟩,⟨95,1,[.it .u32 (1)],[]⟩,⟨95,1,[.it .u32 (24)],[]⟩,⟨95,1,[.it .u32 (1)],[]⟩,⟨95,1,[.it .u32 (1)],[]⟩,⟨95,1,[.it .u32 (1)],[]⟩,⟨95,1,[.it .u32 (1)],[]⟩,⟨95,1,[.it .u32 (4)],[]⟩,⟨95,1,[.it .u32 (1)],[]⟩,⟨95,1,[.it .u32 (1)],[]⟩,⟨95,1,[.it .u32 (1)],[]⟩,⟨95,1,[.it .u32 (6)],[]⟩,⟨95,1,[.it .u32 (1)],[]⟩,⟨95,1,[.it .u32 (4)],[]⟩,⟨95,1,[.it .u32 (1)],[]⟩,⟨95,1,[.it .u32 (8)],[]⟩,⟨95,1,[.it .u32 (1)],[]⟩,⟨95,1,[.it .u32 (1)],[]⟩,⟨95,1,[.it .u32 (1)],[]⟩,⟨95,1,[.it .u32 (13)],[]⟩,⟨95,1,[.it .u32 (1)],[]⟩,⟨95,1,[.it .u32 (6)],[]⟩,⟨95,1,[.it .u32 (1)],[]⟩,⟨95,1,[.it .u32 (12)],[]⟩,⟨95,1,[.it .u32 (1)],[]⟩,⟨95,1,[.it .u32 (4)],[]⟩,⟨95,1,[.it .u32 (1)],[]⟩,⟨95,1,[.it .u32 (14)],[]⟩,⟨95,1,[.it .u32 (1)],[]⟩,⟨95,1,[.it .u32 (8)],[]⟩,⟨95,1,[.it .u32 (1)],[]⟩]
 σ:=[1441,1451,1456,1476,1481,1494,1499,1512,1517,1530,1535,1548,1553,1566,1571,1584,1589,1602,1607,1620,1625,1638,1643,1656,1661,1674,1679,1692,1697,1710,1715]
set_option maxRecDepth 100000 in
theorem Qco:chk jc (callK fnQ orE tb 10000 100 jc.f 0 jc.args ⟨.nil,0,.nil⟩)=true:=by kernel_rfl
theorem QdK {U:UH} (hQ:TabOK Tryz.prog tys tb U):RanOK Tryz.prog U jc:=Qz hQ (Qq hQ fnQok (QQ hQ) 10000 100) Qco
noncomputable def jl:Ran where
 f:=23
 args:=[.one (.it .i64 2),.one (.it .i64 1),.one (.it .i64 1),.one (.it .i64 2),.one (.it .i64 16)]
 r := .tup [.agg [.it .i64 (0),.sl 0 0 0 16],.one (.it .i64 (0))]
 bl:=[⟨68,4,[.bo false,.sl 1 0 0 1,.bo false,.sl 2 0 0 1,.bo false,.sl 3 0 0 1,.bo false,.sl 4 0 0 1,.bo false,.sl 5 0 0 1,.bo false,.sl 6 0 0 1,.bo false,.sl 7 0 0 1,.bo false,.sl 8 0 0 1,.bo false,.sl 9 0 0 1,.bo false,.sl 10 0 0 1,.bo false,.sl 11 0 0 1,.bo false,.sl 12 0 0 1,.bo false,.sl 13 0 0 1,.bo false,.sl 14 0 0 1,.bo false,.sl 15 0 0 1,.bo false,.sl 16 0 0 1,.bo false,.sl 17 0 0 1,.bo false,.sl 18 0 0 1,.bo false,.sl 19 0 0 1,.bo false,.sl 20 0 0 1,.bo false,.sl 21 0 0 1,.bo false,.sl 22 0 0 1,.bo false,.sl 23 0 0 1,.bo false,.sl 24 0 0 1,.bo false,.sl 25 0 0 1,.bo false,.sl 26 0 0 1,.bo false,.sl 27 0 0 1,.bo false,.sl 28 0 0 1,.bo false,.sl 29 0 0 1,.bo false,.sl 30 0 0 1,.bo false,.sl 31 0 0 1,.bo false,.sl 32 0 0 1],[]⟩,⟨95,1,[.it .u32 (1)],[]⟩,⟨95,1,[.it .u32 (24)],[]⟩,⟨95,1,[.it .u32 (1)],[]⟩,⟨95,1,[.it .u32 (1)],[]⟩,⟨95,1,[.it .u32 (1)],[]⟩,⟨95,1,[.it .u32 (1)],[]⟩,⟨95,1,[.it .u32 (4)],[]⟩,⟨95,1,[.it .u32 (1)],[]⟩,⟨95,1,[.it .u32 (1)],[]⟩,⟨95,1,[.it .u32 (1)],[]⟩,⟨95,1,[.it .u32 (6)],[]⟩,⟨95,1,[.it .u32 (1)],[]⟩,⟨95,1,[.it .u32 (4)],[]⟩,⟨95,1,[.it .u32 (1)],[]⟩,⟨95,1,[.it .u32 (8)],[]⟩,⟨95,1,[.it .u32 (1)],[]⟩,⟨95,1,[.it .u32 (1)],[]⟩,⟨95,1,[.it .u32 (1)],[]⟩,⟨95,1,[.it .u32 (13)],[]⟩,⟨95,1,[.it .u32 (1)],[]⟩,⟨95,1,[.it .u32 (6)],[]⟩,⟨95,1,[.it .u32 (1)],[]⟩,⟨95,1,[.it .u32 (12)],[]⟩,⟨95,1,[.it .u32 (1)],[]⟩,⟨95,1,[.it .u32 (4)],[]⟩,⟨95,1,[.it .u32 (1)],[]⟩,⟨95,1,[.it .u32 (14)],[]⟩,⟨95,1,[.it .u32 (1)],[]⟩,⟨95,1,[.it .u32 (8)],[]⟩,⟨95,1,[.it .u32 (1)],[]⟩,⟨95,1,[.it .u32 (24)],[]⟩,⟨95,1,[.it .u32 (1)],[]⟩]
 σ:=[1523,1533,1538,1558,1563,1576,1581,1594,1599,1612,1617,1630,1635,1648,1653,1666,1671,1684,1689,1702,1707,1720,1725,1738,1743,1756,1761,1774,1779,1792,1797,1810,1815]
set_option maxRecDepth 100000 in
theorem QcB:chk jl (callK fnQ orE tb 10000 100 jl.f 0 jl.args ⟨.nil,0,.nil⟩)=true:=by kernel_rfl
theorem Qeo {U:UH} (hQ:TabOK Tryz.prog tys tb U):RanOK Tryz.prog U jl:=Qz hQ (Qq hQ fnQok (QQ hQ) 10000 100) QcB
end Go.Proofs.YtnjpkncacddplaaGreatDoor
