/- Texts of this seat's own, merged: each begins with its own remark. -/
import Derived.Test.YtnjpkncacddplaaGreatDoorM92
import Derived.Test.YtnjpkncacddplaaGreatDoorM98
/- Closed calls, run (printed by ran.py). No condition. -/
namespace Go.Proofs.YtnjpkncacddplaaGreatDoor
open Go.Hp Go.Gx
noncomputable def vz:Ran where
 f:=23
 args:=[.one (.it .i64 2),.one (.it .i64 1),.one (.it .i64 1),.one (.it .i64 4),.one (.it .i64 1)]
 r := .tup [.agg [.it .i64 (0),.sl 0 0 0 1],.one (.it .i64 (0))]
 bl:=[⟨68,4,[.bo false,.sl 1 0 0 1,.bo false,.sl 2 0 0 1],[]⟩,⟨95,1,[.it .u32 (1)],[]⟩,⟨95,1,[.it .u32 (8)],[]⟩]
 σ:=[251,261,266]
set_option maxRecDepth 100000 in
theorem Qeb:chk vz (callK fnQ orE tb 10000 100 vz.f 0 vz.args ⟨.nil,0,.nil⟩)=true:=by kernel_rfl
theorem Qfa {U:UH} (hQ:TabOK Tryz.prog tys tb U):RanOK Tryz.prog U vz:=Qz hQ (Qq hQ fnQok (QQ hQ) 10000 100) Qeb
noncomputable def vQ:Ran where
 f:=23
 args:=[.one (.it .i64 2),.one (.it .i64 1),.one (.it .i64 1),.one (.it .i64 4),.one (.it .i64 2)]
 r := .tup [.agg [.it .i64 (0),.sl 0 0 0 2],.one (.it .i64 (0))]
 bl:=[⟨68,4,[.bo false,.sl 1 0 0 1,.bo false,.sl 2 0 0 1,.bo false,.sl 3 0 0 1,.bo false,.sl 4 0 0 1],[]⟩,⟨95,1,[.it .u32 (1)],[]⟩,⟨95,1,[.it .u32 (8)],[]⟩,⟨95,1,[.it .u32 (1)],[]⟩,⟨95,1,[.it .u32 (1)],[]⟩]
 σ:=[333,343,348,368,373]
set_option maxRecDepth 100000 in
theorem QdO:chk vQ (callK fnQ orE tb 10000 100 vQ.f 0 vQ.args ⟨.nil,0,.nil⟩)=true:=by kernel_rfl
theorem QeH {U:UH} (hQ:TabOK Tryz.prog tys tb U):RanOK Tryz.prog U vQ:=Qz hQ (Qq hQ fnQok (QQ hQ) 10000 100) QdO
noncomputable def vo:Ran where
 f:=23
 args:=[.one (.it .i64 2),.one (.it .i64 1),.one (.it .i64 1),.one (.it .i64 4),.one (.it .i64 3)]
 r := .tup [.agg [.it .i64 (0),.sl 0 0 0 3],.one (.it .i64 (0))]
 bl:=[⟨68,4,[.bo false,.sl 1 0 0 1,.bo false,.sl 2 0 0 1,.bo false,.sl 3 0 0 1,.bo false,.sl 4 0 0 1,.bo false,.sl 5 0 0 1,.bo false,.sl 6 0 0 1],[]⟩,⟨95,1,[.it .u32 (1)],[]⟩,⟨95,1,[.it .u32 (8)],[]⟩,⟨95,1,[.it .u32 (1)],[]⟩,⟨95,1,[.it .u32 (1)],[]⟩,⟨95,1,[.it .u32 (3)],[]⟩,⟨95,1,[.it .u32 (1)],[]⟩]
 σ:=[415,425,430,450,455,468,473]
set_option maxRecDepth 100000 in
theorem Qeu:chk vo (callK fnQ orE tb 10000 100 vo.f 0 vo.args ⟨.nil,0,.nil⟩)=true:=by kernel_rfl
theorem Qfw {U:UH} (hQ:TabOK Tryz.prog tys tb U):RanOK Tryz.prog U vo:=Qz hQ (Qq hQ fnQok (QQ hQ) 10000 100) Qeu
noncomputable def vk:Ran where
 f:=23
 args:=[.one (.it .i64 2),.one (.it .i64 1),.one (.it .i64 1),.one (.it .i64 4),.one (.it .i64 4)]
 r := .tup [.agg [.it .i64 (0),.sl 0 0 0 4],.one (.it .i64 (0))]
 bl:=[⟨68,4,[.bo false,.sl 1 0 0 1,.bo false,.sl 2 0 0 1,.bo false,.sl 3 0 0 1,.bo false,.sl 4 0 0 1,.bo false,.sl 5 0 0 1,.bo false,.sl 6 0 0 1,.bo false,.sl 7 0 0 1,.bo false,.sl 8 0 0 1],[]⟩,⟨95,1,[.it .u32 (1)],[]⟩,⟨95,1,[.it .u32 (8)],[]⟩,⟨95,1,[.it .u32 (1)],[]⟩,⟨95,1,[.it .u32 (1)],[]⟩,⟨95,1,[.it .u32 (3)],[]⟩,⟨95,1,[.it .u32 (1)],[]⟩,⟨95,1,[.it .u32 (4)],[]⟩,⟨95,1,[.it .u32 (1)],[]⟩]
 σ:=[497,507,512,532,537,550,555,568,573]
set_option maxRecDepth 100000 in
theorem QdY:chk vk (callK fnQ orE tb 10000 100 vk.f 0 vk.args ⟨.nil,0,.nil⟩)=true:=by kernel_rfl
theorem Qfk {U:UH} (hQ:TabOK Tryz.prog tys tb U):RanOK Tryz.prog U vk:=Qz hQ (Qq hQ fnQok (QQ hQ) 10000 100) QdY
noncomputable def yS:Ran where
 f:=23
 args:=[.one (.it .i64 2),.one (.it .i64 1),.one (.it .i64 1),.one (.it .i64 4),.one (.it .i64 5)]
 r := .tup [.agg [.it .i64 (0),.sl 0 0 0 5],.one (.it .i64 (0))]
 bl:=[⟨68,4,[.bo false,.sl 1 0 0 1,.bo false,.sl 2 0 0 1,.bo false,.sl 3 0 0 1,.bo false,.sl 4 0 0 1,.bo false,.sl 5 0 0 1,.bo false,.sl 6 0 0 1,.bo false,.sl 7 0 0 1,.bo false,.sl 8 0 0 1,.bo false,.sl 9 0 0 1,.bo false,.sl 10 0 0 1],[]⟩,⟨95,1,[.it .u32 (1)],[]⟩,⟨95,1,[.it .u32 (8)],[]⟩,⟨95,1,[.it .u32 (1)],[]⟩,⟨95,1,[.it .u32 (1)],[]⟩,⟨95,1,[.it .u32 (3)],[]⟩,⟨95,1,[.it .u32 (1)],[]⟩,⟨95,1,[.it .u32 (4)],[]⟩,⟨95,1,[.it .u32 (1)],[]⟩,⟨95,1,[.it .u32 (3)],[]⟩,⟨95,1,[.it .u32 (1)],[]⟩]
 σ:=[585,595,600,620,625,638,643,656,661,674,679]
set_option maxRecDepth 100000 in
theorem QcT:chk yS (callK fnQ orE tb 10000 100 yS.f 0 yS.args ⟨.nil,0,.nil⟩)=true:=by kernel_rfl
theorem Qfi {U:UH} (hQ:TabOK Tryz.prog tys tb U):RanOK Tryz.prog U yS:=Qz hQ (Qq hQ fnQok (QQ hQ) 10000 100) QcT
noncomputable def vL:Ran where
 f:=23
 args:=[.one (.it .i64 2),.one (.it .i64 1),.one (.it .i64 1),.one (.it .i64 4),.one (.it .i64 6)]
 r := .tup [.agg [.it .i64 (0),.sl 0 0 0 6],.one (.it .i64 (0))]
 bl:=[⟨68,4,[.bo false,.sl 1 0 0 1,.bo false,.sl 2 0 0 1,.bo false,.sl 3 0 0 1,.bo false,.sl 4 0 0 1,.bo false,.sl 5 0 0 1,.bo false,.sl 6 0 0 1,.bo false,.sl 7 0 0 1,.bo false,.sl 8 0 0 1,.bo false,.sl 9 0 0 1,.bo false,.sl 10 0 0 1,.bo false,.sl 11 0 0 1,.bo false,.sl 12 0 0 1],[]⟩,⟨95,1,[.it .u32 (1)],[]⟩,⟨95,1,[.it .u32 (8)],[]⟩,⟨95,1,[.it .u32 (1)],[]⟩,⟨95,1,[.it .u32 (1)],[]⟩,⟨95,1,[.it .u32 (3)],[]⟩,⟨95,1,[.it .u32 (1)],[]⟩,⟨95,1,[.it .u32 (4)],[]⟩,⟨95,1,[.it .u32 (1)],[]⟩,⟨95,1,[.it .u32 (3)],[]⟩,⟨95,1,[.it .u32 (1)],[]⟩,⟨95,1,[.it .u32 (6)],[]⟩,⟨95,1,[.it .u32 (1)],[]⟩]
 σ:=[667,677,682,702,707,720,725,738,743,756,761,774,779]
set_option maxRecDepth 100000 in
theorem Qey:chk vL (callK fnQ orE tb 10000 100 vL.f 0 vL.args ⟨.nil,0,.nil⟩)=true:=by kernel_rfl
theorem QeB {U:UH} (hQ:TabOK Tryz.prog tys tb U):RanOK Tryz.prog U vL:=Qz hQ (Qq hQ fnQok (QQ hQ) 10000 100) Qey
noncomputable def vP:Ran where
 f:=23
 args:=[.one (.it .i64 2),.one (.it .i64 1),.one (.it .i64 1),.one (.it .i64 4),.one (.it .i64 7)]
 r := .tup [.agg [.it .i64 (0),.sl 0 0 0 7],.one (.it .i64 (0))]
 bl:=[⟨68,4,[.bo false,.sl 1 0 0 1,.bo false,.sl 2 0 0 1,.bo false,.sl 3 0 0 1,.bo false,.sl 4 0 0 1,.bo false,.sl 5 0 0 1,.bo false,.sl 6 0 0 1,.bo false,.sl 7 0 0 1,.bo false,.sl 8 0 0 1,.bo false,.sl 9 0 0 1,.bo false,.sl 10 0 0 1,.bo false,.sl 11 0 0 1,.bo false,.sl 12 0 0 1,.bo false,.sl 13 0 0 1,.bo false,.sl 14 0 0 1],[]⟩,⟨95,1,[.it .u32 (1)],[]⟩,⟨95,1,[.it .u32 (8)],[]⟩,⟨95,1,[.it .u32 (1)],[]⟩,⟨95,1,[.it .u32 (1)],[]⟩,⟨95,1,[.it .u32 (3)],[]⟩,⟨95,1,[.it .u32 (1)],[]⟩,⟨95,1,[.it .u32 (4)],[]⟩,⟨95,1,[.it .u32 (1)],[]⟩,⟨95,1,[.it .u32 (3)],[]⟩,⟨95,1,[.it .u32 (1)],[]⟩,⟨95,1,[.it .u32 (6)],[]⟩,⟨95,1,[.it .u32 (1)],[]⟩,⟨95,1,[.it .u32 (12)],[]⟩,⟨95,1,[.it .u32 (1)],[]⟩]
 σ:=[749,759,764,784,789,802,807,820,825,838,843,856,861,874,879]
set_option maxRecDepth 100000 in
theorem QdL:chk vP (callK fnQ orE tb 10000 100 vP.f 0 vP.args ⟨.nil,0,.nil⟩)=true:=by kernel_rfl
theorem Qfd {U:UH} (hQ:TabOK Tryz.prog tys tb U):RanOK Tryz.prog U vP:=Qz hQ (Qq hQ fnQok (QQ hQ) 10000 100) QdL
noncomputable def vJ:Ran where
 f:=23
 args:=[.one (.it .i64 2),.one (.it .i64 1),.one (.it .i64 1),.one (.it .i64 4),.one (.it .i64 8)]
 r := .tup [.agg [.it .i64 (0),.sl 0 0 0 8],.one (.it .i64 (0))]
 bl:=[⟨68,4,[.bo false,.sl 1 0 0 1,.bo false,.sl 2 0 0 1,.bo false,.sl 3 0 0 1,.bo false,.sl 4 0 0 1,.bo false,.sl 5 0 0 1,.bo false,.sl 6 0 0 1,.bo false,.sl 7 0 0 1,.bo false,.sl 8 0 0 1,.bo false,.sl 9 0 0 1,.bo false,.sl 10 0 0 1,.bo false,.sl 11 0 0 1,.bo false,.sl 12 0 0 1,.bo false,.sl 13 0 0 1,.bo false,.sl 14 0 0 1,.bo false,.sl 15 0 0 1,.bo false,.sl 16 0 0 1],[]⟩,⟨95,1,[.it .u32 (1)],[]⟩,⟨95,1,[.it .u32 (8)],[]⟩,⟨95,1,[.it .u32 (1)],[]⟩,⟨95,1,[.it .u32 (1)],[]⟩,⟨95,1,[.it .u32 (3)],[]⟩,⟨95,1,[.it .u32 (1)],[]⟩,⟨95,1,[.it .u32 (4)],[]⟩,⟨95,1,[.it .u32 (1)],[]⟩,⟨95,1,[.it .u32 (3)],[]⟩,⟨95,1,[.it .u32 (1)],[]⟩,⟨95,1,[.it .u32 (6)],[]⟩,⟨95,1,[.it .u32 (1)],[]⟩,⟨95,1,[.it .u32 (12)],[]⟩,⟨95,1,[.it .u32 (1)],[]⟩,⟨95,1,[.it .u32 (8)],[]⟩,⟨95,1,[.it .u32 (1)],[]⟩]
 σ:=[831,841,846,866,871,884,889,902,907,920,925,938,943,956,961,974,979]
set_option maxRecDepth 100000 in
theorem Qeh:chk vJ (callK fnQ orE tb 10000 100 vJ.f 0 vJ.args ⟨.nil,0,.nil⟩)=true:=by kernel_rfl
theorem QeI {U:UH} (hQ:TabOK Tryz.prog tys tb U):RanOK Tryz.prog U vJ:=Qz hQ (Qq hQ fnQok (QQ hQ) 10000 100) Qeh
end Go.Proofs.YtnjpkncacddplaaGreatDoor

/- Closed calls, run (printed by ran.py). No condition. -/
namespace Go.Proofs.YtnjpkncacddplaaGreatDoor
open Go.Hp Go.Gx
noncomputable def vF:Ran where
 f:=23
 args:=[.one (.it .i64 2),.one (.it .i64 1),.one (.it .i64 1),.one (.it .i64 4),.one (.it .i64 9)]
 r := .tup [.agg [.it .i64 (0),.sl 0 0 0 9],.one (.it .i64 (0))]
 bl:=[⟨68,4,[.bo false,.sl 1 0 0 1,.bo false,.sl 2 0 0 1,.bo false,.sl 3 0 0 1,.bo false,.sl 4 0 0 1,.bo false,.sl 5 0 0 1,.bo false,.sl 6 0 0 1,.bo false,.sl 7 0 0 1,.bo false,.sl 8 0 0 1,.bo false,.sl 9 0 0 1,.bo false,.sl 10 0 0 1,.bo false,.sl 11 0 0 1,.bo false,.sl 12 0 0 1,.bo false,.sl 13 0 0 1,.bo false,.sl 14 0 0 1,.bo false,.sl 15 0 0 1,.bo false,.sl 16 0 0 1,.bo false,.sl 17 0 0 1,.bo false,.sl 18 0 0 1],[]⟩,⟨95,1,[.it .u32 (1)],[]⟩,⟨95,1,[.it .u32 (8)],[]⟩,⟨95,1,[.it .u32 (1)],[]⟩,⟨95,1,[.it .u32 (1)],[]⟩,⟨95,1,[.it .u32 (3)],[]⟩,⟨95,1,[.it .u32 (1)],[]⟩,⟨95,1,[.it .u32 (4)],[]⟩,⟨95,1,[.it .u32 (1)],[]⟩,⟨95,1,[.it .u32 (3)],[]⟩,⟨95,1,[.it .u32 (1)],[]⟩,⟨95,1,[.it .u32 (6)],[]⟩,⟨95,1,[.it .u32 (1)],[]⟩,⟨95,1,[.it .u32 (12)],[]⟩,⟨95,1,[.it .u32 (1)],[]⟩,⟨95,1,[.it .u32 (8)],[]⟩,⟨95,1,[.it .u32 (1)],[]⟩,⟨95,1,[.it .u32 (3)],[]⟩,⟨95,1,[.it .u32 (1)],[]⟩]
 σ:=[919,929,934,954,959,972,977,990,995,1008,1013,1026,1031,1044,1049,1062,1067,1080,1085]
set_option maxRecDepth 100000 in
theorem Qdf:chk vF (callK fnQ orE tb 10000 100 vF.f 0 vF.args ⟨.nil,0,.nil⟩)=true:=by kernel_rfl
theorem QfB {U:UH} (hQ:TabOK Tryz.prog tys tb U):RanOK Tryz.prog U vF:=Qz hQ (Qq hQ fnQok (QQ hQ) 10000 100) Qdf
noncomputable def ji:Ran where
 f:=23
 args:=[.one (.it .i64 2),.one (.it .i64 1),.one (.it .i64 1),.one (.it .i64 4),.one (.it .i64 10)]
 r := .tup [.agg [.it .i64 (0),.sl 0 0 0 10],.one (.it .i64 (0))]
 bl:=[⟨68,4,[.bo false,.sl 1 0 0 1,.bo false,.sl 2 0 0 1,.bo false,.sl 3 0 0 1,.bo false,.sl 4 0 0 1,.bo false,.sl 5 0 0 1,.bo false,.sl 6 0 0 1,.bo false,.sl 7 0 0 1,.bo false,.sl 8 0 0 1,.bo false,.sl 9 0 0 1,.bo false,.sl 10 0 0 1,.bo false,.sl 11 0 0 1,.bo false,.sl 12 0 0 1,.bo false,.sl 13 0 0 1,.bo false,.sl 14 0 0 1,.bo false,.sl 15 0 0 1,.bo false,.sl 16 0 0 1,.bo false,.sl 17 0 0 1,.bo false,.sl 18 0 0 1,.bo false,.sl 19 0 0 1,.bo false,.sl 20 0 0 1],[]⟩,⟨95,1,[.it .u32 (1)],[]⟩,⟨95,1,[.it .u32 (8)],[]⟩,⟨95,1,[.it .u32 (1)],[]⟩,⟨95,1,[.it .u32 (1)],[]⟩,⟨95,1,[.it .u32 (3)],[]⟩,⟨95,1,[.it .u32 (1)],[]⟩,⟨95,1,[.it .u32 (4)],[]⟩,⟨95,1,[.it .u32 (1)],[]⟩,⟨95,1,[.it .u32 (3)],[]⟩,⟨95,1,[.it .u32 (1)],[]⟩,⟨95,1,[.it .u32 (6)],[]⟩,⟨95,1,[.it .u32 (1)],[]⟩,⟨95,1,[.it .u32 (12)],[]⟩,⟨95,1,[.it .u32 (1)],[]⟩,⟨95,1,[.it .u32 (8)],[]⟩,⟨95,1,[.it .u32 (1)],[]⟩,⟨95,1,[.it .u32 (3)],[]⟩,⟨95,1,[.it .u32 (1)],[]⟩,⟨95,1,[.it .u32 (13)],[]⟩,⟨95,1,[.it .u32 (1)],[]⟩]
 σ:=[1001,1011,1016,1036,1041,1054,1059,1072,1077,1090,1095,1108,1113,1126,1131,1144,1149,1162,1167,1180,1185]
set_option maxRecDepth 100000 in
theorem Qcz:chk ji (callK fnQ orE tb 10000 100 ji.f 0 ji.args ⟨.nil,0,.nil⟩)=true:=by kernel_rfl
theorem Qdu {U:UH} (hQ:TabOK Tryz.prog tys tb U):RanOK Tryz.prog U ji:=Qz hQ (Qq hQ fnQok (QQ hQ) 10000 100) Qcz
noncomputable def jo:Ran where
 f:=23
 args:=[.one (.it .i64 2),.one (.it .i64 1),.one (.it .i64 1),.one (.it .i64 4),.one (.it .i64 11)]
 r := .tup [.agg [.it .i64 (0),.sl 0 0 0 11],.one (.it .i64 (0))]
 bl:=[⟨68,4,[.bo false,.sl 1 0 0 1,.bo false,.sl 2 0 0 1,.bo false,.sl 3 0 0 1,.bo false,.sl 4 0 0 1,.bo false,.sl 5 0 0 1,.bo false,.sl 6 0 0 1,.bo false,.sl 7 0 0 1,.bo false,.sl 8 0 0 1,.bo false,.sl 9 0 0 1,.bo false,.sl 10 0 0 1,.bo false,.sl 11 0 0 1,.bo false,.sl 12 0 0 1,.bo false,.sl 13 0 0 1,.bo false,.sl 14 0 0 1,.bo false,.sl 15 0 0 1,.bo false,.sl 16 0 0 1,.bo false,.sl 17 0 0 1,.bo false,.sl 18 0 0 1,.bo false,.sl 19 0 0 1,.bo false,.sl 20 0 0 1,.bo false,.sl 21 0 0 1,.bo false,.sl 22 0 0 1],[]⟩,⟨95,1,[.it .u32 (1)],[]⟩,⟨95,1,[.it .u32 (8)],[]⟩,⟨95,1,[.it .u32 (1)],[]⟩,⟨95,1,[.it .u32 (1)],[]⟩,⟨95,1,[.it .u32 (3)],[]⟩,⟨95,1,[.it .u32 (1)],[]⟩,⟨95,1,[.it .u32 (4)],[]⟩,⟨95,1,[.it .u32 (1)],[]⟩,⟨95,1,[.it .u32 (3)],[]⟩,⟨95,1,[.it .u32 (1)],[]⟩,⟨95,1,[.it .u32 (6)],[]⟩,⟨95,1,[.it .u32 (1)],[]⟩,⟨95,1,[.it .u32 (12)],[]⟩,⟨95,1,[.it .u32 (1)],[]⟩,⟨95,1,[.it .u32 (8)],[]⟩,⟨95,1,[.it .u32 (1)],[]⟩,⟨95,1,[.it .u32 (3)],[]⟩,⟨95,1,[.it .u32 (1)],[]⟩,⟨95,1,[.it .u32 (13)],[]⟩,⟨95,1,[.it .u32 (1)],[]⟩,⟨95,1,[.it .u32 (18)],[]⟩,⟨95,1,[.it .u32 (1)],[]⟩]
 σ:=[1083,1093,1098,1118,1123,1136,1141,1154,1159,1172,1177,1190,1195,1208,1213,1226,1231,1244,1249,1262,1267,1280,1285]
set_option maxRecDepth 100000 in
theorem Qct:chk jo (callK fnQ orE tb 10000 100 jo.f 0 jo.args ⟨.nil,0,.nil⟩)=true:=by kernel_rfl
theorem QcY {U:UH} (hQ:TabOK Tryz.prog tys tb U):RanOK Tryz.prog U jo:=Qz hQ (Qq hQ fnQok (QQ hQ) 10000 100) Qct
noncomputable def jg:Ran where
 f:=23
 args:=[.one (.it .i64 2),.one (.it .i64 1),.one (.it .i64 1),.one (.it .i64 4),.one (.it .i64 12)]
 r := .tup [.agg [.it .i64 (0),.sl 0 0 0 12],.one (.it .i64 (0))]
 bl:=[⟨68,4,[.bo false,.sl 1 0 0 1,.bo false,.sl 2 0 0 1,.bo false,.sl 3 0 0 1,.bo false,.sl 4 0 0 1,.bo false,.sl 5 0 0 1,.bo false,.sl 6 0 0 1,.bo false,.sl 7 0 0 1,.bo false,.sl 8 0 0 1,.bo false,.sl 9 0 0 1,.bo false,.sl 10 0 0 1,.bo false,.sl 11 0 0 1,.bo false,.sl 12 0 0 1,.bo false,.sl 13 0 0 1,.bo false,.sl 14 0 0 1,.bo false,.sl 15 0 0 1,.bo false,.sl 16 0 0 1,.bo false,.sl 17 0 0 1,.bo false,.sl 18 0 0 1,.bo false,.sl 19 0 0 1,.bo false,.sl 20 0 0 1,.bo false,.sl 21 0 0 1,.bo false,.sl 22 0 0 1,.bo false,.sl 23 0 0 1,.bo false,.sl 24 0 0 1],[]⟩,⟨95,1,[.it .u32 (1)],[]⟩,⟨95,1,[.it .u32 (8)],[]⟩,⟨95,1,[.it .u32 (1)],[]⟩,⟨95,1,[.it .u32 (1)],[]⟩,⟨95,1,[.it .u32 (3)],[]⟩,⟨95,1,[.it .u32 (1)],[]⟩,⟨95,1,[.it .u32 (4)],[]⟩,⟨95,1,[.it .u32 (1)],[]⟩,⟨95,1,[.it .u32 (3)],[]⟩,⟨95,1,[.it .u32 (1)],[]⟩,⟨95,1,[.it .u32 (6)],[]⟩,⟨95,1,[.it .u32 (1)],[]⟩,⟨95,1,[.it .u32 (12)],[]⟩,⟨95,1,[.it .u32 (1)],[]⟩,⟨95,1,[.it .u32 (8)],[]⟩,⟨95,1,[.it .u32 (1)],[]⟩,⟨95,1,[.it .u32 (3)],[]⟩,⟨95,1,[.it .u32 (1)],[]⟩,⟨95,1,[.it .u32 (13)],[]⟩,⟨95,1,[.it .u32 (1)],[]⟩,⟨95,1,[.it .u32 (18)],[]⟩,⟨95,1,[.it .u32 (1)],[]⟩,⟨95,1,[.it .u32 (12)],[]⟩,⟨95,1,[.it .u32 (1)],[]⟩]
 σ:=[1165,1175,1180,1200,1205,1218,1223,1236,1241,1254,1259,1272,1277,1290,1295,1308,1313,1326,1331,1344,1349,1362,1367,1380,1385]
set_option maxRecDepth 100000 in
theorem Qbw:chk jg (callK fnQ orE tb 10000 100 jg.f 0 jg.args ⟨.nil,0,.nil⟩)=true:=by kernel_rfl
theorem QdC {U:UH} (hQ:TabOK Tryz.prog tys tb U):RanOK Tryz.prog U jg:=Qz hQ (Qq hQ fnQok (QQ hQ) 10000 100) Qbw
end Go.Proofs.YtnjpkncacddplaaGreatDoor

/- Closed calls, run (printed by ran.py). No condition. -/
namespace Go.Proofs.YtnjpkncacddplaaGreatDoor
open Go.Hp Go.Gx
noncomputable def jG:Ran where
 f:=23
 args:=[.one (.it .i64 2),.one (.it .i64 1),.one (.it .i64 1),.one (.it .i64 4),.one (.it .i64 13)]
 r := .tup [.agg [.it .i64 (0),.sl 0 0 0 13],.one (.it .i64 (0))]
 bl:=[⟨68,4,[.bo false,.sl 1 0 0 1,.bo false,.sl 2 0 0 1,.bo false,.sl 3 0 0 1,.bo false,.sl 4 0 0 1,.bo false,.sl 5 0 0 1,.bo false,.sl 6 0 0 1,.bo false,.sl 7 0 0 1,.bo false,.sl 8 0 0 1,.bo false,.sl 9 0 0 1,.bo false,.sl 10 0 0 1,.bo false,.sl 11 0 0 1,.bo false,.sl 12 0 0 1,.bo false,.sl 13 0 0 1,.bo false,.sl 14 0 0 1,.bo false,.sl 15 0 0 1,.bo false,.sl 16 0 0 1,.bo false,.sl 17 0 0 1,.bo false,.sl 18 0 0 1,.bo false,.sl 19 0 0 1,.bo false,.sl 20 0 0 1,.bo false,.sl 21 0 0 1,.bo false,.sl 22 0 0 1,.bo false,.sl 23 0 0 1,.bo false,.sl 24 0 0 1,.bo false,.sl 25 0 0 1,.bo false,.sl 26 0 0 1],[]⟩,⟨95,1,[.it .u32 (1)],[]⟩,⟨95,1,[.it .u32 (8)],[]⟩,⟨95,1,[.it .u32 (1)],[]⟩,⟨95,1,[.it .u32 (1)],[]⟩,⟨95,1,[.it .u32 (3)],[]⟩,⟨95,1,[.it .u32 (1)],[]⟩,⟨95,1,[.it .u32 (4)],[]⟩,⟨95,1,[.it .u32 (1)],[]⟩,⟨95,1,[.it .u32 (3)],[]⟩,⟨95,1,[.it .u32 (1)],[]⟩,⟨95,1,[.it .u32 (6)],[]⟩,⟨95,1,[.it .u32 (1)],[]⟩,⟨95,1,[.it .u32 (12)],[]⟩,⟨95,1,[.it .u32 (1)],[]⟩,⟨95,1,[.it .u32 (8)],[]⟩,⟨95,1,[.it .u32 (1)],[]⟩,⟨95,1,[.it .u32 (3)],[]⟩,⟨95,1,[.it .u32 (1)],[]⟩,⟨95,1,[.it .u32 (13)],[]⟩,⟨95,1,[.it .u32 (1)],[]⟩,⟨95,1,[.it .u32 (18)],[]⟩,⟨95,1,[.it .u32 (1)],[]⟩,⟨95,1,[.it .u32 (12)],[]⟩,⟨95,1,[.it .u32 (1)],[]⟩,⟨95,1,[.it .u32 (12)],[]⟩,⟨95,1,[.it .u32 (1)],[]⟩]
 σ:=[1253,1263,1268,1288,1293,1306,1311,1324,1329,1342,1347,1360,1365,1378,1383,1396,1401,1414,1419,1432,1437,1450,1455,1468,1473,1486,1491]
set_option maxRecDepth 100000 in
theorem QbU:chk jG (callK fnQ orE tb 10000 100 jG.f 0 jG.args ⟨.nil,0,.nil⟩)=true:=by kernel_rfl
theorem Qez {U:UH} (hQ:TabOK Tryz.prog tys tb U):RanOK Tryz.prog U jG:=Qz hQ (Qq hQ fnQok (QQ hQ) 10000 100) QbU
noncomputable def jf:Ran where
 f:=23
 args:=[.one (.it .i64 2),.one (.it .i64 1),.one (.it .i64 1),.one (.it .i64 4),.one (.it .i64 14)]
 r := .tup [.agg [.it .i64 (0),.sl 0 0 0 14],.one (.it .i64 (0))]
 bl:=[⟨68,4,[.bo false,.sl 1 0 0 1,.bo false,.sl 2 0 0 1,.bo false,.sl 3 0 0 1,.bo false,.sl 4 0 0 1,.bo false,.sl 5 0 0 1,.bo false,.sl 6 0 0 1,.bo false,.sl 7 0 0 1,.bo false,.sl 8 0 0 1,.bo false,.sl 9 0 0 1,.bo false,.sl 10 0 0 1,.bo false,.sl 11 0 0 1,.bo false,.sl 12 0 0 1,.bo false,.sl 13 0 0 1,.bo false,.sl 14 0 0 1,.bo false,.sl 15 0 0 1,.bo false,.sl 16 0 0 1,.bo false,.sl 17 0 0 1,.bo false,.sl 18 0 0 1,.bo false,.sl 19 0 0 1,.bo false,.sl 20 0 0 1,.bo false,.sl 21 0 0 1,.bo false,.sl 22 0 0 1,.bo false,.sl 23 0 0 1,.bo false,.sl 24 0 0 1,.bo false,.sl 25 0 0 1,.bo false,.sl 26 0 0 1,.bo false,.sl 27 0 0 1,.bo false,.sl 28 0 0 1],[]⟩,⟨95,1,[.it .u32 (1)],[]⟩,⟨95,1,[.it .u32 (8)],[]⟩,⟨95,1,[.it .u32 (1)],[]⟩,⟨95,1,[.it .u32 (1)],[]⟩,⟨95,1,[.it .u32 (3)],[]⟩,⟨95,1,[.it .u32 (1)],[]⟩,⟨95,1,[.it .u32 (4)],[]⟩,⟨95,1,[.it .u32 (1)],[]⟩,⟨95,1,[.it .u32 (3)],[]⟩,⟨95,1,[.it .u32 (1)],[]⟩,⟨95,1,[.it .u32 (6)],[]⟩,⟨95,1,[.it .u32 (1)],[]⟩,⟨95,1,[.it .u32 (12)],[]⟩,⟨95,1,[.it .u32 (1)],[]⟩,⟨95,1,[.it .u32 (8)],[]⟩,⟨95,1,[.it .u32 (1)],[]⟩,⟨95,1,[.it .u32 (3)],[]⟩,⟨95,1,[.it .u32 (1)],[]⟩,⟨95,1,[.it .u32 (13)],[]⟩,⟨95,1,[.it .u32 (1)],[]⟩,⟨95,1,[.it .u32 (18)],[]⟩,⟨95,1,[.it .u32 (1)],[]⟩,⟨95,1,[.it .u32 (12)],[]⟩,⟨95,1,[.it .u32 (1)],[]⟩,⟨95,1,[.it .u32 (12)],[]⟩,⟨95,1,[.it .u32 (1)],[]⟩,⟨95,1,[.it .u32 (14)],[]⟩,⟨95,1,[.it .u32 (1)],[]⟩]
 σ:=[1335,1345,1350,1370,1375,1388,1393,1406,1411,1424,1429,1442,1447,1460,1465,1478,1483,1496,1501,1514,1519,1532,1537,1550,1555,1568,1573,1586,1591]
set_option maxRecDepth 100000 in
theorem QbE:chk jf (callK fnQ orE tb 10000 100 jf.f 0 jf.args ⟨.nil,0,.nil⟩)=true:=by kernel_rfl
theorem Qeq {U:UH} (hQ:TabOK Tryz.prog tys tb U):RanOK Tryz.prog U jf:=Qz hQ (Qq hQ fnQok (QQ hQ) 10000 100) QbE
noncomputable def jN:Ran where
 f:=23
 args:=[.one (.it .i64 2),.one (.it .i64 1),.one (.it .i64 1),.one (.it .i64 4),.one (.it .i64 15)]
 r := .tup [.agg [.it .i64 (0),.sl 0 0 0 15],.one (.it .i64 (0))]
 bl:=[⟨68,4,[.bo false,.sl 1 0 0 1,.bo false,.sl 2 0 0 1,.bo false,.sl 3 0 0 1,.bo false,.sl 4 0 0 1,.bo false,.sl 5 0 0 1,.bo false,.sl 6 0 0 1,.bo false,.sl 7 0 0 1,.bo false,.sl 8 0 0 1,.bo false,.sl 9 0 0 1,.bo false,.sl 10 0 0 1,.bo false,.sl 11 0 0 1,.bo false,.sl 12 0 0 1,.bo false,.sl 13 0 0 1,.bo false,.sl 14 0 0 1,.bo false,.sl 15 0 0 1,.bo false,.sl 16 0 0 1,.bo false,.sl 17 0 0 1,.bo false,.sl 18 0 0 1,.bo false,.sl 19 0 0 1,.bo false,.sl 20 0 0 1,.bo false,.sl 21 0 0 1,.bo false,.sl 22 0 0 1,.bo false,.sl 23 0 0 1,.bo false,.sl 24 0 0 1,.bo false,.sl 25 0 0 1,.bo false,.sl 26 0 0 1,.bo false,.sl 27 0 0 1,.bo false,.sl 28 0 0 1,.bo false,.sl 29 0 0 1,.bo false,.sl 30 0 0 1],[]⟩,⟨95,1,[.it .u32 (1)],[]⟩,⟨95,1,[.it .u32 (8)],[]⟩,⟨95,1,[.it .u32 (1)],[]⟩,⟨95,1,[.it .u32 (1)],[]⟩,⟨95,1,[.it .u32 (3)],[]⟩,⟨95,1,[.it .u32 (1)],[]⟩,⟨95,1,[.it .u32 (4)],[]⟩,⟨95,1,[.it .u32 (1)],[]⟩,⟨95,1,[.it .u32 (3)],[]⟩,⟨95,1,[.it .u32 (1)],[]⟩,⟨95,1,[.it .u32 (6)],[]⟩,⟨95,1,[.it .u32 (1)],[]⟩,⟨95,1,[.it .u32 (12)],[]⟩,⟨95,1,[.it .u32 (1)],[]⟩,⟨95,1,[.it .u32 (8)],[]⟩,⟨95,1,[.it .u32 (1)],[]⟩,⟨95,1,[.it .u32 (3)],[]⟩,⟨95,1,[.it .u32 (1)],[]⟩,⟨95,1,[.it .u32 (13)],[]⟩,⟨95,1,[.it .u32 (1)],[]⟩,⟨95,1,[.it .u32 (18)],[]⟩,⟨95,1,[.it .u32 (1)],[]⟩,⟨95,1,[.it .u32 (12)],[]⟩,⟨95,1,[.it .u32 (1)],[]⟩,⟨95,1,[.it .u32 (12)],[]⟩,⟨95,1,[.it .u32 (1)],[]⟩,⟨95,1,[.it .u32 (14)],[]⟩,⟨95,1,[.it .u32 (1)],[]⟩,⟨95,1,[.it .u32 (24)],[]⟩,⟨95,1,[.it .u32 (1)],[]⟩]
 σ:=[1417,1427,1432,1452,1457,1470,1475,1488,1493,1506,1511,1524,1529,1542,1547,1560,1565,1578,1583,1596,1601,1614,1619,1632,1637,1650,1655,1668,1673,1686,1691]
set_option maxRecDepth 100000 in
theorem Qci:chk jN (callK fnQ orE tb 10000 100 jN.f 0 jN.args ⟨.nil,0,.nil⟩)=true:=by kernel_rfl
theorem QcW {U:UH} (hQ:TabOK Tryz.prog tys tb U):RanOK Tryz.prog U jN:=Qz hQ (Qq hQ fnQok (QQ hQ) 10000 100) Qci
noncomputable def jZ:Ran where
 f:=23
 args:=[.one (.it .i64 2),.one (.it .i64 1),.one (.it .i64 1),.one (.it .i64 4),.one (.it .i64 16)]
 r := .tup [.agg [.it .i64 (0),.sl 0 0 0 16],.one (.it .i64 (0))]
 bl:=[⟨68,4,[.bo false,.sl 1 0 0 1,.bo false,.sl 2 0 0 1,.bo false,.sl 3 0 0 1,.bo false,.sl 4 0 0 1,.bo false,.sl 5 0 0 1,.bo false,.sl 6 0 0 1,.bo false,.sl 7 0 0 1,.bo false,.sl 8 0 0 1,.bo false,.sl 9 0 0 1,.bo false,.sl 10 0 0 1,.bo false,.sl 11 0 0 1,.bo false,.sl 12 0 0 1,.bo false,.sl 13 0 0 1,.bo false,.sl 14 0 0 1,.bo false,.sl 15 0 0 1,.bo false,.sl 16 0 0 1,.bo false,.sl 17 0 0 1,.bo false,.sl 18 0 0 1,.bo false,.sl 19 0 0 1,.bo false,.sl 20 0 0 1,.bo false,.sl 21 0 0 1,.bo false,.sl 22 0 0 1,.bo false,.sl 23 0 0 1,.bo false,.sl 24 0 0 1,.bo false,.sl 25 0 0 1,.bo false,.sl 26 0 0 1,.bo false,.sl 27 0 0 1,.bo false,.sl 28 0 0 1,.bo false,.sl 29 0 0 1,.bo false,.sl 30 0 0 1,.bo false,.sl 31 0 0 1,.bo false,.sl 32 0 0 1],[]⟩,⟨95,1,[.it .u32 (1)],[]⟩,⟨95,1,[.it .u32 (8)],[]⟩,⟨95,1,[.it .u32 (1)],[]⟩,⟨95,1,[.it .u32 (1)],[]⟩,⟨95,1,[.it .u32 (3)],[]⟩,⟨95,1,[.it .u32 (1)],[]⟩,⟨95,1,[.it .u32 (4)],[]⟩,⟨95,1,[.it .u32 (1)],[]⟩,⟨95,1,[.it .u32 (3)],[]⟩,⟨95,1,[.it .u32 (1)],[]⟩,⟨95,1,[.it .u32 (6)],[]⟩,⟨95,1,[.it .u32 (1)],[]⟩,⟨95,1,[.it .u32 (12)],[]⟩,⟨95,1,[.it .u32 (1)],[]⟩,⟨95,1,[.it .u32 (8)],[]⟩,⟨95,1,[.it .u32 (1)],[]⟩,⟨95,1,[.it .u32 (3)],[]⟩,⟨95,1,[.it .u32 (1)],[]⟩,⟨95,1,[.it .u32 (13)],[]⟩,⟨95,1,[.it .u32 (1)],[]⟩,⟨95,1,[.it .u32 (18)],[]⟩,⟨95,1,[.it .u32 (1)],[]⟩,⟨95,1,[.it .u32 (12)],[]⟩,⟨95,1,[.it .u32 (1)],[]⟩,⟨95,1,[.it .u32 (12)],[]⟩,⟨95,1,[.it .u32 (1)],[]⟩,⟨95,1,[.it .u32 (14)],[]⟩,⟨95,1,[.it .u32 (1)],[]⟩,⟨95,1,[.it .u32 (24)],[]⟩,⟨95,1,[.it .u32 (1)],[]⟩,⟨95,1,[.it .u32 (24)],[]⟩,⟨95,1,[.it .u32 (1)],[]⟩]
 σ:=[1499,1509,1514,1534,1539,1552,1557,1570,1575,1588,1593,1606,1611,1624,1629,1642,1647,1660,1665,1678,1683,1696,1701,1714,1719,1732,1737,1750,1755,1768,1773,1786,1791]
set_option maxRecDepth 100000 in
theorem Qce:chk jZ (callK fnQ orE tb 10000 100 jZ.f 0 jZ.args ⟨.nil,0,.nil⟩)=true:=by kernel_rfl
theorem Qdn {U:UH} (hQ:TabOK Tryz.prog tys tb U):RanOK Tryz.prog U jZ:=Qz hQ (Qq hQ fnQok (QQ hQ) 10000 100) Qce
end Go.Proofs.YtnjpkncacddplaaGreatDoor
