/- Closed calls, run (printed by ran.py). No condition. -/
import Derived.Test.YtnjpkncacddplaaGreatDoorM98
namespace Go.Proofs.YtnjpkncacddplaaGreatDoor
open Go.Hp Go.Gx
noncomputable def litQ3:Ran where
 f:=87
 args:=[.one (.it .i64 (-3))]
 r := .tup [.agg [.it .i64 (3),.sl 0 0 0 1],.one (.it .i64 (0))]
 bl:=[⟨3,1,[.it .i64 (1)],[]⟩]
 σ:=[36]
set_option maxRecDepth 100000 in
theorem Qem:chk litQ3 (callK fnT noCall tb 10000 100 litQ3.f 0 litQ3.args ⟨.nil,0,.nil⟩)=true:=by kernel_rfl
theorem Qfr {U:UH} (hQ:TabOK Tryz.prog tys tb U):RanOK Tryz.prog U litQ3:=YU hQ (Jt hQ fnOK QK 10000 100) Qem
noncomputable def litF6:Ran where
 f:=89
 args:=[.one (.it .i64 6)]
 r := .tup [.agg [.sl 0 0 0 3],.one (.it .i64 (0))]
 bl:=[⟨35,2,[.bo false,.sl 1 0 0 1,.bo true,.sl 2 0 0 1,.bo false,.sl 3 0 0 1],[]⟩,⟨95,1,[.it .u32 (1)],[]⟩,⟨95,1,[.it .u32 (1)],[]⟩,⟨95,1,[.it .u32 (1)],[]⟩]
 σ:=[50,37,42,47]
set_option maxRecDepth 100000 in
theorem Qet:chk litF6 (callK fnT noCall tb 10000 100 litF6.f 0 litF6.args ⟨.nil,0,.nil⟩)=true:=by kernel_rfl
theorem Qfc {U:UH} (hQ:TabOK Tryz.prog tys tb U):RanOK Tryz.prog U litF6:=YU hQ (Jt hQ fnOK QK 10000 100) Qet
noncomputable def litQ5:Ran where
 f:=87
 args:=[.one (.it .i64 5)]
 r := .tup [.agg [.it .i64 (5),.sl 0 0 0 1],.one (.it .i64 (0))]
 bl:=[⟨3,1,[.it .i64 (2)],[]⟩]
 σ:=[36]
set_option maxRecDepth 100000 in
theorem Qer:chk litQ5 (callK fnT noCall tb 10000 100 litQ5.f 0 litQ5.args ⟨.nil,0,.nil⟩)=true:=by kernel_rfl
theorem QfK {U:UH} (hQ:TabOK Tryz.prog tys tb U):RanOK Tryz.prog U litQ5:=YU hQ (Jt hQ fnOK QK 10000 100) Qer
noncomputable def litF10:Ran where
 f:=89
 args:=[.one (.it .i64 10)]
 r := .tup [.agg [.sl 0 0 0 5],.one (.it .i64 (0))]
 bl:=[⟨35,2,[.bo false,.sl 1 0 0 1,.bo true,.sl 2 0 0 1,.bo false,.sl 3 0 0 1,.bo true,.sl 4 0 0 1,.bo false,.sl 5 0 0 1],[]⟩,⟨95,1,[.it .u32 (1)],[]⟩,⟨95,1,[.it .u32 (1)],[]⟩,⟨95,1,[.it .u32 (1)],[]⟩,⟨95,1,[.it .u32 (1)],[]⟩,⟨95,1,[.it .u32 (1)],[]⟩]
 σ:=[60,37,42,47,52,57]
set_option maxRecDepth 100000 in
theorem Qch:chk litF10 (callK fnT noCall tb 10000 100 litF10.f 0 litF10.args ⟨.nil,0,.nil⟩)=true:=by kernel_rfl
theorem QdA {U:UH} (hQ:TabOK Tryz.prog tys tb U):RanOK Tryz.prog U litF10:=YU hQ (Jt hQ fnOK QK 10000 100) Qch
noncomputable def litQ7:Ran where
 f:=87
 args:=[.one (.it .i64 (-7))]
 r := .tup [.agg [.it .i64 (7),.sl 0 0 0 1],.one (.it .i64 (0))]
 bl:=[⟨3,1,[.it .i64 (3)],[]⟩]
 σ:=[41]
set_option maxRecDepth 100000 in
theorem Qeo:chk litQ7 (callK fnT noCall tb 10000 100 litQ7.f 0 litQ7.args ⟨.nil,0,.nil⟩)=true:=by kernel_rfl
theorem Qgd {U:UH} (hQ:TabOK Tryz.prog tys tb U):RanOK Tryz.prog U litQ7:=YU hQ (Jt hQ fnOK QK 10000 100) Qeo
noncomputable def litF14:Ran where
 f:=89
 args:=[.one (.it .i64 14)]
 r := .tup [.agg [.sl 0 0 0 7],.one (.it .i64 (0))]
 bl:=[⟨35,2,[.bo false,.sl 1 0 0 1,.bo true,.sl 2 0 0 1,.bo false,.sl 3 0 0 1,.bo true,.sl 4 0 0 1,.bo false,.sl 5 0 0 1,.bo true,.sl 6 0 0 1,.bo false,.sl 7 0 0 1],[]⟩,⟨95,1,[.it .u32 (1)],[]⟩,⟨95,1,[.it .u32 (1)],[]⟩,⟨95,1,[.it .u32 (1)],[]⟩,⟨95,1,[.it .u32 (1)],[]⟩,⟨95,1,[.it .u32 (1)],[]⟩,⟨95,1,[.it .u32 (1)],[]⟩,⟨95,1,[.it .u32 (1)],[]⟩]
 σ:=[70,37,42,47,52,57,62,67]
set_option maxRecDepth 100000 in
theorem Qcb:chk litF14 (callK fnT noCall tb 10000 100 litF14.f 0 litF14.args ⟨.nil,0,.nil⟩)=true:=by kernel_rfl
theorem Qed {U:UH} (hQ:TabOK Tryz.prog tys tb U):RanOK Tryz.prog U litF14:=YU hQ (Jt hQ fnOK QK 10000 100) Qcb
noncomputable def litQ11:Ran where
 f:=87
 args:=[.one (.it .i64 (-11))]
 r := .tup [.agg [.it .i64 (11),.sl 0 0 0 1],.one (.it .i64 (0))]
 bl:=[⟨3,1,[.it .i64 (5)],[]⟩]
 σ:=[36]
set_option maxRecDepth 100000 in
theorem Qcs:chk litQ11 (callK fnT noCall tb 10000 100 litQ11.f 0 litQ11.args ⟨.nil,0,.nil⟩)=true:=by kernel_rfl
theorem Qei {U:UH} (hQ:TabOK Tryz.prog tys tb U):RanOK Tryz.prog U litQ11:=YU hQ (Jt hQ fnOK QK 10000 100) Qcs
noncomputable def litF22:Ran where
 f:=89
 args:=[.one (.it .i64 22)]
 r := .tup [.agg [.sl 0 0 0 11],.one (.it .i64 (0))]
 bl:=[⟨35,2,[.bo false,.sl 1 0 0 1,.bo true,.sl 2 0 0 1,.bo false,.sl 3 0 0 1,.bo true,.sl 4 0 0 1,.bo false,.sl 5 0 0 1,.bo true,.sl 6 0 0 1,.bo false,.sl 7 0 0 1,.bo true,.sl 8 0 0 1,.bo false,.sl 9 0 0 1,.bo true,.sl 10 0 0 1,.bo false,.sl 11 0 0 1],[]⟩,⟨95,1,[.it .u32 (1)],[]⟩,⟨95,1,[.it .u32 (1)],[]⟩,⟨95,1,[.it .u32 (1)],[]⟩,⟨95,1,[.it .u32 (1)],[]⟩,⟨95,1,[.it .u32 (1)],[]⟩,⟨95,1,[.it .u32 (1)],[]⟩,⟨95,1,[.it .u32 (1)],[]⟩,⟨95,1,[.it .u32 (1)],[]⟩,⟨95,1,[.it .u32 (1)],[]⟩,⟨95,1,[.it .u32 (1)],[]⟩,⟨95,1,[.it .u32 (1)],[]⟩]
 σ:=[90,37,42,47,52,57,62,67,72,77,82,87]
set_option maxRecDepth 100000 in
theorem QbV:chk litF22 (callK fnT noCall tb 10000 100 litF22.f 0 litF22.args ⟨.nil,0,.nil⟩)=true:=by kernel_rfl
theorem QdX {U:UH} (hQ:TabOK Tryz.prog tys tb U):RanOK Tryz.prog U litF22:=YU hQ (Jt hQ fnOK QK 10000 100) QbV
noncomputable def litQ13:Ran where
 f:=87
 args:=[.one (.it .i64 13)]
 r := .tup [.agg [.it .i64 (13),.sl 0 0 0 1],.one (.it .i64 (0))]
 bl:=[⟨3,1,[.it .i64 (6)],[]⟩]
 σ:=[36]
set_option maxRecDepth 100000 in
theorem QbT:chk litQ13 (callK fnT noCall tb 10000 100 litQ13.f 0 litQ13.args ⟨.nil,0,.nil⟩)=true:=by kernel_rfl
theorem QdL {U:UH} (hQ:TabOK Tryz.prog tys tb U):RanOK Tryz.prog U litQ13:=YU hQ (Jt hQ fnOK QK 10000 100) QbT
noncomputable def litF26:Ran where
 f:=89
 args:=[.one (.it .i64 26)]
 r := .tup [.agg [.sl 0 0 0 13],.one (.it .i64 (0))]
 bl:=[⟨35,2,[.bo false,.sl 1 0 0 1,.bo true,.sl 2 0 0 1,.bo false,.sl 3 0 0 1,.bo true,.sl 4 0 0 1,.bo false,.sl 5 0 0 1,.bo true,.sl 6 0 0 1,.bo false,.sl 7 0 0 1,.bo true,.sl 8 0 0 1,.bo false,.sl 9 0 0 1,.bo true,.sl 10 0 0 1,.bo false,.sl 11 0 0 1,.bo true,.sl 12 0 0 1,.bo false,.sl 13 0 0 1],[]⟩,⟨95,1,[.it .u32 (1)],[]⟩,⟨95,1,[.it .u32 (1)],[]⟩,⟨95,1,[.it .u32 (1)],[]⟩,⟨95,1,[.it .u32 (1)],[]⟩,⟨95,1,[.it .u32 (1)],[]⟩,⟨95,1,[.it .u32 (1)],[]⟩,⟨95,1,[.it .u32 (1)],[]⟩,⟨95,1,[.it .u32 (1)],[]⟩,⟨95,1,[.it .u32 (1)],[]⟩,⟨95,1,[.it .u32 (1)],[]⟩,⟨95,1,[.it .u32 (1)],[]⟩,⟨95,1,[.it .u32 (1)],[]⟩,⟨95,1,[.it .u32 (1)],[]⟩]
 σ:=[100,37,42,47,52,57,62,67,72,77,82,87,92,97]
set_option maxRecDepth 100000 in
theorem QbQ:chk litF26 (callK fnT noCall tb 10000 100 litF26.f 0 litF26.args ⟨.nil,0,.nil⟩)=true:=by kernel_rfl
theorem Qeq {U:UH} (hQ:TabOK Tryz.prog tys tb U):RanOK Tryz.prog U litF26:=YU hQ (Jt hQ fnOK QK 10000 100) QbQ
end Go.Proofs.YtnjpkncacddplaaGreatDoor
