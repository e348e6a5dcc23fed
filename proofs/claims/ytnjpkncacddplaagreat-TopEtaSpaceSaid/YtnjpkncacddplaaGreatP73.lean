/- The law TopEtaSpace -/
import Derived.Test.YtnjpkncacddplaaGreatRows
import Derived.Test.YtnjpkncacddplaaGreatM134
import Derived.Test.YtnjpkncacddplaaGreatM121
namespace Go.Proofs.YtnjpkncacddplaaGreat
open Go.Hp Go.ChangeShapes Go.WideShapes Go.ChangeAt Go.RowKit Go.Joins
open Go.ChangeMaps (open_string shut_string)
set_option maxRecDepth 100000 in
theorem qI (os:Os) (started:os.Started) (H:Type) (enc:TypeId × Value→H) :
  ReturnsInHanded {} Tryz.checked os 3 .any (Rows.topEtaSpaceSpec.pre6 enc Tryz.prog Tryz.f3 Rows.topEtaSpaceRow.domain false) (Rows.topEtaSpaceSpec.post enc Tryz.prog Tryz.f3 false true false false):=by
 refine returnsInHanded_of_change (C:=Tryz.checked) Tryz.own started (by kernel_rfl) Tryz.func3
  (ChangeSpec.witness6 (enc:=enc) (C:=Tryz.checked) false ⟨#[],#[.agg #[.int .i64 0,.slice none 0 0],.agg #[.int .i64 0,.slice none 0 0]],[]⟩ 8 (by kernel_rfl) (by kernel_rfl) (by kernel_rfl) (by kernel_rfl)) ?_
 intro W base args ds gs before hval0 hW hcnd _
 have hval:∀ (j:Nat) t v,Tryz.f3.params[j]?=some t→args[j]?=some v→Value.okWide Tryz.prog W .any base t v:=hval0
 have hW':=hW
 obtain ⟨p,q,hA0,hV,rfl,hfz,hnd⟩:=hW
 have hA:DataW.TrodAll enc Tryz.prog W 0 (fun _=>true) true Tryz.f3.params.toList args.toList ds p:=hA0
 rw [Tryz.params3] at hA hval
 obtain ⟨v0,v1,d0,d1,p0,p1,rfl,rfl,rfl,h0,h1⟩:=trodAll_two hA
 obtain ⟨rfl,rfl⟩:=trodVars_none hV
 have hlt:∀ x ∈ (p0++p1),x.block < W.heap.size:=fun x hx=>by simpa using hW'.lt x (List.mem_append_left _ (by simpa using hx))
 have hargs:∀ W',Below W.heap.size W W'→DataW.TrodAll enc Tryz.prog W' 0 (fun b=>decide (b < W.heap.size)) true [24,26] [v0,v1] [d0,d1] (p0++p1):=fun W' hb =>
  trodAll_mk2 (Below.trod Tryz.laidOut (by kernel_rfl) (of_decide_eq_true (by kernel_rfl)) h0 hb fun x hx=>hlt x (by simp [hx])) (Below.trod Tryz.laidOut (by kernel_rfl) (of_decide_eq_true (by kernel_rfl)) h1 hb fun x hx=>hlt x (by simp [hx]))
 obtain ⟨r0,n0,f0,e0⟩:=Qhy (hval 0 24 v0 rfl rfl) h0
 obtain ⟨r1,n1,f1,e1⟩:=QiD (hval 1 26 v1 rfl rfl) h1
 refine (QeM (vC e0 e1)).mono fun e W' ⟨he,hb⟩=>?_
 subst he
 exact ⟨_,rfl,QgY hW' rfl rfl rfl rfl (hargs W' hb) hb⟩
theorem topEtaSpace_holds:Rows.TopEtaSpaceSaid :=
 OpenClaim.holds_of_wide 3 Tryz.f3 rfl rfl rfl rfl rfl rfl rfl ⟨rfl,rfl,rfl,rfl,rfl⟩ rfl rfl rfl rfl rfl (by kernel_rfl) Tryz.func3 (by kernel_rfl)
  (of_decide_eq_true (by kernel_rfl)) (by unfold Func.isWrapper; rw [if_neg (of_decide_eq_false (by kernel_rfl))]; exact ⟨rfl,rfl⟩)
  (fun os started H enc _=>qI os started H enc)
#print axioms topEtaSpace_holds
end Go.Proofs.YtnjpkncacddplaaGreat
