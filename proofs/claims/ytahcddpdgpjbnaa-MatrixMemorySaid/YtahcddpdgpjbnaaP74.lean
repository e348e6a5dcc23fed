/- The row MatrixMemory holds: arguments keep their elements, also when results are overwritten; for all matrices. -/
import Derived.Test.YtahcddpdgpjbnaaRows
import Derived.Test.YtahcddpdgpjbnaaRm
import Derived.Test.YtahcddpdgpjbnaaB310
namespace Go.Proofs.Ytahcddpdgpjbnaa
open Go.Hp Go.ChangeShapes Go.WideShapes Go.ChangeAt Go.RowKit Go.Joins
open Go.ChangeMaps (open_string shut_string)
set_option maxRecDepth 100000 in
theorem Vn (os:Os) (started:os.Started) (H:Type) (enc:TypeId × Value→H) :
  ReturnsInHanded {} Try.checked os 3 .any (Rows.matrixMemorySpec.pre6 enc Try.prog Try.f3 Rows.matrixMemoryRow.domain false) (Rows.matrixMemorySpec.post enc Try.prog Try.f3 false true false false):=by
 refine returnsInHanded_of_change (C:=Try.checked) Try.own started (by kernel_rfl) Try.func3
  (ChangeSpec.witness6 (enc:=enc) (C:=Try.checked) false ⟨#[],#[.agg #[.int .i64 0,.int .i64 0,.slice none 0 0],.agg #[.int .i64 0,.int .i64 0,.slice none 0 0]],[]⟩ 8 (by kernel_rfl) (by kernel_rfl) (by kernel_rfl) (by kernel_rfl)) ?_
 intro W base args ds gs before hval0 hW hcnd _
 have hval:∀ (j:Nat) t v,Try.f3.params[j]?=some t→args[j]?=some v→Value.okWide Try.prog W .any base t v:=hval0
 have hW':=hW
 obtain ⟨p,q,hA0,hV,rfl,hfz,hnd⟩:=hW
 have hA:DataW.TrodAll enc Try.prog W 0 (fun _=>true) true Try.f3.params.toList args.toList ds p:=hA0
 rw [Try.params3] at hA hval
 obtain ⟨v0,v1,d0,d1,p0,p1,rfl,rfl,rfl,h0,h1⟩:=trodAll_two hA
 obtain ⟨rfl,rfl⟩:=trodVars_none hV
 have hlt:∀ x ∈ (p0++p1),x.block < W.heap.size:=fun x hx=>by simpa using hW'.lt x (List.mem_append_left _ (by simpa using hx))
 have hargs:∀ W',Below W.heap.size W W'→DataW.TrodAll enc Try.prog W' 0 (fun b=>decide (b < W.heap.size)) true [24,24] [v0,v1] [d0,d1] (p0++p1):=fun W' hb =>
  trodAll_mk2 (Below.trod Try.laidOut (by kernel_rfl) (of_decide_eq_true (by kernel_rfl)) h0 hb fun x hx=>hlt x (by simp [hx])) (Below.trod Try.laidOut (by kernel_rfl) (of_decide_eq_true (by kernel_rfl)) h1 hb fun x hx=>hlt x (by simp [hx]))
 obtain ⟨r0,c0,n0,f0,e0⟩:=Qbn (hval 0 24 v0 rfl rfl) h0
 obtain ⟨r1,c1,n1,f1,e1⟩:=Qbn (hval 1 24 v1 rfl rfl) h1
 refine (QbR (qQ e0 e1)).mono fun e W' ⟨he,hb⟩=>?_
 subst he
 exact ⟨_,rfl,Qct hW' rfl rfl rfl rfl (hargs W' hb) hb⟩
theorem matrixMemory_holds:Rows.MatrixMemorySaid :=
 OpenClaim.holds_of_wide 3 Try.f3 rfl rfl rfl rfl rfl rfl rfl ⟨rfl,rfl,rfl,rfl,rfl⟩ rfl rfl rfl rfl rfl (by kernel_rfl) Try.func3 (by kernel_rfl)
  (of_decide_eq_true (by kernel_rfl)) (by unfold Func.isWrapper; rw [if_neg (of_decide_eq_false (by kernel_rfl))]; exact ⟨rfl,rfl⟩)
  (fun os started H enc _=>Vn os started H enc)
#print axioms matrixMemory_holds
end Go.Proofs.Ytahcddpdgpjbnaa
