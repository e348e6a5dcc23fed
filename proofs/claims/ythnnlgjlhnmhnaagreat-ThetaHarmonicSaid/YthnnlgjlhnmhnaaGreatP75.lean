/- Harmonic and Weighted -/
import Derived.Test.YthnnlgjlhnmhnaaGreatRows
import Derived.Test.YthnnlgjlhnmhnaaGreatM144
namespace Go.Proofs.YthnnlgjlhnmhnaaGreat
open Go.Hp Go.ChangeShapes Go.WideShapes Go.ChangeAt Go.RowKit Go.Joins
open Go.ChangeMaps (open_string shut_string)
set_option maxRecDepth 100000 in
theorem qa (os:Os) (started:os.Started) (H:Type) (enc:TypeId × Value→H) :
  ReturnsInHanded {} Tryz.checked os 3 .any (Rows.thetaHarmonicSpec.pre6 enc Tryz.prog Tryz.f3 Rows.thetaHarmonicRow.domain false) (Rows.thetaHarmonicSpec.post enc Tryz.prog Tryz.f3 false true false false):=by
 refine returnsInHanded_of_change (C:=Tryz.checked) Tryz.own started (by kernel_rfl) Tryz.func3
  (ChangeSpec.witness6 (enc:=enc) (C:=Tryz.checked) false ⟨#[],#[.agg #[.int .i64 0,.slice none 0 0,.slice none 0 0,.int .i64 0]],[]⟩ 8 (by kernel_rfl) (by kernel_rfl) (by kernel_rfl) (by kernel_rfl)) ?_
 intro W base args ds gs before hval0 hW hcnd _
 have hval:∀ (j:Nat) t v,Tryz.f3.params[j]?=some t→args[j]?=some v→Value.okWide Tryz.prog W .any base t v:=hval0
 have hW':=hW
 obtain ⟨p,q,hA0,hV,rfl,hfz,hnd⟩:=hW
 have hA:DataW.TrodAll enc Tryz.prog W 0 (fun _=>true) true Tryz.f3.params.toList args.toList ds p:=hA0
 rw [Tryz.params3] at hA hval
 obtain ⟨v0,d0,rfl,rfl,h0⟩:=trodAll_one hA
 obtain ⟨rfl,rfl⟩:=trodVars_none hV
 have hlt:∀ x ∈ p,x.block < W.heap.size:=fun x hx=>by simpa using hW'.lt x (List.mem_append_left _ (by simpa using hx))
 have hargs:∀ W',Below W.heap.size W W'→DataW.TrodAll enc Tryz.prog W' 0 (fun b=>decide (b < W.heap.size)) true [27] [v0] [d0] p:=fun W' hb =>
  trodAll_mk1 (Below.trod Tryz.laidOut (by kernel_rfl) (of_decide_eq_true (by kernel_rfl)) h0 hb fun x hx=>hlt x (by simp [hx]))
 obtain ⟨r0,c0,N0,n0,f0,a0,b0,q0,s0,t0,e0⟩:=QeY (hval 0 27 v0 rfl rfl) h0
 refine (Qef (jV e0)).mono fun e W' ⟨he,hb⟩=>?_
 subst he
 exact ⟨_,rfl,Qgp hW' rfl rfl rfl rfl (hargs W' hb) hb⟩
theorem thetaHarmonic_holds:Rows.ThetaHarmonicSaid :=
 OpenClaim.holds_of_wide 3 Tryz.f3 rfl rfl rfl rfl rfl rfl rfl ⟨rfl,rfl,rfl,rfl,rfl⟩ rfl rfl rfl rfl rfl (by kernel_rfl) Tryz.func3 (by kernel_rfl)
  (of_decide_eq_true (by kernel_rfl)) (by unfold Func.isWrapper; rw [if_neg (of_decide_eq_false (by kernel_rfl))]; exact ⟨rfl,rfl⟩)
  (fun os started H enc _=>qa os started H enc)
#print axioms thetaHarmonic_holds
end Go.Proofs.YthnnlgjlhnmhnaaGreat
