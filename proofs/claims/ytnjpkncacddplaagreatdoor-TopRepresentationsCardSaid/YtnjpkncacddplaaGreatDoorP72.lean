/- the forms of a fundamental discriminant represent n in all as often as the sum over the divisors tells -/
import Derived.Test.YtnjpkncacddplaaGreatDoorRows
import Derived.Test.YtnjpkncacddplaaGreatDoorTie
import Derived.Test.YtnjpkncacddplaaGreatDoorCards
import Derived.Test.YtnjpkncacddplaaGreatDoorM95
import Derived.Test.YtnjpkncacddplaaGreatDoorM105
namespace Go.Proofs.YtnjpkncacddplaaGreatDoor
open Go.Hp Go.ChangeShapes Go.WideShapes Go.ChangeAt Go.RowKit Go.Joins
open Go.ChangeMaps (open_string shut_string)
noncomputable def laidWorld (os:Os):World :=
 let w0:=World.holding Tryz.prog os ⟨#[],#[],[]⟩
 { w0 with heap:=w0.heap.modify 0 fun
   | .cells _ t frozen => .cells (debL.map fun n:Nat=>Value.int .u8 (n:Int)).toArray t frozen
   | o=>o }
set_option maxRecDepth 100000 in
theorem jj (os:Os) (args:Array Value):laidMetH Tryz.prog Rows.topRepresentationsRow.laid ((laidWorld os).forCall (fun _ _=>0) ⟨#[],args,[]⟩).memory :=
 laidMetH_of_parts (laidMet_of_run' 8 (by kernel_rfl) (by kernel_rfl)) (by kernel_rfl)
set_option maxRecDepth 100000 in
theorem JR (os:Os) (started:os.Started) (H:Type) (enc:TypeId × Value→H) :
  ReturnsInHanded {} Tryz.checked os 4 .any (fun w args=>(Rows.topRepresentationsSpec.pre enc Tryz.prog Tryz.f4 [] false w args∧laidMetH Tryz.prog Rows.topRepresentationsRow.laid w)∧sizedMet enc Tryz.prog Tryz.f4 (OpenSpec.ofChange Rows.topRepresentationsSpec) false w args)
   (Rows.topRepresentationsSpec.post enc Tryz.prog Tryz.f4 false true false false):=by
 refine returnsInHanded_of_change_and (C:=Tryz.checked) (X:=fun w _=>laidMetH Tryz.prog Rows.topRepresentationsRow.laid w) (fun _ _ _ hh h=>h.of_heap hh) Tryz.own started (by kernel_rfl) Tryz.func4
  (ChangeSpec.witness_at (enc:=enc) (C:=Tryz.checked) (os:=os) (X:=fun w _=>laidMetH Tryz.prog Rows.topRepresentationsRow.laid w) false (laidWorld os) #[.int .i64 0,.int .i64 0] 8 rfl (by kernel_rfl) (by kernel_rfl) (by kernel_rfl) (by kernel_rfl) (by kernel_rfl) (jj os _)) ?_
 intro W base args ds gs before hval0 hW _ _ hL _
 have hval:∀ (j:Nat) t v,Tryz.f4.params[j]?=some t→args[j]?=some v→Value.okWide Tryz.prog W .any base t v:=hval0
 have hW':=hW
 obtain ⟨p,q,hA0,hV,rfl,hfz,hnd⟩:=hW
 have hA:DataW.TrodAll enc Tryz.prog W 0 (fun _=>true) true Tryz.f4.params.toList args.toList ds p:=hA0
 rw [Tryz.params4] at hA hval
 obtain ⟨v0,v1,d0,d1,p0,p1,rfl,rfl,rfl,h0,h1⟩:=trodAll_two hA
 obtain ⟨rfl,rfl⟩:=trodVars_none hV
 have hlt:∀ x ∈ (p0++p1),x.block < W.heap.size:=fun x hx=>by simpa using hW'.lt x (List.mem_append_left _ (by simpa using hx))
 have hargs:∀ W',Below W.heap.size W W'→DataW.TrodAll enc Tryz.prog W' 0 (fun b=>decide (b < W.heap.size)) true [3,3] [v0,v1] [d0,d1] (p0++p1):=fun W' hb =>
  trodAll_mk2 (Below.trod Tryz.laidOut (by kernel_rfl) (of_decide_eq_true (by kernel_rfl)) h0 hb fun x hx=>hlt x (by simp [hx])) (Below.trod Tryz.laidOut (by kernel_rfl) (of_decide_eq_true (by kernel_rfl)) h1 hb fun x hx=>hlt x (by simp [hx]))
 obtain ⟨x0,rfl,rfl,rfl,w0⟩:=open_int Tryz.underlying3 (hval 0 3 v0 rfl rfl) h0
 obtain ⟨x1,rfl,rfl,rfl,w1⟩:=open_int Tryz.underlying3 (hval 1 3 v1 rfl rfl) h1
 have i0:=jL w0
 have i1:=jL w1
 refine (Qbv (Yw (vL hL) i0 i1)).mono fun e W' ⟨he,hb⟩=>?_
 subst he
 exact ⟨_,rfl,QbL hW' rfl rfl rfl rfl (hargs W' hb) hb⟩
theorem topRepresentations_holds:Rows.TopRepresentationsSaid :=
 OpenClaim.holds_of_wide 4 Tryz.f4 rfl rfl rfl rfl rfl rfl rfl ⟨rfl,rfl,rfl,rfl,rfl⟩ rfl rfl rfl rfl rfl (by kernel_rfl) Tryz.func4 (by kernel_rfl)
  (of_decide_eq_true (by kernel_rfl)) (by unfold Func.isWrapper; rw [if_neg (of_decide_eq_false (by kernel_rfl))]; exact ⟨rfl,rfl⟩)
  (fun os started H enc _=>JR os started H enc)
theorem topRepresentationsCard_holds:Rows.TopRepresentationsCardSaid :=
 Claim7.holds_tied_plain_at .later [] [.data] true (true, "2240dc46bd123623b24dd5cb68d0568577ed80cbfdcd607ea0f59bfe256e6532") false
  topRepresentations_holds (fun _ h=>by cases h) (by kernel_rfl) (fun _ h=>by cases h) topRepresentations_row_tie rfl ⟨rfl,rfl⟩ (by kernel_rfl) rfl
  (fun f fn hf hfn=>by
   obtain rfl : f = 4 := Option.some.inj ((show Tryz.prog.funcNamed "halfplane/halfplanetop.TopRepresentations" = some 4 by kernel_rfl).symm.trans hf) |>.symm
   obtain rfl:fn=Tryz.f4:=(Option.some.inj (Tryz.func4.symm.trans hfn)).symm
   exact ⟨by kernel_rfl,fun j t ht=>by
    rw [Tryz.params4] at ht
    have h3:t=3:=by
     rcases j with _ | _ | j
     ·simpa using ht.symm
     ·simpa using ht.symm
     ·simp at ht
    subst h3
    exact (show Tryz.prog.wantsStandIn 3=false by kernel_rfl)⟩)
  (by kernel_rfl)
#print axioms topRepresentationsCard_holds
end Go.Proofs.YtnjpkncacddplaaGreatDoor
