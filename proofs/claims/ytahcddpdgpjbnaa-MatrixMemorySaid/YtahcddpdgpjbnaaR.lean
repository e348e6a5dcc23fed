/- From a law's contract to its row: integers as arguments; what holds behind the call. -/
import Derived.Test.YtahcddpdgpjbnaaM2
import Derived.ProofKit
import Derived.Lib.SmallJoins
import Derived.Carry
namespace Go.Proofs.Ytahcddpdgpjbnaa
open Go.Hp Go.ChangeShapes Go.WideShapes Go.ChangeAt Go.RowKit Go.Joins
theorem Try.own:ownKnob Try.prog.godebug=none:=by kernel_rfl
theorem Try.laidOut:laidOutB Try.prog=true:=by kernel_rfl
theorem cellsI:Try.prog.cellsOf 39=2:=by kernel_rfl
theorem cellsU:Try.prog.cellsOf 42=1:=by kernel_rfl
def UW (W:World):UH:=fun k=>W.heap[k]?
def G0 (W:World):World:={ W with heap := #[],drawn:=0 }
theorem Qbx (W:World):Mem (G0 W) (UW W) [] W:=⟨rfl,rfl,rfl,fun _ _ h=>by simp [G0] at h,fun _ _ _=>⟨by simp [G0],fun h=>by simp [G0] at h⟩,fun _ h=>(by cases h),fun _ _ h=>h,fun _ h=>(by cases h),List.Pairwise.nil⟩
theorem QaU {W:World} {a:Addr} {v:Value} (h:W.cell? a=some v):(UW W).cell? a=some v:=by
 unfold UH.cell? UW
 unfold World.cell? at h
 split at h<;>simp_all
theorem yu {W W':World} {U':UH} {M:MH} (hU:ULe (UW W) U') (h:Mem (G0 W) U' M W'):Below W.heap.size W W':=by
 have hb:∀ k,k < W.heap.size→W'.heap[k]?=W.heap[k]?:=fun k hk=>by
  have h1:=Array.getElem?_eq_getElem hk
  rw [h1]
  exact h.old _ _ (hU _ _ h1)
 refine ⟨h.os,h.tape,h.output,?_,hb⟩
 rcases Nat.lt_or_ge W'.heap.size W.heap.size with hlt | hge
 ·have h1:=hb _ hlt
  rw [Array.getElem?_eq_getElem hlt] at h1
  simp at h1
 ·exact hge
theorem QbR {W:World} {f:Nat} {args:List Value} (h:Ct Try.prog f args (G0 W) (UW W) [] fun v _ _=>v = .bool true) :
  Calls Try.prog f args.toArray W fun e W'=>e = .returned (.bool true)∧Below W.heap.size W W' :=
 (h.calls W (Qbx W)).mono fun _ _ ⟨_,_,_,h1,h2,h3,h4⟩=>⟨by rw [h1,h4],yu h2 h3⟩
theorem jT {n:Int} (h:(Lit.int .i64 n).wf=true) : -9223372036854775808≤n∧n≤9223372036854775807:=by
 simp [Lit.wf,IntKind.min,IntKind.max,IntKind.signed,IntKind.bits] at h
 omega
section
variable {H:Type} {enc:TypeId × Value→H}
theorem vn {W:World} {fuel:Nat} {c0 c1:Value} {y:DataW H × List MemPlace} (h:DataW.trod enc Try.prog W 0 (fun _=>true) true fuel 39 [c0,c1]=some y) :
  ∃ (x:IV) (l:List Nat),c0 = .bool x.neg∧c1 = .slice x.p x.n x.c∧Dig (UW W) [] x.p x.n x.c l:=by
 obtain ⟨y0,y1,m,_,_,h0,h1⟩:=trod_struct2 Try.underlying39 h
 have k0:Try.prog.cellsOf 4=1:=by kernel_rfl
 have k1:Try.prog.cellsOf 37=1:=by kernel_rfl
 simp only [k0,k1,List.drop_zero,List.take_succ_cons,List.take_zero,List.drop_succ_cons] at h0 h1
 obtain ⟨neg,e0⟩:∃ b,[c0]=[Value.bool b]:=by
  obtain ⟨b,h,_⟩:=DataW.trod_bool Try.underlying4 h0
  exact ⟨b,h⟩
 rcases open_ints Try.underlying37 Try.underlying42 cellsU h1 with ⟨hcs,hx⟩ | ⟨a,len,cap,zs,hcs,_,hl,hm,hz,hx,hcell,hwz⟩
 ·simp only [List.cons.injEq,and_true] at e0 hcs
  subst e0 hcs
  exact ⟨⟨neg,none,0,0⟩,[],rfl,rfl,Dig.nil⟩
 ·simp only [List.cons.injEq,and_true] at e0 hcs
  subst e0 hcs
  simp only [if_true] at hz
  have hwf:∀ z ∈ zs,0≤z∧z≤4294967295:=fun z hz=>by
   have:=hwz z hz
   simp [Lit.wf,IntKind.min,IntKind.max,IntKind.signed,IntKind.bits] at this
   omega
  refine ⟨⟨neg,some a,len,cap⟩,(zs.take len).map Int.toNat,rfl,rfl,?_,hl,?_,?_,?_⟩
  ·show _=len
   rw [List.length_map,List.length_take]; omega
  ·simp only [maxLen] at hm; omega
  ·intro d hd
   obtain ⟨z,hz1,rfl⟩:=List.mem_map.1 hd
   have:=hwf z (List.mem_of_mem_take hz1)
   omega
  ·intro k d hk
   refine ⟨rfl,fun G w hw=>?_⟩
   rw [List.getElem?_map] at hk
   obtain ⟨z,hz1,hz2⟩:∃ z,(zs.take len)[k]?=some z∧z.toNat=d:=by
    cases hh:(zs.take len)[k]? with
    | none=>rw [hh] at hk; cases hk
    | some z=>rw [hh] at hk; exact ⟨z,rfl,by simpa using hk⟩
   rw [List.getElem?_take] at hz1
   split at hz1
   ·have hkl:=(List.getElem?_eq_some_iff.1 hz1).1
    have hc:=hcell k hkl
    have hr:=hwf z (List.mem_of_getElem? hz1)
    have e:zs.getD k 0=z:=by simp [List.getD,hz1]
    rw [e] at hc
    have e2:z=(d:Int):=by omega
    rw [e2] at hc
    simp only [elt,Option.getD_some]
    exact hw.cellU (QaU hc)
   ·cases hz1
theorem Qct {f:Func} {s:ChangeSpec} {apart fresh handsOn:Bool} {W W':World} {args:Array Value} {ds gs:List (DataW H)} {before pa:List MemPlace}
  (hW:DataW.Whole enc Try.prog f.params.toList s.vars apart W args.toList ds gs before) (hr:f.resultTypes = #[4]) (hres:(s.fn H (ds++gs)).results=[.lit (.bool true)]) (hv:s.vars=[]) (hvr:(s.fn H (ds++gs)).vars=[])
  (hargs:DataW.TrodAll enc Try.prog W' 0 (fun b=>decide (b < W.heap.size)) true f.params.toList args.toList (s.fn H (ds++gs)).args pa) (hb:Below W.heap.size W W') :
  s.post enc Try.prog f apart fresh handsOn false W args (.bool true) W':=by
 refine ⟨ds,gs,before,[],pa,[],hW,?_,hargs,?_,hb.frame _,fun h=>by cases h⟩
 ·rw [hres,hr]
  exact trodAll_mk1 (shut_bool Try.underlying4 true)
 ·rw [hv,hvr]; rfl
end
end Go.Proofs.Ytahcddpdgpjbnaa
