/- the abelian class of a word in S and T is that of its value -/
import Derived.Test.YtnjpkncacddplaaGreatDoorRows
import Derived.Test.YtnjpkncacddplaaGreatDoorTie
import Derived.Test.YtnjpkncacddplaaGreatDoorCards
import Derived.Test.YtnjpkncacddplaaGreatDoorM95
import Derived.Test.YtnjpkncacddplaaGreatDoorM99
namespace Go.Proofs.YtnjpkncacddplaaGreatDoor
open Go.Hp Go.ChangeShapes Go.WideShapes Go.ChangeAt Go.RowKit Go.Joins
open Go.ChangeMaps (open_string shut_string)
theorem arr2s (T:Array Value) (h:T.size=2):∃ a b:Value,T = #[a,b]:=by
 obtain ⟨l⟩:=T
 match l,h with
 | [a,b],_=>exact ⟨a,b,rfl⟩
set_option maxRecDepth 100000 in
theorem QcI {H:Type} {enc:TypeId × Value→H} {W:World} {r:Reach} {b0:Nat} {v:Value} {d:DataW H} {p:List MemPlace} (hv:Value.okWide Tryz.prog W r b0 24 v)
  (h:DataW.Trod enc Tryz.prog W 0 (fun _=>true) true 24 v d p):∃ (t:Bool) (q:Option Addr) (n c:Nat) (vs:List Value) (f:Nat→Int),v = .agg #[.bool t,.slice q n c]∧n≤9223372036854775807∧RowAt (UW W) [] 1 q n vs∧El Vz (UW W) vs f:=by
 have kS:Tryz.prog.cellsOf 24=2:=by kernel_rfl
 obtain ⟨cs,rfl,hsz⟩:=okWide_struct Tryz.underlying24 hv
 obtain ⟨c0,c1,rfl⟩:=arr2s _ (hsz.trans kS)
 obtain ⟨fuel,hf⟩:=h
 have hf:DataW.trod enc Tryz.prog W 0 (fun _=>true) true fuel 24 [c0,c1]=some (d,p):=hf
 obtain ⟨y0,y1,m,_,_,h0,h1⟩:=trod_struct2 Tryz.underlying24 hf
 have k0:Tryz.prog.cellsOf 4=1:=by kernel_rfl
 have k1:Tryz.prog.cellsOf 22=1:=by kernel_rfl
 simp only [k0,k1,List.drop_zero,List.take_succ_cons,List.take_zero,List.drop_succ_cons] at h0 h1
 obtain ⟨t,e0⟩:∃ b,[c0]=[Value.bool b]:=by
  obtain ⟨b,h,_⟩:=DataW.trod_bool Tryz.underlying4 h0
  exact ⟨b,h⟩
 obtain ⟨q,n,cc,vs,f,rfl,hn,hc,hr,he⟩:=Qfg h1
 simp only [List.cons.injEq,and_true] at e0
 subst e0
 exact ⟨t,q,n,cc,vs,f,rfl,by omega,hr,he⟩
noncomputable def laidWorld (os:Os):World :=
 let w0:=World.holding Tryz.prog os ⟨#[],#[],[]⟩
 { w0 with heap:=w0.heap.modify 0 fun
   | .cells _ t frozen => .cells (debL.map fun n:Nat=>Value.int .u8 (n:Int)).toArray t frozen
   | o=>o }
set_option maxRecDepth 100000 in
theorem yj (os:Os) (args:Array Value):laidMetH Tryz.prog Rows.topAbelianRow.laid ((laidWorld os).forCall (fun _ _=>0) ⟨#[],args,[]⟩).memory :=
 laidMetH_of_parts (laidMet_of_run' 8 (by kernel_rfl) (by kernel_rfl)) (by kernel_rfl)
set_option maxRecDepth 100000 in
theorem qg (os:Os) (started:os.Started) (H:Type) (enc:TypeId × Value→H) :
  ReturnsInHanded {} Tryz.checked os 3 .any (fun w args=>(Rows.topAbelianSpec.pre enc Tryz.prog Tryz.f3 [] false w args∧laidMetH Tryz.prog Rows.topAbelianRow.laid w)∧sizedMet enc Tryz.prog Tryz.f3 (OpenSpec.ofChange Rows.topAbelianSpec) false w args)
   (Rows.topAbelianSpec.post enc Tryz.prog Tryz.f3 false true false false):=by
 refine returnsInHanded_of_change_and (C:=Tryz.checked) (X:=fun w _=>laidMetH Tryz.prog Rows.topAbelianRow.laid w) (fun _ _ _ hh h=>h.of_heap hh) Tryz.own started (by kernel_rfl) Tryz.func3
  (ChangeSpec.witness_at (enc:=enc) (C:=Tryz.checked) (os:=os) (X:=fun w _=>laidMetH Tryz.prog Rows.topAbelianRow.laid w) false (laidWorld os) #[.agg #[.bool false,.slice none 0 0]] 8 rfl (by kernel_rfl) (by kernel_rfl) (by kernel_rfl) (by kernel_rfl) (by kernel_rfl) (yj os _)) ?_
 intro W base args ds gs before hval0 hW _ _ hL _
 have hval:∀ (j:Nat) t v,Tryz.f3.params[j]?=some t→args[j]?=some v→Value.okWide Tryz.prog W .any base t v:=hval0
 have hW':=hW
 obtain ⟨p,q,hA0,hV,rfl,hfz,hnd⟩:=hW
 have hA:DataW.TrodAll enc Tryz.prog W 0 (fun _=>true) true Tryz.f3.params.toList args.toList ds p:=hA0
 rw [Tryz.params3] at hA hval
 obtain ⟨v0,d0,rfl,rfl,h0⟩:=trodAll_one hA
 obtain ⟨rfl,rfl⟩:=trodVars_none hV
 have hlt:∀ x ∈ p,x.block < W.heap.size:=fun x hx=>by simpa using hW'.lt x (List.mem_append_left _ (by simpa using hx))
 have hargs:∀ W',Below W.heap.size W W'→DataW.TrodAll enc Tryz.prog W' 0 (fun b=>decide (b < W.heap.size)) true [24] [v0] [d0] p:=fun W' hb =>
  trodAll_mk1 (Below.trod Tryz.laidOut (by kernel_rfl) (of_decide_eq_true (by kernel_rfl)) h0 hb fun x hx=>hlt x (by simp [hx]))
 obtain ⟨t0,p0,n0,c0,vs0,f0,rfl,hn0,rw0,el0⟩:=QcI (hval 0 24 v0 rfl rfl) h0
 refine (Qcq (yk (QaB hL) rw0 el0 hn0)).mono fun e W' ⟨he,hb⟩=>?_
 subst he
 exact ⟨_,rfl,QdX hW' rfl rfl rfl rfl (hargs W' hb) hb⟩
theorem topAbelian_holds:Rows.TopAbelianSaid :=
 OpenClaim.holds_of_wide 3 Tryz.f3 rfl rfl rfl rfl rfl rfl rfl ⟨rfl,rfl,rfl,rfl,rfl⟩ rfl rfl rfl rfl rfl (by kernel_rfl) Tryz.func3 (by kernel_rfl)
  (of_decide_eq_true (by kernel_rfl)) (by unfold Func.isWrapper; rw [if_neg (of_decide_eq_false (by kernel_rfl))]; exact ⟨rfl,rfl⟩)
  (fun os started H enc _=>qg os started H enc)
theorem topAbelianCard_holds:Rows.TopAbelianCardSaid :=
 Claim7.holds_tied_plain_at .later [] [.data] true (true, "2240dc46bd123623b24dd5cb68d0568577ed80cbfdcd607ea0f59bfe256e6532") false
  topAbelian_holds (fun _ h=>by cases h) (by kernel_rfl) (fun _ h=>by cases h) topAbelian_row_tie rfl ⟨rfl,rfl⟩ (by kernel_rfl) rfl
  (fun f fn hf hfn=>by
   obtain rfl : f = 3 := Option.some.inj ((show Tryz.prog.funcNamed "halfplane/halfplanetop.TopAbelian" = some 3 by kernel_rfl).symm.trans hf) |>.symm
   obtain rfl:fn=Tryz.f3:=(Option.some.inj (Tryz.func3.symm.trans hfn)).symm
   exact ⟨by kernel_rfl,fun j t ht=>by
    rw [Tryz.params3] at ht
    have h3:t=24:=by
     rcases j with _ | j
     ·simpa using ht.symm
     ·simp at ht
    subst h3
    exact (show Tryz.prog.wantsStandIn 24=false by kernel_rfl)⟩)
  (by kernel_rfl)
#print axioms topAbelianCard_holds
end Go.Proofs.YtnjpkncacddplaaGreatDoor
