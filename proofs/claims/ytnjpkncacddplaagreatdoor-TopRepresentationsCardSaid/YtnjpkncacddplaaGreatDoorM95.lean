/- Texts of this seat's own, merged: each begins with its own remark. -/
import Derived.Test.YtnjpkncacddplaaGreatDoorM2
import Derived.ProofKit
import Derived.Lib.SmallJoins
import Derived.Carry
import Derived.Test.YtnjpkncacddplaaGreatDoorRows
import Derived.Test.YtnjpkncacddplaaGreatDoorM98
import Derived.LaidLaws
import Derived.LaidHandle
import Derived.Test.YtnjpkncacddplaaGreatDoorM18
import Derived.Test.YtnjpkncacddplaaGreatDoorM35
import Derived.Deep.Slices
import Derived.Deep.Strs
import Derived.Test.YtnjpkncacddplaaGreatDoorVz
/- From a law's contract to its row: integers as arguments; what holds behind the call. -/
namespace Go.Proofs.YtnjpkncacddplaaGreatDoor
open Go.Hp Go.ChangeShapes Go.WideShapes Go.ChangeAt Go.RowKit Go.Joins
theorem Tryz.own:ownKnob Tryz.prog.godebug=none:=by kernel_rfl
theorem Tryz.laidOut:laidOutB Tryz.prog=true:=by kernel_rfl
def UW (W:World):UH:=fun k=>W.heap[k]?
theorem Qbr (W:World):Mem W (UW W) [] W:=⟨rfl,rfl,rfl,fun _ _ h=>h,fun _ h=>(by cases h),List.Pairwise.nil⟩
theorem ye {W W':World} {U':UH} {M:MH} (hU:ULe (UW W) U') (h:Mem W U' M W'):Below W.heap.size W W':=by
 have hb:∀ k,k < W.heap.size→W'.heap[k]?=W.heap[k]?:=fun k hk=>by
  have h1:=Array.getElem?_eq_getElem hk
  rw [h1]
  exact h.old _ _ (hU _ _ h1)
 refine ⟨h.os,h.tape,h.output,?_,hb⟩
 rcases Nat.lt_or_ge W'.heap.size W.heap.size with hlt | hge
 ·have h1:=hb _ hlt
  rw [Array.getElem?_eq_getElem hlt] at h1
  simp at h1
 ·exact hge
theorem Qbv {W:World} {f:Nat} {args:List Value} (h:Ct Tryz.prog f args W (UW W) [] fun v _ _=>v = .bool true) :
  Calls Tryz.prog f args.toArray W fun e W'=>e = .returned (.bool true)∧Below W.heap.size W W' :=
 (h.calls W (Qbr W)).mono fun _ _ ⟨_,_,_,h1,h2,h3,h4⟩=>⟨by rw [h1,h4],ye h2 h3⟩
theorem jL {n:Int} (h:(Lit.int .i64 n).wf=true) : -9223372036854775808≤n∧n≤9223372036854775807:=by
 simp [Lit.wf,IntKind.min,IntKind.max,IntKind.signed,IntKind.bits] at h
 omega
section
variable {H:Type} {enc:TypeId × Value→H}
theorem QbL {f:Func} {s:ChangeSpec} {apart fresh handsOn:Bool} {W W':World} {args:Array Value} {ds gs:List (DataW H)} {before pa:List MemPlace}
  (hW:DataW.Whole enc Tryz.prog f.params.toList s.vars apart W args.toList ds gs before) (hr:f.resultTypes = #[4]) (hres:(s.fn H (ds++gs)).results=[.lit (.bool true)]) (hv:s.vars=[]) (hvr:(s.fn H (ds++gs)).vars=[])
  (hargs:DataW.TrodAll enc Tryz.prog W' 0 (fun b=>decide (b < W.heap.size)) true f.params.toList args.toList (s.fn H (ds++gs)).args pa) (hb:Below W.heap.size W W') :
  s.post enc Tryz.prog f apart fresh handsOn false W args (.bool true) W':=by
 refine ⟨ds,gs,before,[],pa,[],hW,?_,hargs,?_,hb.frame _,fun h=>by cases h⟩
 ·rw [hres,hr]
  exact trodAll_mk1 (shut_bool Tryz.underlying4 true)
 ·rw [hv,hvr]; rfl
end
end Go.Proofs.YtnjpkncacddplaaGreatDoor

/- The table that is laid: its cells. -/
namespace Go.Proofs.YtnjpkncacddplaaGreatDoor
open Go.Hp Go.Gx Go.ChangeShapes Go.WideShapes Go.ChangeAt Go.RowKit Go.Joins
theorem QaJ {α β:Type} {f:α→Option β}:∀ {l:List α} {xs:List β},l.mapM f=some xs→∀ (i:Nat) x,xs[i]?=some x→∃ a,l[i]?=some a∧f a=some x
 | [],xs,h,i,x,hx=>by
  simp at h
  subst h
  simp at hx
 | a::r,xs,h,i,x,hx=>by
  rw [List.mapM_cons] at h
  cases ha:f a with
  | none=>simp [ha] at h
  | some b =>
   cases hr:r.mapM f with
   | none=>simp [ha,hr] at h
   | some ys =>
    simp [ha,hr] at h
    subst h
    cases i with
    | zero =>
     simp at hx
     subst hx
     exact ⟨a,rfl,ha⟩
    | succ i =>
     obtain ⟨a',h1,h2⟩:=QaJ hr i x (by simpa using hx)
     exact ⟨a',by simpa using h1,h2⟩
theorem QdJ {P:Program} {w:World} {base fuel:Nat} {sp:Nat→Bool} {e:TypeId} {cs:List Value} {n:Int} {p:List MemPlace} (he:P.underlying e=some (.int .u8)) (h:DataW.trod (fun _=>()) P w base sp false fuel e cs=some (.lit (.int .u8 n),p)):cs=[.int .u8 n]:=by
 cases fuel with
 | zero=>simp [DataW.trod] at h
 | succ fuel =>
  unfold DataW.trod at h
  rw [he] at h
  cases cs with
  | nil=>simp at h
  | cons c r =>
   cases r with
   | cons c2 r=>simp at h
   | nil =>
    cases c<;>simp at h
    rename_i k m
    obtain ⟨⟨rfl,-⟩,rfl,-⟩:=h
    rfl
theorem QcZ {P:Program} {w:World} {base fuel N:Nat} {sp:Nat→Bool} {t e:TypeId} {cs:List Value} {ds:List (DataW Unit)} {p:List MemPlace} (ht:P.underlying t=some (.array N e)) (he:P.underlying e=some (.int .u8)) (hc:P.cellsOf e=1)
  (h:DataW.trod (fun _=>()) P w base sp false fuel t cs=some (.agg ds,p)) (i:Nat) (n:Int) (hi:ds[i]?=some (.lit (.int .u8 n))):cs[i]?=some (.int .u8 n):=by
 cases fuel with
 | zero=>simp [DataW.trod] at h
 | succ fuel =>
  unfold DataW.trod at h
  rw [ht] at h
  simp only at h
  split at h
  ·cases hm:(List.range N).mapM fun i=>DataW.trod (fun _=>()) P w base sp false fuel e ((cs.drop (i*P.cellsOf e)).take (P.cellsOf e)) with
   | none=>rw [hm] at h; cases h
   | some xs =>
    rw [hm] at h
    simp only [Option.map_some,Option.some.injEq,Prod.mk.injEq,DataW.agg.injEq] at h
    rw [← h.1,List.getElem?_map] at hi
    cases hx:xs[i]? with
    | none=>rw [hx] at hi; cases hi
    | some x =>
     rw [hx] at hi
     simp only [Option.map_some,Option.some.injEq] at hi
     obtain ⟨a,h1,h2⟩:=QaJ hm i x hx
     obtain ⟨x1,x2⟩:=x
     simp only at hi
     subst hi
     have h3:=QdJ he h2
     rw [hc,Nat.mul_one] at h3
     have ha:a=i:=by
      have:=List.getElem?_eq_some_iff.1 h1
      obtain ⟨_,h5⟩:=this
      simpa using h5.symm
     subst ha
     have h4:((cs.drop a).take 1)[0]?=some (.int .u8 n):=by rw [h3]; rfl
     simpa using h4
  ·cases h
theorem vL {W : World} (h : laidMetH Tryz.prog [("math/bits.deBruijn64tab", Rows.laid_math_bits_deBruijn64tab)] W) : TabOK Tryz.prog tys tb (UW W) := by
 have h' : laidMet Tryz.prog [("math/bits.deBruijn64tab", Rows.laid_math_bits_deBruijn64tab)] W := h
 obtain ⟨ps,⟨g,t,cs,fuel,p,q,e1,e2,e3,e4,e5,rfl⟩,-,hrow⟩:=h'
 have g0 : Tryz.prog.globalNamed "math/bits.deBruijn64tab" = some 0 := by kernel_rfl
 obtain rfl:0=g:=Option.some.inj (g0.symm.trans e1)
 have t0:(Tryz.prog.globals[0]?).map (·.type)=some 171:=by kernel_rfl
 obtain rfl:171=t:=Option.some.inj (t0.symm.trans e2)
 refine tbOK fun o n ho=>?_
 have hl:(Rows.laid_math_bits_deBruijn64tab:DataW Unit) = .agg (debL.map fun n:Nat => .lit (.int .u8 (n:Int))):=rfl
 rw [hl] at e4
 have hc:=QcZ (N:=64) (e:=5) (by kernel_rfl) (by kernel_rfl) (by kernel_rfl) e4 o n (by rw [List.getElem?_map,ho]; rfl)
 have hw:W.cell? ⟨0,o,none⟩=some (.int .u8 (n:Int)):=by
  rw [World.var?_cell g0 e3 o]
  simpa using hc
 unfold World.cell? at hw
 unfold UH.cell? UW
 revert hw
 cases W.heap[(0:Nat)]? with
 | none=>intro h; simp at h
 | some x=>cases x<;>simp
end Go.Proofs.YtnjpkncacddplaaGreatDoor

/- From a law's contract to its row: machine integers, lists of integers, matrices of both as arguments. -/
namespace Go.Proofs.YtnjpkncacddplaaGreatDoor
open Go.Hp Go.ChangeShapes Go.WideShapes Go.ChangeAt Go.RowKit Go.Joins
def Xz (U:UH) (v:Value) (z:Int):Prop:=∃ x:IV,v=x.v∧x.rep U [] z
theorem Qeg:Kept Xz:=fun _ _ _ _ hU ⟨x,h1,h2⟩=>⟨x,h1,h2.up hU (List.Sublist.refl _)⟩
instance:KeptC Xz:=⟨Qeg⟩
structure RawO {α:Type} (ok:UH→Value→α→Prop) (s:Nat) (U:UH) (v:Value) (r c:Int) (n:Nat) (f:Nat→α):Prop where
 rows : -9223372036854775808≤r∧r≤9223372036854775807
 cols : -9223372036854775808≤c∧c≤9223372036854775807
 num:n≤9223372036854775807
 elt:∃ a,v = .agg #[.int .i64 r,.int .i64 c,a]∧Ls ok s n U [] a f
theorem RawO.up {U U':UH} {α:Type} {ok:UH→Value→α→Prop} [KeptC ok] {s:Nat} {v:Value} {r c:Int} {n:Nat} {f:Nat→α} (h:RawO ok s U v r c n f) (hU:ULe U U'):RawO ok s U' v r c n f:=by
 obtain ⟨a,h1,h2⟩:=h.elt
 exact ⟨h.rows,h.cols,h.num,a,h1,h2.up KeptC.out hU (List.Sublist.refl _)⟩
section
variable {H:Type} {enc:TypeId × Value→H}
end
end Go.Proofs.YtnjpkncacddplaaGreatDoor

/- From a law's contract to its row: even forms, binary forms, lists of machine integers as arguments. -/
namespace Go.Proofs.YtnjpkncacddplaaGreatDoor
open Go.Hp Go.ChangeShapes Go.WideShapes Go.ChangeAt Go.RowKit Go.Joins
structure RawG (U:UH) (v:Value) (r:Int) (n:Nat) (f:Nat→Int):Prop where
 rank : -9223372036854775808≤r∧r≤9223372036854775807
 num:n≤9223372036854775807
 elt:∃ a,v = .agg #[.int .i64 r,a]∧Ls Vz 1 n U [] a f
structure RawQ (v:Value) (a b c:Int):Prop where
 ra : -9223372036854775808≤a∧a≤9223372036854775807
 rb : -9223372036854775808≤b∧b≤9223372036854775807
 rc : -9223372036854775808≤c∧c≤9223372036854775807
 elt:v = .agg #[.int .i64 a,.int .i64 b,.int .i64 c]
section
variable {H:Type} {enc:TypeId × Value→H}
end
end Go.Proofs.YtnjpkncacddplaaGreatDoor
