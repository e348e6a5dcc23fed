/- Texts of this seat's own, merged: each begins with its own remark. -/
import Derived.Test.YtnjpkncacddplaaGreatM98
import Derived.Test.YtnjpkncacddplaaGreatM53
import Derived.Test.YtnjpkncacddplaaGreatM96
import Derived.Test.YtnjpkncacddplaaGreatM56
/- What a call of numbers hands over, read as a series. No condition. -/
namespace Go.Gx
open Go.Hp Go.Proofs.YtnjpkncacddplaaGreat
variable {G:World} {U U' U1:UH} {M D:MH} {φ:Phi}
theorem Qiq {d:Lv} {g:GB} {xs:List Value} (hs:Sett U1 U' D) (he:ent d g xs ∈ D) {o:Nat} {v:Value} (h:nth xs o=some v):U'.cell? ⟨d.b,o,none⟩=some v:=by
 have h1:=(hs _ he).1
 have h1:U' d.b=some (.cells (xs++d.pad).toArray g.ty (0,0)):=h1
 simp only [UH.cell?,h1]
 have h2:=QaS (r:=d.pad) h
 rw [QP] at h2
 simpa using h2
def digsC:List C→Option (List Nat)
 | []=>some []
 | .it k z::r=>bif kEq k .u32 && Int.ble' 0 z && Nat.blt z.toNat 4294967296 then (match digsC r with
  | some l=>some (z.toNat::l)
  | none=>none) else none
 | _=>none
where
 Int.ble' (a b:Int):Bool:=decide (a≤b)
def dig0:List Nat→List Nat→Bool
 | [],[]=>true
 | a::r,b::s=>Nat.beq a b && dig0 r s
 | _,_=>false
def ivC (bl:List GB):C→C→Option Int
 | .bo b,.sl l o j n=>(match nth bl l with
  | some g=>bif Nat.beq o 0 && Nat.beq j 0 && Nat.beq g.sz 1 && Nat.ble n g.cells.length then (match digsC (g.cells.take n) with
   | some ds=>bif dig0 (tl ds) ds && !Nat.beq (val ds) 0 then some (sg b (val ds)) else none
   | none=>none) else none
  | none=>none)
 | .bo b,.sn=>bif b then none else some 0
 | _,_=>none
def qvC (bl:List GB) (a b c d:C) (q:Rat):Bool:=(match ivC bl a b with
 | some z=>decide (z=q.num)
 | none=>false) && (match ivC bl c d with
 | some z=>decide (z=(q.den:Int))
 | none=>false)
def rowC (bl:List GB) (g:Nat→Rat):Nat→Nat→List C→Bool
 | 0,_,_=>true
 | n+1,k,a::b::c::d::r=>qvC bl a b c d (g k) && rowC bl g n (k+1) r
 | _+1,_,_=>false
def serC (t:Ran) (P:Nat) (g:Nat→Rat):Bool:=match t.r with
 | .tup [.agg [.it k f,.sl l o j n],.one (.it k' e)]=>kEq k .i64 && decide (f=0) && Nat.beq o 0 && Nat.beq j 0 && Nat.beq n P && kEq k' .i64 && decide (e=0) && (match nth t.bl l with
  | some b=>Nat.beq b.sz 4 && rowC t.bl g P 0 b.cells
  | none=>false)
 | _=>false
end Go.Gx

/- Closed calls whose arguments have one block. No condition. -/
namespace Go.Gx
open Go.Hp
variable {P:Program} {T:TT} {Q:Tab} {G:World} {U:UH} {M:MH}
def gbI (ty:Nat) (e:Int):GB:=⟨ty,1,[.it .i64 e],[]⟩
def isGb (ty:Nat) (e:Int):Option GB→Bool
 | some ⟨t,s,[.it k z],[]⟩=>Nat.beq t ty && (Nat.beq s 1 && (kEq k .i64 && decide (z=e)))
 | _=>false
noncomputable def chkX (ty:Nat) (lit:SV) (e:Int):Option (SV × Mm)→Bool
 | some (r,m)=>eqS [] lit r && isGb ty e (m.t.get 0)
 | none=>false
noncomputable def m1I (ty:Nat) (e:Int):Mm:=⟨Tr.put fuelM .nil 0 (some (gbI ty e)),1,.nil⟩
end Go.Gx

/- What a call of numbers hands over, read as a row of integers. No condition. -/
namespace Go.Gx
open Go.Hp Go.Proofs.YtnjpkncacddplaaGreat
variable {G:World} {U U' U1:UH} {M D:MH} {φ:Phi}
def rowZ (bl:List GB) (g:Nat→Int):Nat→Nat→List C→Bool
 | 0,_,_=>true
 | n+1,k,a::b::r=>(match ivC bl a b with
  | some z=>decide (z=g k)
  | none=>false) && rowZ bl g n (k+1) r
 | _+1,_,_=>false
def fldC (t:Ran) (N:Nat) (g:Nat→Int):Bool:=match t.r with
 | .tup [.agg [.sl l o j n],.one (.it k' e)]=>Nat.beq o 0 && Nat.beq j 0 && Nat.beq n N && kEq k' .i64 && decide (e=0) && (match nth t.bl l with
  | some b=>Nat.beq b.sz 2 && rowZ t.bl g N 0 b.cells
  | none=>false)
 | _=>false
def chrC (t:Ran) (ty:Nat) (p e:Int):Bool:=match t.r with
 | .tup [.agg [.it k1 p',.sl l o j n],.one (.it k' z)]=>kEq k1 .i64 && decide (p'=p) && Nat.beq l 0 && Nat.beq o 0 && Nat.beq j 0 && Nat.beq n 1 && kEq k' .i64 && decide (z=0) && (match t.bl with
  | [b]=>isGb ty e (some b)
  | _=>false)
 | _=>false
end Go.Gx
