/- Texts of this seat's own, merged: each begins with its own remark. -/
import Derived.Test.YtnjpkncacddplaaGreatM53
import Derived.Test.YtnjpkncacddplaaGreatM10
import Derived.Test.YtnjpkncacddplaaGreatM50
import Derived.Test.YtnjpkncacddplaaGreatM51
import Derived.Test.YtnjpkncacddplaaGreatM18
import Derived.Test.YtnjpkncacddplaaGreatM8
import Derived.Test.YtnjpkncacddplaaGreatM4
import Derived.Test.YtnjpkncacddplaaGreatM2
import Derived.Test.YtnjpkncacddplaaGreatM7
import Derived.Test.YtnjpkncacddplaaGreatM14
import Derived.Test.YtnjpkncacddplaaGreatM9
import Derived.Test.YtnjpkncacddplaaGreatM131
import Derived.Test.YtnjpkncacddplaaGreatM134
/- Walk of halfplaneref36.det: elimination without fractions. -/
namespace Go.Proofs.YtnjpkncacddplaaGreat
open Go.Hp
variable {G:World} {U U':UH} {M:MH}
abbrev TJ:Nat:=61
def Zn (U:UH) (v:Value) (z:Int):Prop:=∃ x:IV,v=x.v∧x.nrm U [] z
instance:KeptC Zn:=⟨fun _ _ _ _ hU ⟨x,h1,h2⟩=>⟨x,h1,h2.up hU (List.Sublist.refl _)⟩⟩
def Zr (n:Nat) (U:UH) (v:Value) (g:Nat→Int):Prop:=Ls Zn 2 n U [] v g
instance {n:Nat}:KeptC (Zr n):=⟨fun _ _ _ _ hU h=>Ls.up h KeptC.out hU (List.Sublist.refl _)⟩
abbrev zJ:MH→Option Addr→Nat→Nat→List Value→Prop:=fun D p n _ vs=>RowW TJ 2 D p n vs
def zs:Nat→Nat
 | 0=>1
 | k+1=>2*zs k+2
end Go.Proofs.YtnjpkncacddplaaGreat

/- Walks of layer 36's reference: rows, Check, Det. -/
namespace Go.Proofs.YtnjpkncacddplaaGreat
open Go.Hp
open Classical
variable {K:Kont} {N:Nat} {G:World} {E:Env} {U U':UH} {M M':MH} {L:List Oper} {l:List Ent} {f:Bool} {i:Nat} {o:Oper}
end Go.Proofs.YtnjpkncacddplaaGreat

/- Walks of layer 36's reference: minor, Inverse. -/
namespace Go.Proofs.YtnjpkncacddplaaGreat
open Go.Hp
variable {G:World} {U U':UH} {M:MH}
end Go.Proofs.YtnjpkncacddplaaGreat

/- Walks of layer 36's reference: sides, Box; broad, wide. -/
namespace Go.Proofs.YtnjpkncacddplaaGreat
open Go.Hp
variable {G:World} {U U':UH} {M:MH}
theorem Qhg {n:Nat} {f:Nat→Int} (hb:∀ k,k < n*n → -1000≤f k∧f k≤1000) (he:Evn n f) (hp:Pdm n f) (h1n:1≤n) (hn:n≤8):∃ X,Inv n f X:=by
 have hd:=(VT he hp).2.2 h1n
 have hs:=(VT he hp).1
 have hd0:((Lr.det n (gz n f):Int):Rat)≠0:=fun e=>by
  have:=Rat.intCast_inj.1 (e.trans (show (0:Rat)=((0:Int):Rat) from rfl))
  omega
 refine ⟨fun i j=>((Lr.adj n (gz n f) j i:Int):Rat) / ((Lr.det n (gz n f):Int):Rat),Qdh hb he hp h1n hn fun i j hi hj=>?_⟩
 have h1:=La.adj_rt (A:=gz n f) hj hi
 show (La.sm n fun k=>((Lr.adj n (gz n f) k i:Int):Rat) / ((Lr.det n (gz n f):Int):Rat)*gq n f k j)=_
 rw [La.sm_congr (g:=fun k=>((Lr.det n (gz n f):Int):Rat)⁻¹*(((gz n f j k:Int):Rat)*((Lr.adj n (gz n f) k i:Int):Rat))) fun k hk=>by
  rw [hs k j hk hj,Rat.div_def,Rat.mul_comm ((Lr.adj n (gz n f) k i:Int):Rat),Rat.mul_assoc,Rat.mul_comm ((Lr.adj n (gz n f) k i:Int):Rat)]; rfl,La.sm_mul,h1]
 by_cases e:j=i
 ·rw [if_pos e,Rat.inv_mul_cancel _ hd0,show (La.idm i j:Rat)=1 from if_pos e.symm]
 ·rw [if_neg e,Rat.mul_zero,show (La.idm i j:Rat)=0 from if_neg (Ne.symm e)]
end Go.Proofs.YtnjpkncacddplaaGreat

/- Walks of layer 36: Vectors of the program. -/
namespace Go.Proofs.YtnjpkncacddplaaGreat
open Go.Hp
variable {G:World} {U U':UH} {M:MH}
def pv (n:Nat) (f:Nat→Int) (b:Nat→Nat) (m:Nat):Nat→Bool:=fun k=>vn n f b k == m
def vv (n:Nat) (f:Nat→Int) (b:Nat→Nat) (m:Nat):Nat→Nat→Int:=fun i=>Bx.vec b n ((Bx.idx (pv n f b m) (Bx.pre b n)).getD i 0)
def VecO (n:Nat) (f:Nat→Int) (m:Nat) (U:UH) (v:Value):Prop :=
 ∃ X,Inv n f X∧(Bx.pre (bd X m) n≤1048576→∃ s,v = .tuple #[s,.int .i64 0]∧Ls (Vrs Vz n) 1 (Bx.idx (pv n f (bd X m) m) (Bx.pre (bd X m) n)).length U [] s (vv n f (bd X m) m)) ∧
  (1048576 < Bx.pre (bd X m) n→v = .tuple #[.slice none 0 0,.int .i64 7])
def VecC (n:Nat) (f:Nat→Int) (m:Nat) (U:UH) (D:MH) (v:Value):Prop :=
 ∃ X,Inv n f X∧(Bx.pre (bd X m) n≤1048576→∃ s,v = .tuple #[s,.int .i64 0]∧Goz Vz zO (Bx.idx (pv n f (bd X m) m) (Bx.pre (bd X m) n)).length n U D s (vv n f (bd X m) m)) ∧
  (1048576 < Bx.pre (bd X m) n→v = .tuple #[.slice none 0 0,.int .i64 7])
end Go.Proofs.YtnjpkncacddplaaGreat

/- Layer 36: the vectors of a number come in pairs (plain). -/
namespace Go.Proofs.YtnjpkncacddplaaGreat
open Go.Hp
variable {G:World} {U U':UH} {M:MH}
def ws (n:Nat) (f x:Nat→Int) (j k:Nat):Int:=(Lr.sm j fun a=>Lr.sm n fun k=>x a*x k*f (a*n+k))+Lr.sm k fun t=>x j*x t*f (j*n+t)
end Go.Proofs.YtnjpkncacddplaaGreat

/- Walks of layer 36's reference: first, value, next. -/
namespace Go.Proofs.YtnjpkncacddplaaGreat
open Go.Hp
variable {G:World} {U U':UH} {M:MH}
end Go.Proofs.YtnjpkncacddplaaGreat

/- Laws of layer 36: Vectors. -/
namespace Go.Proofs.YtnjpkncacddplaaGreat
open Go.Hp
variable {G:World} {U U':UH} {M:MH}
end Go.Proofs.YtnjpkncacddplaaGreat
