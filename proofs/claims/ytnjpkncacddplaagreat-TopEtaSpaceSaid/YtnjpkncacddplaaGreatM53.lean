/- Texts of this seat's own, merged: each begins with its own remark. -/
import Derived.Test.YtnjpkncacddplaaGreatM51
import Derived.Test.YtnjpkncacddplaaGreatM96
import Derived.Test.YtnjpkncacddplaaGreatM133
import Derived.Test.YtnjpkncacddplaaGreatM131
/- Walk of theta.each: a step for each vector of a box. -/
namespace Go.Proofs.YtnjpkncacddplaaGreat
open Go.Hp
variable {G:World} {U U':UH} {M:MH}
def rp (n:Nat) (f:Nat→Int) (x:Nat→Int) (a k:Nat):Int:=Lr.sm k fun j=>f (a*n+j)*x j
def qp (n:Nat) (f:Nat→Int) (x:Nat→Int) (i:Nat):Int:=Lr.sm i fun a=>x a*rp n f x a n
def qv (n:Nat) (f:Nat→Int) (x:Nat→Int):Int:=(qp n f x n).tdiv 2
theorem QfK {a b c d:Int} (h1 : -c≤a∧a≤c) (h2 : -d≤b∧b≤d) : -(c*d)≤a*b∧a*b≤c*d:=by
 have e:(a*b).natAbs≤c.natAbs*d.natAbs:=by rw [Int.natAbs_mul]; exact Nat.mul_le_mul (by omega) (by omega)
 have e2:c*d=((c.natAbs*d.natAbs:Nat):Int):=by rw [Int.natCast_mul,Int.natAbs_of_nonneg (by omega),Int.natAbs_of_nonneg (by omega)]
 rw [e2]; omega
def Stp (c:Nat) (cs:List Value) (G:World) (U:UH) (n:Nat) (f:Nat→Int) (b:Nat→Nat) (I:Nat→UH→MH→Prop):Prop :=
 ∀ k U1 L E px cx xs,k < Bx.all b n→ULe U U1→I k U1 L→RowAt U1 E 1 px n xs→El Vz U1 xs (Bx.vec b n k) →
  Cx Tryz.prog c ([.slice px n cx,.int .i64 (qv n f (Bx.vec b n k))]++cs) G U1 (E++L) fun _ U2 M2=>∃ L2,M2=E++L2∧I (k+1) U2 L2
end Go.Proofs.YtnjpkncacddplaaGreat

/- Series: build, tidy, Normal. -/
namespace Go.Proofs.YtnjpkncacddplaaGreat
open Go.Hp
variable {G:World} {U U':UH} {M:MH}
def Skp (g:Nat→Rat) (N s:Nat):Prop:=s≤N∧(∀ a,a < s→g a=0)∧(s < N→g s≠0)
theorem Skp.uniq {g:Nat→Rat} {N s t:Nat} (h:Skp g N s) (h':Skp g N t):s=t:=by
 obtain ⟨h1,h2,h3⟩:=h
 obtain ⟨k1,k2,k3⟩:=h'
 rcases Nat.lt_trichotomy s t with e | e | e
 ·exact absurd (k2 s e) (h3 (by omega))
 ·exact e
 ·exact absurd (h2 t e) (k3 (by omega))
def Vser (ok:UH→Value→Rat→Prop) (U:UH) (M:MH) (v:Value) (f:Int) (N:Nat) (g:Nat→Rat):Prop:=∃ a,v = .agg #[.int .i64 f,a]∧Ls ok 4 N U M a g
end Go.Proofs.YtnjpkncacddplaaGreat

/- Walks of layer 36: the step of weighted without a polynomial. -/
namespace Go.Proofs.YtnjpkncacddplaaGreat
open Go.Hp
variable {G:World} {U U':UH} {M:MH}
def vn (n:Nat) (f:Nat→Int) (b:Nat→Nat) (k:Nat):Nat:=(qv n f (Bx.vec b n k)).toNat
theorem cnt_le (p:Nat→Bool):∀ n,Bx.cnt n p≤n
 | 0=>Nat.le_refl 0
 | n+1=>by
  have:=cnt_le p n
  show Bx.cnt n p+(if p n then 1 else 0)≤n+1
  split<;>omega
def cv (n:Nat) (f:Nat→Int) (b:Nat→Nat) (k q:Nat):Nat:=Bx.cnt k fun t=>vn n f b t == q
def WgtO (n:Nat) (f:Nat→Int) (P:Nat) (U':UH) (v:Value):Prop :=
 ∃ X,Inv n f X∧(Bx.pre (bd X (P - 1)) n≤1048576→∃ s r,Skp (fun q=>(((cv n f (bd X (P - 1)) (Bx.pre (bd X (P - 1)) n) q:Nat):Int):Rat)) P s∧v = .tuple #[r,.int .i64 0]∧Vser Vq U' [] r (s:Int) (P - s) (fun k=>(((cv n f (bd X (P - 1)) (Bx.pre (bd X (P - 1)) n) (s+k):Nat):Int):Rat))) ∧
  (1048576 < Bx.pre (bd X (P - 1)) n→v = .tuple #[.agg #[.int .i64 0,.slice none 0 0],.int .i64 7])
end Go.Proofs.YtnjpkncacddplaaGreat

/- The example of layer 36: plain part. -/
namespace Go.Proofs.YtnjpkncacddplaaGreat
open Go.Hp
variable {G:World} {U U':UH} {M:MH}
def fa2:Nat→Int:=fun k=>([2,1,1,2]:List Int).getD k 0
end Go.Proofs.YtnjpkncacddplaaGreat

/- Walks of layer 36: SameSeries, awake. -/
namespace Go.Proofs.YtnjpkncacddplaaGreat
open Go.Hp
variable {G:World} {U U':UH} {M:MH}
end Go.Proofs.YtnjpkncacddplaaGreat

/- Walks of layer 36: binary forms are checked. -/
namespace Go.Hp
variable {P:Program} {T:TT} {N:Nat} {G:World} {E:Env} {U:UH} {M:MH} {o:Oper}
end Go.Hp
namespace Go.Proofs.YtnjpkncacddplaaGreat
open Go.Hp
variable {G:World} {U U':UH} {M:MH}
end Go.Proofs.YtnjpkncacddplaaGreat

/- Walks of layer 36: binary forms (printed by gen215.py). -/
namespace Go.Proofs.YtnjpkncacddplaaGreat
open Go.Hp
open Classical
variable {G:World} {U U':UH} {M:MH}
noncomputable def chq (a b c:Int):Int:=if ¬ ((-10000≤a∧a≤10000)∧(-10000≤b∧b≤10000)∧(-10000≤c∧c≤10000)) then 2 else if a≤0∨b*b - 4*a*c ≥ 0 then 27 else 0
end Go.Proofs.YtnjpkncacddplaaGreat

/- Walks of layer 36: Binary, fits, same. -/
namespace Go.Proofs.YtnjpkncacddplaaGreat
open Go.Hp
open Classical
variable {G:World} {U U':UH} {M:MH}
def Ins (N:Nat) (f:Nat→Int):Prop:=∀ k,k < N → -1000≤f k∧f k≤1000
def BinO (a b c:Int) (U':UH) (v:Value):Prop :=
 (chq a b c≠0→v = .tuple #[.agg #[.int .i64 0,.slice none 0 0],.int .i64 (chq a b c)]) ∧
 (chq a b c=0→¬ Ins 4 (fun k=>([2*a,b,b,2*c]:List Int).getD k 0)→v = .tuple #[.agg #[.int .i64 0,.slice none 0 0],.int .i64 7]) ∧
 (chq a b c=0→Ins 4 (fun k=>([2*a,b,b,2*c]:List Int).getD k 0)→∃ s,v = .tuple #[.agg #[.int .i64 2,s],.int .i64 0]∧Ls Vz 1 4 U' [] s (fun k=>([2*a,b,b,2*c]:List Int).getD k 0))
def BinC (a b c:Int) (U':UH) (D:MH) (v:Value):Prop :=
 (chq a b c≠0→v = .tuple #[.agg #[.int .i64 0,.slice none 0 0],.int .i64 (chq a b c)]) ∧
 (chq a b c=0→¬ Ins 4 (fun k=>([2*a,b,b,2*c]:List Int).getD k 0)→v = .tuple #[.agg #[.int .i64 0,.slice none 0 0],.int .i64 7]) ∧
 (chq a b c=0→Ins 4 (fun k=>([2*a,b,b,2*c]:List Int).getD k 0)→∃ s,v = .tuple #[.agg #[.int .i64 2,s],.int .i64 0]∧Lo Vz TInt 1 4 U' D s (fun k=>([2*a,b,b,2*c]:List Int).getD k 0))
end Go.Proofs.YtnjpkncacddplaaGreat
