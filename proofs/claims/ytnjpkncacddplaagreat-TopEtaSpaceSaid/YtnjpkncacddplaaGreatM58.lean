/- Texts of this seat's own, merged: each begins with its own remark. -/
import Derived.Test.YtnjpkncacddplaaGreatM19
import Derived.Laws.CopyRow
import Derived.Test.YtnjpkncacddplaaGreatM56
import Derived.Test.YtnjpkncacddplaaGreatM53
import Derived.Test.YtnjpkncacddplaaGreatM18
import Derived.Test.YtnjpkncacddplaaGreatM10
import Derived.Test.YtnjpkncacddplaaGreatM8
import Derived.Test.YtnjpkncacddplaaGreatM4
import Derived.Test.YtnjpkncacddplaaGreatM2
import Derived.Test.YtnjpkncacddplaaGreatM7
import Derived.Test.YtnjpkncacddplaaGreatM14
import Derived.Test.YtnjpkncacddplaaGreatM133
import Derived.Test.YtnjpkncacddplaaGreatM132
/- The builtin copy into a part of an own row of elements of one cell. Program in general; no condition. -/
namespace Go.Hp
variable {P:Program} {T:TT} {K:Kont} {N:Nat} {G:World} {E:Env} {U:UH} {M:MH} {L:List Oper} {l:List Ent} {f:Bool} {i:Nat} {o:Oper}
def spl (vs us:List Value) (lo:Nat):List Value:=vs.take lo++us++vs.drop (lo+us.length)
end Go.Hp

/- Walks of layer 36: Sum. -/
namespace Go.Proofs.YtnjpkncacddplaaGreat
open Go.Hp
variable {G:World} {U U':UH} {M:MH}
def GrO (e:Int) (n:Nat) (g:Nat→Int) (U':UH) (v:Value):Prop :=
 (e≠0→v = .tuple #[.agg #[.int .i64 0,.slice none 0 0],.int .i64 e])∧(e=0→∃ s,v = .tuple #[.agg #[.int .i64 (n:Int),s],.int .i64 0]∧Ls Vz 1 (n*n) U' [] s g)
def GrC (e:Int) (n:Nat) (g:Nat→Int) (U':UH) (D:MH) (v:Value):Prop :=
 (e≠0→v = .tuple #[.agg #[.int .i64 0,.slice none 0 0],.int .i64 e])∧(e=0→∃ s,v = .tuple #[.agg #[.int .i64 (n:Int),s],.int .i64 0]∧Lo Vz TInt 1 (n*n) U' D s g)
def sgc (n n1 n2:Nat) (f1 f2:Nat→Int) (a b:Nat) (k:Nat):Int :=
 if k / n < a∧k % n < n1 then f1 (k / n*n1+k % n) else if n1≤k / n∧k / n < n1+b∧n1≤k % n then f2 ((k / n - n1)*n2+(k % n - n1)) else 0
noncomputable def esum (r1:Int) (N1:Nat) (f1:Nat→Int) (r2:Int) (N2:Nat) (f2:Nat→Int):Int :=
 if chk r1 N1 f1≠0 then chk r1 N1 f1 else if chk r2 N2 f2≠0 then chk r2 N2 f2 else if r1+r2 > 8 then 2 else 0
end Go.Proofs.YtnjpkncacddplaaGreat

/- Walks of layer 36: Scale. -/
namespace Go.Proofs.YtnjpkncacddplaaGreat
open Go.Hp
open Classical
variable {G:World} {U U':UH} {M:MH}
def scf (f:Nat→Int) (d:Int) (k:Nat):Int:=f k*min d 1001
noncomputable def escl (r:Int) (N:Nat) (f:Nat→Int) (d:Int):Int :=
 if chk r N f≠0 then chk r N f else if d < 1 then 2 else if Ins N (scf f d) then 0 else 7
end Go.Proofs.YtnjpkncacddplaaGreat

/- Walks of layer 36: Change. -/
namespace Go.Proofs.YtnjpkncacddplaaGreat
open Go.Hp
open Classical
variable {G:World} {U U':UH} {M:MH}
def cin (n:Nat) (f u:Nat→Int) (i j a:Nat):Nat→Int
 | 0=>0
 | b+1=>cin n f u i j a b+u (i*n+a)*f (a*n+b)*u (j*n+b)
def cou (n:Nat) (f u:Nat→Int) (i j:Nat):Nat→Int
 | 0=>0
 | a+1=>cou n f u i j a+cin n f u i j a n
def chf (n:Nat) (f u:Nat→Int) (k:Nat):Int:=cou n f u (k / n) (k % n) n
noncomputable def echg (r:Int) (N:Nat) (f:Nat→Int) (Nu:Nat) (u:Nat→Int):Int :=
 if chk r N f≠0 then chk r N f else if Nu≠N then 4 else if ¬ (∀ k,k < Nu → -100≤u k∧u k≤100) then 2 else
  if smb (Lr.det r.toNat fun i j=>u (i*r.toNat+j))=false∨(smv (Lr.det r.toNat fun i j=>u (i*r.toNat+j))≠1∧smv (Lr.det r.toNat fun i j=>u (i*r.toNat+j)) ≠ -1) then 11 else if Ins N (chf r.toNat f u) then 0 else 7
end Go.Proofs.YtnjpkncacddplaaGreat

/- Walks of reference 33: zero, Result. -/
namespace Go.Proofs.YtnjpkncacddplaaGreat
open Go.Hp
variable {G:World} {U U':UH} {M:MH}
end Go.Proofs.YtnjpkncacddplaaGreat

/- Polynomials of layer 36: their values; the reference's at and form. -/
namespace Go.Hp
end Go.Hp
namespace Go.Proofs.YtnjpkncacddplaaGreat
open Go.Hp
variable {G:World} {U U':UH} {M M':MH}
def Mon (b:Nat) (U:UH) (M:MH) (v:Value) (ne:Nat) (e:Nat→Int) (q:Rat):Prop :=
 ∃ (pe:Option Addr) (ce:Nat) (xs:List Value) (x:QV),v = .agg #[.slice pe ne ce,.bool x.num.neg,.slice x.num.p x.num.n x.num.c,.bool x.den.neg,.slice x.den.p x.den.n x.den.c]∧ne≤ce∧RowAt U M 1 pe ne xs∧El Vz U xs e∧x.rep U M q∧x.le b
theorem Mon.up {b ne:Nat} {v:Value} {e:Nat→Int} {q:Rat} (h:Mon b U M v ne e q) (hU:ULe U U') (hM:M.Sublist M'):Mon b U' M' v ne e q:=by
 obtain ⟨pe,ce,xs,x,h1,h2,h3,h4,h5,h6⟩:=h
 exact ⟨pe,ce,xs,x,h1,h2,h3.up hU hM,h4,h5.up hU hM,h6⟩
def Pol (b:Nat) (U:UH) (M:MH) (v:Value) (np:Nat) (ne:Nat→Nat) (e:Nat→Nat→Int) (q:Nat→Rat):Prop :=
 ∃ (p:Option Addr) (c:Nat) (ms:List Value),v = .slice p np c∧np≤c∧RowAt U M 5 p np ms∧∀ i u,ms[i]?=some u→Mon b U M u (ne i) (e i) (q i)
theorem Pol.up {b np:Nat} {v:Value} {ne:Nat→Nat} {e:Nat→Nat→Int} {q:Nat→Rat} (h:Pol b U M v np ne e q) (hU:ULe U U') (hM:M.Sublist M'):Pol b U' M' v np ne e q:=by
 obtain ⟨p,c,ms,h1,h2,h3,h4⟩:=h
 exact ⟨p,c,ms,h1,h2,h3.up hU hM,fun i u hi=>(h4 i u hi).up hU hM⟩
def pwr (r:Rat):Nat→Rat
 | 0=>1
 | j+1=>pwr r j*r
def mpx (e:Nat→Int) (x:Nat→Int):Nat→Rat
 | 0=>1
 | k+1=>mpx e x k*pwr ((x k:Int):Rat) (e k).toNat
def pex (np n:Nat) (e:Nat→Nat→Int) (q:Nat→Rat) (x:Nat→Int):Rat:=La.sm np fun i=>q i*mpx (e i) x n
def exs (e:Nat→Int):Nat→Nat
 | 0=>0
 | k+1=>exs e k+(e k).toNat
def Fit (np n:Nat) (ne:Nat→Nat) (e:Nat→Nat→Int):Prop:=np≤60∧∀ i,i < np→ne i=n∧∀ k,k < n→0≤e i k∧e i k≤6
end Go.Proofs.YtnjpkncacddplaaGreat

/- Walks of layer 36's reference: Weighted, Expansion. -/
namespace Go.Proofs.YtnjpkncacddplaaGreat
open Go.Hp
variable {G:World} {U U':UH} {M:MH}
def ww (n:Nat) (f:Nat→Int) (b:Nat→Nat) (w:Nat→Rat):Nat→Nat→Rat
 | 0,_=>0
 | k+1,q=>if vn n f b k=q then ww n f b w k q+w k else ww n f b w k q
def WgtP (n:Nat) (f:Nat→Int) (P:Nat) (pw:(Nat→Int)→Rat) (U':UH) (v:Value):Prop :=
 ∃ X,Inv n f X∧(Bx.pre (bd X (P - 1)) n≤1048576→∃ s r,Skp (ww n f (bd X (P - 1)) (fun k=>pw (Bx.vec (bd X (P - 1)) n k)) (Bx.pre (bd X (P - 1)) n)) P s∧v = .tuple #[r,.int .i64 0]∧Vser Vq U' [] r (s:Int) (P - s) (fun k=>ww n f (bd X (P - 1)) (fun k=>pw (Bx.vec (bd X (P - 1)) n k)) (Bx.pre (bd X (P - 1)) n) (s+k))) ∧
  (1048576 < Bx.pre (bd X (P - 1)) n→v = .tuple #[.agg #[.int .i64 0,.slice none 0 0],.int .i64 7])
def WSz (n:Nat) (f:Nat→Int) (P B:Nat) (pw:(Nat→Int)→Rat):Prop :=
 ∀ X,Inv n f X→Bx.pre (bd X (P - 1)) n≤1048576→∀ k,k < Bx.pre (bd X (P - 1)) n→Szq (pw (Bx.vec (bd X (P - 1)) n k)) B∧∀ q,Szq (ww n f (bd X (P - 1)) (fun k=>pw (Bx.vec (bd X (P - 1)) n k)) (k+1) q) B
end Go.Proofs.YtnjpkncacddplaaGreat

/- Walks of layer 36's reference: Change. -/
namespace Go.Proofs.YtnjpkncacddplaaGreat
open Go.Hp
open Classical
variable {G:World} {U U':UH} {M:MH}
end Go.Proofs.YtnjpkncacddplaaGreat
