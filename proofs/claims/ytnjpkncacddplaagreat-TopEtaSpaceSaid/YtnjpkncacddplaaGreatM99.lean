/- Texts of this seat's own, merged: each begins with its own remark. -/
import Derived.KernelRfl
import Derived.Test.YtnjpkncacddplaaGreatM18
import Derived.Test.YtnjpkncacddplaaGreatVz
import Derived.Test.YtnjpkncacddplaaGreatM51
import Derived.Test.YtnjpkncacddplaaGreatM43
import Derived.Test.YtnjpkncacddplaaGreatM131
import Derived.Test.YtnjpkncacddplaaGreatM98
/- The character of SL2(Z) modulo 12. Plain. -/
namespace Go.Chi
def chiN (a b c d:Nat):Nat:=(((1+143*(c*c))*(b*d+3*(c+11)*d+c+3))+c*(a+d+9)) % 12
def okN (a b c d:Nat):Bool:=Nat.beq ((a*d+11*(b*c)) % 12) 1
def all4 (f:Nat→Nat→Nat→Nat→Bool):Bool:=(List.range 12).all fun a=>(List.range 12).all fun b=>(List.range 12).all fun c=>(List.range 12).all fun d => !okN a b c d || f a b c d
def chk12:Bool:=all4 fun a b c d =>
 Nat.beq (chiN a ((a+b) % 12) c ((c+d) % 12)) ((chiN a b c d+1) % 12) &&
 (Nat.beq (chiN b ((11*a) % 12) d ((11*c) % 12)) ((chiN a b c d+9) % 12) &&
 (Nat.beq (chiN ((a+c) % 12) ((b+d) % 12) c d) ((chiN a b c d+1) % 12) &&
 (Nat.beq (chiN ((11*c) % 12) ((11*d) % 12) a b) ((chiN a b c d+9) % 12) &&
 Nat.beq (chiN ((11*a) % 12) ((11*b) % 12) ((11*c) % 12) ((11*d) % 12)) ((chiN a b c d+6) % 12))))
theorem QgZ:chk12=true:=by kernel_rfl
theorem VR {p:Nat→Bool} {n:Nat} (h:(List.range n).all p=true) {i:Nat} (hi:i < n):p i=true:=List.all_eq_true.1 h i (List.mem_range.2 hi)
theorem chkN {a b c d:Nat} (ha:a < 12) (hb:b < 12) (hc:c < 12) (hd:d < 12) (h:(a*d+11*(b*c)) % 12=1) :
  chiN a ((a+b) % 12) c ((c+d) % 12)=(chiN a b c d+1) % 12∧chiN b ((11*a) % 12) d ((11*c) % 12)=(chiN a b c d+9) % 12 ∧
  chiN ((a+c) % 12) ((b+d) % 12) c d=(chiN a b c d+1) % 12∧chiN ((11*c) % 12) ((11*d) % 12) a b=(chiN a b c d+9) % 12 ∧
  chiN ((11*a) % 12) ((11*b) % 12) ((11*c) % 12) ((11*d) % 12)=(chiN a b c d+6) % 12:=by
 have h1:=VR (VR (VR (VR QgZ ha) hb) hc) hd
 have h2:okN a b c d=true:=by unfold okN; rw [h]; rfl
 rw [h2,Bool.not_true,Bool.false_or] at h1
 simp only [Bool.and_eq_true] at h1
 obtain ⟨p1,p2,p3,p4,p5⟩:=h1
 exact ⟨Nat.eq_of_beq_eq_true p1,Nat.eq_of_beq_eq_true p2,Nat.eq_of_beq_eq_true p3,Nat.eq_of_beq_eq_true p4,Nat.eq_of_beq_eq_true p5⟩
def m12 (x:Int):Nat:=(x % 12).toNat
def ch (a b c d:Int):Int:=((chiN (m12 a) (m12 b) (m12 c) (m12 d):Nat):Int)
def ssum (f:Nat→Int):Nat→Int
 | 0=>0
 | n+1=>ssum f n+f n
end Go.Chi

/- Walks of sl2: in, fits, Det, Check, nearest. -/
namespace Go.Proofs.YtnjpkncacddplaaGreat
open Go.Hp
variable {G:World} {U U':UH} {M:MH}
theorem mulb {a b c d:Int} (h1 : -c≤a∧a≤c) (h2 : -d≤b∧b≤d) : -(c*d)≤a*b∧a*b≤c*d:=by
 have e:(a*b).natAbs≤c.natAbs*d.natAbs:=by rw [Int.natAbs_mul]; exact Nat.mul_le_mul (by omega) (by omega)
 have e2:c*d=((c.natAbs*d.natAbs:Nat):Int):=by rw [Int.natCast_mul,Int.natAbs_of_nonneg (by omega),Int.natAbs_of_nonneg (by omega)]
 rw [e2]; omega
theorem tmodZ (z s:Int) (hs:0 < s):(∃ k,z - z.tmod s=s*k) ∧ -s < z.tmod s∧z.tmod s < s:=by
 have h1:=Int.tmod_add_mul_tdiv z s
 exact ⟨⟨z.tdiv s,by omega⟩,Int.lt_tmod_of_pos z hs,Int.tmod_lt_of_pos z hs⟩
def F4 (a b c d:Int):Prop:=(-1073741824≤a∧a≤1073741824)∧(-1073741824≤b∧b≤1073741824)∧(-1073741824≤c∧c≤1073741824)∧(-1073741824≤d∧d≤1073741824)
end Go.Proofs.YtnjpkncacddplaaGreat

/- Walks of sl2: Value, Factor, Abelian. -/
namespace Go.Proofs.YtnjpkncacddplaaGreat
open Go.Hp Go.Chi
variable {G:World} {U U':UH} {M:MH}
end Go.Proofs.YtnjpkncacddplaaGreat

/- Walks of sl2: Factor, Abelian. -/
namespace Go.Proofs.YtnjpkncacddplaaGreat
open Go.Hp Go.Chi
variable {G:World} {U U':UH} {M:MH}
end Go.Proofs.YtnjpkncacddplaaGreat

/- The law TopAbelian: the walk. -/
namespace Go.Proofs.YtnjpkncacddplaaGreat
open Go.Hp Go.Gx Go.Chi
variable {G:World} {U U':UH} {M:MH}
end Go.Proofs.YtnjpkncacddplaaGreat
