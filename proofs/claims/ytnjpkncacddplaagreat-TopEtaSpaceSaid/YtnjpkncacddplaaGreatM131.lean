/- Texts of this seat's own, merged: each begins with its own remark. -/
import Derived.Test.YtnjpkncacddplaaGreatM18
import Derived.Test.YtnjpkncacddplaaGreatM14
import Derived.Test.YtnjpkncacddplaaGreatM2
import Derived.Test.YtnjpkncacddplaaGreatM23
import Derived.Test.YtnjpkncacddplaaGreatM10
import Derived.Test.YtnjpkncacddplaaGreatM8
import Derived.Test.YtnjpkncacddplaaGreatM4
import Derived.Test.YtnjpkncacddplaaGreatM7
/- Simplest fractions: the plain law. -/
namespace Go.Proofs.YtnjpkncacddplaaGreat
open Go.Hp
def InS (lo hi:Rat) (li hiI e:Bool) (y:Rat):Prop:=(lo < y∨(li=true∧lo=y))∧(e=true∨y < hi∨(hiI=true∧y=hi))
def Opt (lo hi:Rat) (li hiI e:Bool) (r:Rat):Prop:=InS lo hi li hiI e r∧∀ y,InS lo hi li hiI e y→r.num≤y.num∧r.den≤y.den
theorem yK (y:Rat):(y.num:Rat)=y*(y.den:Rat):=by
 have h:=qY y
 have hd:(y.den:Rat)≠0:=by
  intro e
  have:=Rat.natCast_eq_zero_iff.1 e
  exact y.den_nz this
 have h2:y*((y.den:Int):Rat)=(y.num:Rat):=by
  refine Rat.ext ?_ ?_
  ·rw [Rat.num_mul]; simp
   have:=y.reduced
   rw [Int.natAbs_mul,Int.natAbs_natCast]
   rw [Nat.gcd_mul_left_left]
   rw [Int.mul_ediv_cancel]
   have:=y.den_nz
   omega
  ·rw [Rat.den_mul]; simp
   rw [Int.natAbs_mul,Int.natAbs_natCast,Nat.gcd_mul_left_left]
   exact Nat.div_self y.den_pos
 exact h2.symm
def Best (lo hi r:Rat):Prop:=lo < r∧r≤hi∧(∀ y,lo < y→y≤hi→r.den≤y.den)∧(r.den=1→∀ y,lo < y→y≤hi→y.den=1→r.num.natAbs≤y.num.natAbs)
theorem Best.sz {lo hi r:Rat} {K:Nat} (h:Best lo hi r) (h1:Szq lo K) (h2:Szq hi K):Szq r (K+K):=by
 obtain ⟨a,b,c,-⟩:=h
 have hd:=c hi (by grind) (by grind)
 have hnum:∀ q:Rat,Szq q K→q≤((4294967296 ^ K:Nat):Rat) ∧ -((4294967296 ^ K:Nat):Rat)≤q:=by
  intro q hq
  have h3:=yK q
  have h4:(1:Rat)≤(q.den:Rat):=by
   have:((1:Nat):Rat)≤(q.den:Rat):=Rat.natCast_le_natCast.2 q.den_pos
   exact this
  have h5 : -((4294967296 ^ K:Nat):Int)≤q.num∧q.num≤((4294967296 ^ K:Nat):Int):=by
   have:=hq.1
   unfold Sz at this
   omega
  have h6:((-((4294967296 ^ K:Nat):Int):Int):Rat)≤(q.num:Rat):=Rat.intCast_le_intCast.2 h5.1
  have h7:(q.num:Rat)≤((((4294967296 ^ K:Nat):Int):Int):Rat):=Rat.intCast_le_intCast.2 h5.2
  rw [Rat.intCast_neg,Rat.intCast_natCast] at h6
  rw [Rat.intCast_natCast] at h7
  by_cases h0:0≤q
  ·have:q*1≤q*(q.den:Rat):=Rat.mul_le_mul_of_nonneg_left h4 h0
   have h9:(0:Rat)≤((4294967296 ^ K:Nat):Rat):=Rat.natCast_nonneg
   constructor<;>grind
  ·have:(-q)*1≤(-q)*(q.den:Rat):=Rat.mul_le_mul_of_nonneg_left h4 (by grind)
   have h9:(0:Rat)≤((4294967296 ^ K:Nat):Rat):=Rat.natCast_nonneg
   constructor<;>grind
 have hh:=hnum hi h2
 have hl:=hnum lo h1
 have hrd:r.den < 4294967296 ^ K:=by
  have:=h2.2
  unfold Sz at this
  omega
 have h3:=yK r
 have hd0:(0:Rat)≤(r.den:Rat):=Rat.natCast_nonneg
 have u1:r*(r.den:Rat)≤((4294967296 ^ K:Nat):Rat)*(r.den:Rat):=Rat.mul_le_mul_of_nonneg_right (by grind) hd0
 have u2:(-((4294967296 ^ K:Nat):Rat))*(r.den:Rat)≤r*(r.den:Rat):=Rat.mul_le_mul_of_nonneg_right (by grind) hd0
 rw [← h3] at u1 u2
 have e1:((4294967296 ^ K:Nat):Rat)*(r.den:Rat)=(((4294967296 ^ K*r.den:Nat):Int):Rat):=by
  rw [Rat.intCast_natCast,Rat.natCast_mul]
 rw [Rat.neg_mul] at u2
 rw [e1] at u1 u2
 rw [← Rat.intCast_neg] at u2
 have v1:=Rat.intCast_le_intCast.1 u1
 have v2:=Rat.intCast_le_intCast.1 u2
 have hlt:4294967296 ^ K*r.den < 4294967296 ^ K*4294967296 ^ K:=Nat.mul_lt_mul_of_pos_left hrd (Nat.pow_pos (by decide))
 rw [← Nat.pow_add] at hlt
 refine ⟨?_,?_⟩
 ·unfold Sz; omega
 ·unfold Sz
  have:4294967296 ^ K≤4294967296 ^ (K+K):=Nat.pow_le_pow_right (by decide) (by omega)
  omega
end Go.Proofs.YtnjpkncacddplaaGreat

/- Walks of rational: simplest fractions. -/
namespace Go.Proofs.YtnjpkncacddplaaGreat
open Go.Hp
variable {G:World} {U:UH} {M:MH}
def sval (lo hi:QV) (li hiI e:Bool):Value := .agg #[.bool lo.num.neg,.slice lo.num.p lo.num.n lo.num.c,.bool lo.den.neg,.slice lo.den.p lo.den.n lo.den.c,.bool hi.num.neg,.slice hi.num.p hi.num.n hi.num.c,.bool hi.den.neg,.slice hi.den.p hi.den.n hi.den.c,.bool li,.bool hiI,.bool e]
def smu (lo hi:Rat) (e:Bool):Nat:=if e=true then 0 else lo.den+hi.den
theorem Vn {z:Int} {k:Nat} (h:Sz z k) (hk:1≤k):Szq (z:Rat) k:=⟨h,QgW hk⟩
end Go.Proofs.YtnjpkncacddplaaGreat

/- Walks of rational: simplest fractions, second part. -/
namespace Go.Proofs.YtnjpkncacddplaaGreat
open Go.Hp
variable {G:World} {U:UH} {M:MH}
def inval (lo hi:QV):Value := .agg #[.bool lo.num.neg,.slice lo.num.p lo.num.n lo.num.c,.bool lo.den.neg,.slice lo.den.p lo.den.n lo.den.c,.bool hi.num.neg,.slice hi.num.p hi.num.n hi.num.c,.bool hi.den.neg,.slice hi.den.p hi.den.n hi.den.c]
end Go.Proofs.YtnjpkncacddplaaGreat

/- Walks of the statements' helpers: small integers and fractions. -/
namespace Go.Proofs.YtnjpkncacddplaaGreat
open Go.Hp
variable {G:World} {U:UH} {M:MH}
theorem Own.bd {D:MH} {p:Option Addr} {n c:Nat} {l:List Nat} (h:Own D p n c l):Bd l:=by
 cases h with
 | nil=>intro d hd; cases hd
 | arr hn hc hm hb ht=>exact hb
end Go.Proofs.YtnjpkncacddplaaGreat

/- Walks of the statements' helpers: rows of integers, comparisons of rows and matrices. -/
namespace Go.Proofs.YtnjpkncacddplaaGreat
open Go.Hp
variable {G:World} {U U':UH} {M M':MH}
def Vz (_:UH) (v:Value) (z:Int):Prop:=v = .int .i64 z ∧ -9223372036854775808≤z∧z≤9223372036854775807
def Lz (r c:Nat) (U:UH) (M:MH) (v:Value) (Z:Nat→Nat→Int):Prop:=Ls (fun U v g=>Ls Vz 1 c U M v g) 1 r U M v Z
theorem QjI:Kept Vz:=fun _ _ _ _ _ h=>h
end Go.Proofs.YtnjpkncacddplaaGreat

/- Walks of the helpers of layer 9's statements: are matrices small? -/
namespace Go.Proofs.YtnjpkncacddplaaGreat
open Go.Hp
variable {G:World} {U U':UH} {M M':MH}
def Xq (U:UH) (v:Value) (q:Rat):Prop:=∃ x:QV,v=x.v∧x.rep U [] q
theorem QjY:Kept Xq:=fun _ _ _ _ hU ⟨x,h1,h2⟩=>⟨x,h1,h2.up hU (List.Sublist.refl _)⟩
structure Raw (U:UH) (v:Value) (r c:Int) (n:Nat) (f:Nat→Rat):Prop where
 rows : -9223372036854775808≤r∧r≤9223372036854775807
 cols : -9223372036854775808≤c∧c≤9223372036854775807
 num:n≤9223372036854775807
 elt:∃ a,v = .agg #[.int .i64 r,.int .i64 c,a]∧Ls Xq 4 n U [] a f
theorem Raw.up {v:Value} {r c:Int} {n:Nat} {f:Nat→Rat} (h:Raw U v r c n f) (hU:ULe U U'):Raw U' v r c n f:=by
 obtain ⟨a,h1,h2⟩:=h.elt
 exact ⟨h.rows,h.cols,h.num,a,h1,h2.up QjY hU (List.Sublist.refl _)⟩
def Lit (most:Nat) (U:UH) (v:Value) (r c:Int) (n:Nat) (f:Nat→Rat):Prop :=
 n≤most*most∧(Vld r c n→r≤most∧c≤most)∧∃ a,v = .agg #[.int .i64 r,.int .i64 c,a]∧Ls (Wq 1) 4 n U [] a f
end Go.Proofs.YtnjpkncacddplaaGreat

/- Walks of the helpers of layer 9's statements: awake. -/
namespace Go.Proofs.YtnjpkncacddplaaGreat
open Go.Hp
variable {G:World} {U U':UH} {M M':MH}
abbrev zz (ls:List (List Int)):Nat→Nat→Rat:=fun i j=>(((ls.getD i []).getD j 0:Int):Rat)
end Go.Proofs.YtnjpkncacddplaaGreat

/- Walks of the helpers of layer 2's statements: awake, long, none. -/
namespace Go.Proofs.YtnjpkncacddplaaGreat
open Go.Hp
variable {G:World} {U:UH} {M:MH}
structure Qvs (U:UH) (M:MH) (b:Nat) (xs:List QV):Prop where
 num:∀ (k:Nat) (x:QV),xs[k]?=some x→∀ (G:World) (w:World),Mem G U M w→w.cell? ⟨b,k*4+1,none⟩=some (.slice x.num.p x.num.n x.num.c)
 den:∀ (k:Nat) (x:QV),xs[k]?=some x→∀ (G:World) (w:World),Mem G U M w→w.cell? ⟨b,k*4+3,none⟩=some (.slice x.den.p x.den.n x.den.c)
theorem Qvs.app {b:Nat} {xs:List QV} (h:Qvs U M b xs) (M2:MH):Qvs U (M2++M) b xs :=
 ⟨fun k x hk G w hw=>h.num k x hk G w (hw.anti (ULe.refl U) (List.sublist_append_right ..)),fun k x hk G w hw=>h.den k x hk G w (hw.anti (ULe.refl U) (List.sublist_append_right ..))⟩
end Go.Proofs.YtnjpkncacddplaaGreat
