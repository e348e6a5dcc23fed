/- Texts of this seat's own, merged: each begins with its own remark. -/
import Derived.KernelRfl
import Derived.Test.YtnjpkncacddplaaGreatDoorM18
import Derived.Test.YtnjpkncacddplaaGreatDoorVz
import Derived.Test.YtnjpkncacddplaaGreatDoorM51
import Derived.Test.YtnjpkncacddplaaGreatDoorM43
import Derived.Test.YtnjpkncacddplaaGreatDoorM35
import Derived.Test.YtnjpkncacddplaaGreatDoorGl2
/- The character of SL2(Z) modulo 12. Plain. -/
namespace Go.Chi
def chiN (a b c d:Nat):Nat:=(((1+143*(c*c))*(b*d+3*(c+11)*d+c+3))+c*(a+d+9)) % 12
def okN (a b c d:Nat):Bool:=Nat.beq ((a*d+11*(b*c)) % 12) 1
def all4 (f:Nat→Nat→Nat→Nat→Bool):Bool:=(List.range 12).all fun a=>(List.range 12).all fun b=>(List.range 12).all fun c=>(List.range 12).all fun d => !okN a b c d || f a b c d
def chk12:Bool:=all4 fun a b c d =>
 Nat.beq (chiN a ((a+b) % 12) c ((c+d) % 12)) ((chiN a b c d+1) % 12) &&
 (Nat.beq (chiN b ((11*a) % 12) d ((11*c) % 12)) ((chiN a b c d+9) % 12) &&
 (Nat.beq (chiN ((a+c) % 12) ((b+d) % 12) c d) ((chiN a b c d+1) % 12) &&
 (Nat.beq (chiN ((11*c) % 12) ((11*d) % 12) a b) ((chiN a b c d+9) % 12) &&
 Nat.beq (chiN ((11*a) % 12) ((11*b) % 12) ((11*c) % 12) ((11*d) % 12)) ((chiN a b c d+6) % 12))))
theorem Qeh:chk12=true:=by kernel_rfl
theorem Vx {p:Nat→Bool} {n:Nat} (h:(List.range n).all p=true) {i:Nat} (hi:i < n):p i=true:=List.all_eq_true.1 h i (List.mem_range.2 hi)
theorem chkN {a b c d:Nat} (ha:a < 12) (hb:b < 12) (hc:c < 12) (hd:d < 12) (h:(a*d+11*(b*c)) % 12=1) :
  chiN a ((a+b) % 12) c ((c+d) % 12)=(chiN a b c d+1) % 12∧chiN b ((11*a) % 12) d ((11*c) % 12)=(chiN a b c d+9) % 12 ∧
  chiN ((a+c) % 12) ((b+d) % 12) c d=(chiN a b c d+1) % 12∧chiN ((11*c) % 12) ((11*d) % 12) a b=(chiN a b c d+9) % 12 ∧
  chiN ((11*a) % 12) ((11*b) % 12) ((11*c) % 12) ((11*d) % 12)=(chiN a b c d+6) % 12:=by
 have h1:=Vx (Vx (Vx (Vx Qeh ha) hb) hc) hd
 have h2:okN a b c d=true:=by unfold okN; rw [h]; rfl
 rw [h2,Bool.not_true,Bool.false_or] at h1
 simp only [Bool.and_eq_true] at h1
 obtain ⟨p1,p2,p3,p4,p5⟩:=h1
 exact ⟨Nat.eq_of_beq_eq_true p1,Nat.eq_of_beq_eq_true p2,Nat.eq_of_beq_eq_true p3,Nat.eq_of_beq_eq_true p4,Nat.eq_of_beq_eq_true p5⟩
def m12 (x:Int):Nat:=(x % 12).toNat
theorem Jg (x:Int):m12 x < 12:=by unfold m12; omega
theorem jo (x y:Int):m12 (x+y)=(m12 x+m12 y) % 12:=by unfold m12; omega
theorem Yt (x:Int):m12 (-x)=(11*m12 x) % 12:=by unfold m12; omega
theorem jh (x:Int):((m12 x:Nat):Int)=x % 12:=by unfold m12; omega
theorem qq {a b c d:Int} (h:a*d - b*c=1):(m12 a*m12 d+11*(m12 b*m12 c)) % 12=1:=by
 have h1:=Int.mul_emod a d 12
 have h2:=Int.mul_emod b c 12
 have e1:((m12 a*m12 d:Nat):Int)=(a % 12)*(d % 12):=by rw [Int.natCast_mul,jh,jh]
 have e2:((m12 b*m12 c:Nat):Int)=(b % 12)*(c % 12):=by rw [Int.natCast_mul,jh,jh]
 rw [← e1] at h1
 rw [← e2] at h2
 generalize m12 a*m12 d=X at *
 generalize m12 b*m12 c=Y at *
 generalize a*d=x at *
 generalize b*c=y at *
 omega
def ch (a b c d:Int):Int:=((chiN (m12 a) (m12 b) (m12 c) (m12 d):Nat):Int)
theorem yz (a b c d:Int):0≤ch a b c d∧ch a b c d < 12:=by
 have:chiN (m12 a) (m12 b) (m12 c) (m12 d) < 12:=Nat.mod_lt _ (by decide)
 unfold ch; omega
theorem ch_T {a b c d:Int} (h:a*d - b*c=1):ch a (a+b) c (c+d)=(ch a b c d+1) % 12:=by
 have:=(chkN (Jg a) (Jg b) (Jg c) (Jg d) (qq h)).1
 unfold ch
 rw [jo,jo,this]; omega
theorem ch_S {a b c d:Int} (h:a*d - b*c=1):ch b (-a) d (-c)=(ch a b c d+9) % 12:=by
 have:=(chkN (Jg a) (Jg b) (Jg c) (Jg d) (qq h)).2.1
 unfold ch
 rw [Yt,Yt,this]; omega
theorem ch_L {a b c d:Int} (h:a*d - b*c=1):ch (a+c) (b+d) c d=(ch a b c d+1) % 12:=by
 have:=(chkN (Jg a) (Jg b) (Jg c) (Jg d) (qq h)).2.2.1
 unfold ch
 rw [jo,jo,this]; omega
theorem Qgz {a b c d:Int} (h:a*d - b*c=1):ch (-c) (-d) a b=(ch a b c d+9) % 12:=by
 have:=(chkN (Jg a) (Jg b) (Jg c) (Jg d) (qq h)).2.2.2.1
 unfold ch
 rw [Yt,Yt,this]; omega
theorem QcO {a b c d:Int} (h:a*d - b*c=1):ch (-a) (-b) (-c) (-d)=(ch a b c d+6) % 12:=by
 have:=(chkN (Jg a) (Jg b) (Jg c) (Jg d) (qq h)).2.2.2.2
 unfold ch
 rw [Yt,Yt,Yt,Yt,this]; omega
theorem QaN:ch 1 0 0 1=0:=by decide
theorem vV {a b c d n:Int} (h:a*d - b*c=1):a*(d+c*n) - (b+a*n)*c=1:=by
 rw [Int.mul_add,Int.add_mul,show a*(c*n)=a*n*c by rw [Int.mul_comm c n,Int.mul_assoc]]; omega
theorem QfL {a b c d n:Int} (h:a*d - b*c=1):(a+n*c)*d - (b+n*d)*c=1:=by
 rw [Int.add_mul,Int.add_mul,show n*d*c=n*c*d by rw [Int.mul_assoc,Int.mul_comm d c,Int.mul_assoc]]; omega
theorem Qdm {a b c d:Int} (h:a*d - b*c=1):∀ n:Nat,ch a (b+a*(n:Int)) c (d+c*(n:Int))=(ch a b c d+n) % 12
 | 0=>by
  have:=yz a b c d
  rw [show ((0:Nat):Int)=0 from rfl,Int.mul_zero,Int.mul_zero,Int.add_zero,Int.add_zero]; omega
 | n+1=>by
  have e:∀ x y:Int,x+y*((n+1:Nat):Int)=y+(x+y*(n:Int)):=fun x y=>by rw [show ((n+1:Nat):Int)=(n:Int)+1 from rfl,Int.mul_add,Int.mul_one]; omega
  rw [e,e,ch_T (vV h),Qdm h n]; omega
theorem Qer {a b c d:Int} (h:a*d - b*c=1):∀ n:Nat,ch (a+(n:Int)*c) (b+(n:Int)*d) c d=(ch a b c d+n) % 12
 | 0=>by
  have:=yz a b c d
  rw [show ((0:Nat):Int)=0 from rfl,Int.zero_mul,Int.zero_mul,Int.add_zero,Int.add_zero]; omega
 | n+1=>by
  have e:∀ x y:Int,x+((n+1:Nat):Int)*y=(x+(n:Int)*y)+y:=fun x y=>by rw [show ((n+1:Nat):Int)=(n:Int)+1 from rfl,Int.add_mul,Int.one_mul]; omega
  rw [e,e,ch_L (QfL h),Qer h n]; omega
theorem QbD {a b c d:Int} (h:a*d - b*c=1) (n:Int):ch a (b+a*n) c (d+c*n)=(ch a b c d+n) % 12:=by
 rcases Int.le_total 0 n with hn | hn
 ·obtain ⟨k,rfl⟩:=Int.eq_ofNat_of_zero_le hn
  exact Qdm h k
 ·obtain ⟨k,hk⟩:=Int.eq_ofNat_of_zero_le (show 0 ≤ -n by omega)
  have h1:=Qdm (vV (n:=n) h) k
  rw [← hk] at h1
  have e:∀ x y:Int,x+y*n+y * -n=x:=fun x y=>by rw [Int.mul_neg]; omega
  rw [e,e] at h1
  have h2:=yz a (b+a*n) c (d+c*n)
  omega
theorem QgE {a b c d:Int} (h:a*d - b*c=1) (n:Int):ch (a+n*c) (b+n*d) c d=(ch a b c d+n) % 12:=by
 rcases Int.le_total 0 n with hn | hn
 ·obtain ⟨k,rfl⟩:=Int.eq_ofNat_of_zero_le hn
  exact Qer h k
 ·obtain ⟨k,hk⟩:=Int.eq_ofNat_of_zero_le (show 0 ≤ -n by omega)
  have h1:=Qer (QfL (n:=n) h) k
  rw [← hk] at h1
  have e:∀ x y:Int,x+n*y + -n*y=x:=fun x y=>by rw [Int.neg_mul]; omega
  rw [e,e] at h1
  have h2:=yz (a+n*c) (b+n*d) c d
  omega
theorem jE {a b c d q r:Int} (h:a*d - b*c=1) (hr:a=q*c+r):c*(q*d - b) - d * -r=1:=by
 subst hr
 rw [Int.mul_sub,Int.mul_neg,show c*(q*d)=q*c*d by rw [← Int.mul_assoc,Int.mul_comm c q],Int.mul_comm c b,Int.mul_comm d r]
 rw [Int.add_mul] at h
 omega
theorem Qfm {a b c d q r:Int} (h:a*d - b*c=1) (hr:a=q*c+r):ch a b c d=(ch c d (-r) (q*d - b)+9+q) % 12:=by
 have hd:=jE h hr
 have h1:=Qgz hd
 have e1 : - -r*d - -(q*d - b)*c=1:=by
  rw [Int.neg_neg,Int.neg_mul,Int.sub_mul]
  subst hr
  rw [Int.add_mul] at h
  rw [show q*d*c=q*c*d by rw [Int.mul_assoc,Int.mul_comm d c,Int.mul_assoc]]
  omega
 have h2:=QgE e1 q
 rw [show - -r+q*c=a by omega,show -(q*d - b)+q*d=b by omega,h1] at h2
 rw [h2]; omega
theorem Qfh {a b d:Int} (h:a*d - b*0=1):(a=1∨a = -1)∧d=a∧ch a b 0 d=(a*b+(if a < 0 then 6 else 0)) % 12:=by
 have h0:a*d=1:=by omega
 have ha:a=1∨a = -1:=by
  have h1:a.natAbs*d.natAbs=1:=by rw [← Int.natAbs_mul,h0]; rfl
  have:=Nat.eq_one_of_mul_eq_one_right h1
  omega
 rcases ha with rfl | rfl
 ·refine ⟨.inl rfl,by omega,?_⟩
  obtain rfl:d=1:=by omega
  have h1:=QbD (a:=1) (b:=0) (c:=0) (d:=1) (by decide) b
  rw [QaN,Int.one_mul,Int.zero_mul,Int.add_zero,Int.zero_add] at h1
  rw [h1,if_neg (by decide)]; omega
 ·refine ⟨.inr rfl,by omega,?_⟩
  obtain rfl:d = -1:=by omega
  have h1:=QbD (a:=1) (b:=0) (c:=0) (d:=1) (by decide) (-b)
  rw [QaN,Int.one_mul,Int.zero_mul,Int.add_zero,Int.zero_add] at h1
  have h2:=QcO (a:=1) (b := -b) (c:=0) (d:=1) (by omega)
  rw [Int.neg_neg,h1] at h2
  rw [show ch (-1) b 0 (-1)=ch (-1) b (-0) (-1) from rfl,h2,if_pos (by decide)]; omega
def ssum (f:Nat→Int):Nat→Int
 | 0=>0
 | n+1=>ssum f n+f n
theorem VP {f g:Nat→Int}:∀ {n:Nat},(∀ k,k < n→f k=g k)→ssum f n=ssum g n
 | 0,_=>rfl
 | n+1,h=>by show ssum f n+f n=ssum g n+g n; rw [VP fun k hk=>h k (by omega),h n (by omega)]
theorem Qcl {a b c d:Int} {f:Nat→Int} {k:Nat} (h:a*d - b*c=1) (hc:ch a b c d=(9*((k:Int) - 1)+ssum f k) % 12) :
  b*(-c+d*f k) - (-a+b*f k)*d=1∧ch b (-a+b*f k) d (-c+d*f k)=(9*(((k+1:Nat):Int) - 1)+ssum f (k+1)) % 12:=by
 have h1:b * -c - -a*d=1:=by rw [Int.mul_neg,Int.neg_mul]; omega
 refine ⟨vV h1,?_⟩
 rw [QbD h1,ch_S h,hc]
 show _=(9*(((k+1:Nat):Int) - 1)+(ssum f k+f k)) % 12
 omega
theorem QaU {f:Nat→Int}:(1:Int)*(1+0*f 0) - (0+1*f 0)*0=1∧ch 1 (0+1*f 0) 0 (1+0*f 0)=(9*(((0+1:Nat):Int) - 1)+ssum f (0+1)) % 12:=by
 have h1:(1:Int)*1 - 0*0=1:=by decide
 refine ⟨vV h1,?_⟩
 rw [QbD h1,QaN]
 show _=(9*(((0+1:Nat):Int) - 1)+(0+f 0)) % 12
 omega
theorem QaW {a b c d q r:Int} (h:a*d - b*c=1) (hr:a=q*c+r) (h2:2*r.natAbs≤c.natAbs) (hc:c≠0):(q*d - b).natAbs≤max d.natAbs 1:=by
 have hd:=jE h hr
 have h3:c*(q*d - b)=1 - d*r:=by rw [Int.mul_neg] at hd; omega
 have h4:c.natAbs*(q*d - b).natAbs≤1+d.natAbs*r.natAbs:=by
  rw [← Int.natAbs_mul,h3,← Int.natAbs_mul]; omega
 generalize (q*d - b).natAbs=x at *
 generalize d.natAbs=y at *
 generalize r.natAbs=s at *
 have hc1:1≤c.natAbs:=by omega
 generalize c.natAbs=e at *
 rcases Nat.lt_or_ge (max y 1) x with hx | hx
 ·exfalso
  have h5:y*(2*s)≤y*e:=Nat.mul_le_mul_left _ h2
  have h6:e*x ≥ e*(y+1):=Nat.mul_le_mul_left _ (by omega)
  have h7:e*x ≥ e*2:=Nat.mul_le_mul_left _ (by omega)
  have h8:y*(2*s)=2*(y*s):=by rw [Nat.mul_left_comm]
  rw [Nat.mul_add,Nat.mul_comm e y] at h6
  omega
 ·exact hx
end Go.Chi

/- Walks of sl2: in, fits, Det, Check, nearest. -/
namespace Go.Proofs.YtnjpkncacddplaaGreatDoor
open Go.Hp
variable {G:World} {U U':UH} {M:MH}
theorem mulb {a b c d:Int} (h1 : -c≤a∧a≤c) (h2 : -d≤b∧b≤d) : -(c*d)≤a*b∧a*b≤c*d:=by
 have e:(a*b).natAbs≤c.natAbs*d.natAbs:=by rw [Int.natAbs_mul]; exact Nat.mul_le_mul (by omega) (by omega)
 have e2:c*d=((c.natAbs*d.natAbs:Nat):Int):=by rw [Int.natCast_mul,Int.natAbs_of_nonneg (by omega),Int.natAbs_of_nonneg (by omega)]
 rw [e2]; omega
theorem negZ64 {z:Int} (h : -9223372036854775807≤z∧z≤9223372036854775807):IntKind.i64.wrap (0 - z) = -z:=by
 rw [IntWalk.i64_in _ (by omega)]; omega
theorem tmodZ (z s:Int) (hs:0 < s):(∃ k,z - z.tmod s=s*k) ∧ -s < z.tmod s∧z.tmod s < s:=by
 have h1:=Int.tmod_add_mul_tdiv z s
 exact ⟨⟨z.tdiv s,by omega⟩,Int.lt_tmod_of_pos z hs,Int.tmod_lt_of_pos z hs⟩
theorem jk {P:Program} {N:Nat} {E:Env} {o:Oper} {ty yt:Nat} {x y:Operand} {k:IntKind} {a b:Int} (ho:o.op = .binOp .quo ty x y yt) (hx:ev E x=some (.int k a)) (hy:ev E y=some (.int k b))
  (h:b≠0):Yl P N G o E U M (.int k (k.wrap (a.tdiv b))):=by
 refine Yx ho hx hy (funext fun w=>?_)
 simp [binOp,Op.intDiv,h]
def F4 (a b c d:Int):Prop:=(-1073741824≤a∧a≤1073741824)∧(-1073741824≤b∧b≤1073741824)∧(-1073741824≤c∧c≤1073741824)∧(-1073741824≤d∧d≤1073741824)
theorem qo {n:Int}:Ct Tryz.prog 43 [.int .i64 n] G U M fun v U' D=>∃ b:Bool,v = .bool b∧(b=true ↔ -1073741824≤n∧n≤1073741824)∧U=U'∧D=[]:=by
 refine Qo Tryz.func43 rfl rfl rfl rfl ?_
 repeat (first|refine Qe ?_|refine Qd fun _=>?_|refine w_al fun _=>?_)
 refine YP rfl rfl (fun h1=>?_) (fun h1=>?_)
 ·repeat (first|refine Qe ?_|refine Qd fun _=>?_|refine w_al fun _=>?_)
  refine Qj [] sym rfl (.cons (.tmp rfl) .nil) uc sb (.inl rfl) ⟨_,rfl,?_,rfl,rfl⟩
  rw [Jp,decide_eq_true_eq]; omega
 ·repeat (first|refine Qe ?_|refine Qd fun _=>?_|refine w_al fun _=>?_)
  exact Qj [] sym rfl (.cons (.tmp rfl) .nil) uc sb (.inl rfl) ⟨false,rfl,⟨(fun h=>by cases h),fun h=>absurd h.1 h1⟩,rfl,rfl⟩
theorem yo {a b c d:Int}:Ct Tryz.prog 44 [.agg #[.int .i64 a,.int .i64 b,.int .i64 c,.int .i64 d]] G U M fun v U' D=>∃ t:Bool,v = .bool t∧(t=true↔F4 a b c d)∧U=U'∧D=[]:=by
 unfold F4
 refine Qo Tryz.func44 rfl rfl rfl rfl ?_
 repeat (first|refine Qe ?_|refine Qd fun _=>?_|refine w_al fun _=>?_)
 refine Qi rfl rfl rfl rfl rfl rfl (fun _=>qo) ?_
 rintro v5 U5 D5 hU5 ⟨b5,rfl,h5,rfl,rfl⟩
 rw [List.nil_append]
 cases b5
 ·repeat (first|refine Qe ?_|refine Qd fun _=>?_|refine w_al fun _=>?_)
  exact Qj [] sym rfl (.cons (.tmp rfl) .nil) uc sb (.inl rfl) ⟨false,rfl,⟨(fun h=>by cases h),fun h=>by have:=h5.2 h.1; cases this⟩,rfl,rfl⟩
 repeat (first|refine Qe ?_|refine Qd fun _=>?_|refine w_al fun _=>?_)
 refine Qi rfl rfl rfl rfl rfl rfl (fun _=>qo) ?_
 rintro v9 U9 D9 hU9 ⟨b9,rfl,h9,rfl,rfl⟩
 rw [List.nil_append]
 cases b9
 ·repeat (first|refine Qe ?_|refine Qd fun _=>?_|refine w_al fun _=>?_)
  exact Qj [] sym rfl (.cons (.tmp rfl) .nil) uc sb (.inl rfl) ⟨false,rfl,⟨(fun h=>by cases h),fun h=>by have:=h9.2 h.2.1; cases this⟩,rfl,rfl⟩
 repeat (first|refine Qe ?_|refine Qd fun _=>?_|refine w_al fun _=>?_)
 refine Qi rfl rfl rfl rfl rfl rfl (fun _=>qo) ?_
 rintro v14 U14 D14 hU14 ⟨b14,rfl,h14,rfl,rfl⟩
 rw [List.nil_append]
 cases b14
 ·repeat (first|refine Qe ?_|refine Qd fun _=>?_|refine w_al fun _=>?_)
  exact Qj [] sym rfl (.cons (.tmp rfl) .nil) uc sb (.inl rfl) ⟨false,rfl,⟨(fun h=>by cases h),fun h=>by have:=h14.2 h.2.2.1; cases this⟩,rfl,rfl⟩
 repeat (first|refine Qe ?_|refine Qd fun _=>?_|refine w_al fun _=>?_)
 refine Qi rfl rfl rfl rfl rfl rfl (fun _=>qo) ?_
 rintro v19 U19 D19 hU19 ⟨b19,rfl,h19,rfl,rfl⟩
 rw [List.nil_append]
 repeat (first|refine Qe ?_|refine Qd fun _=>?_|refine w_al fun _=>?_)
 exact Qj [] sym rfl (.cons (.tmp rfl) .nil) uc sb (.inl rfl) ⟨b19,rfl,⟨fun h=>⟨h5.1 rfl,h9.1 rfl,h14.1 rfl,h19.1 h⟩,fun h=>h19.2 h.2.2.2⟩,rfl,rfl⟩
theorem QcN {a b c d:Int} (hf:F4 a b c d):Ct Tryz.prog 166 [.agg #[.int .i64 a,.int .i64 b,.int .i64 c,.int .i64 d]] G U M fun v U' D=>v = .tuple #[.int .i64 (a*d - b*c),.int .i64 0]∧U=U'∧D=[]:=by
 have m1:=mulb hf.1 hf.2.2.2
 have m2:=mulb hf.2.1 hf.2.2.1
 refine Qo Tryz.func166 rfl rfl rfl rfl ?_
 repeat (first|refine Qe ?_|refine Qd fun _=>?_|refine w_al fun _=>?_)
 refine Qi rfl rfl rfl rfl rfl rfl (fun _=>yo) ?_
 rintro v5 U5 D5 hU5 ⟨b5,rfl,h5,rfl,rfl⟩
 rw [List.nil_append]
 obtain rfl:b5=true:=h5.2 hf
 repeat (first|refine Qe ?_|refine Qd fun _=>?_|refine w_al fun _=>?_)
 exact Qj [] sym rfl (.cons (.tmp rfl) (.cons (.tmp rfl) .nil)) uc sb (.inl rfl) ⟨rfl,rfl,rfl⟩
theorem QaR {a b c d:Int} (hf:F4 a b c d) (hd:a*d - b*c=1):Ct Tryz.prog 106 [.agg #[.int .i64 a,.int .i64 b,.int .i64 c,.int .i64 d]] G U M fun v U' D=>v = .int .i64 0∧U=U'∧D=[]:=by
 refine Qo Tryz.func106 rfl rfl rfl rfl ?_
 repeat (first|refine Qe ?_|refine Qd fun _=>?_|refine w_al fun _=>?_)
 refine Qi rfl rfl rfl rfl rfl rfl (fun _=>QcN hf) ?_
 rintro v5 U5 D5 hU5 ⟨rfl,rfl,rfl⟩
 rw [List.nil_append,hd]
 repeat (first|refine Qe ?_|refine Qd fun _=>?_|refine w_al fun _=>?_)
 refine YP rfl rfl (fun _=>?_) (fun h=>absurd rfl h)
 repeat (first|refine Qe ?_|refine Qd fun _=>?_|refine w_al fun _=>?_)
 refine Qn rfl (fun h=>absurd rfl h) (fun _=>?_)
 repeat (first|refine Qe ?_|refine Qd fun _=>?_|refine w_al fun _=>?_)
 exact Qj [] sym rfl (.cons (.tmp rfl) .nil) uc sb (.inl rfl) ⟨rfl,rfl,rfl⟩
theorem Qel {a c r k:Int} (h:a - r=c*k) (hc:c≠0) (hb : -4294967296≤a - r∧a - r≤4294967296):IntKind.i64.wrap ((a - r).tdiv c)=k:=by
 have hk:(c*k).natAbs≤4294967296:=by omega
 rw [Int.natAbs_mul] at hk
 have h1:1*k.natAbs≤c.natAbs*k.natAbs:=Nat.mul_le_mul_right _ (by omega)
 rw [h,Int.mul_tdiv_cancel_left _ hc,IntWalk.i64_in _ (by omega)]
theorem vB {a c:Int} (ha : -1073741824≤a∧a≤1073741824) (hc : -1073741824≤c∧c≤1073741824) (h0:c≠0) :
  Ct Tryz.prog 107 [.int .i64 a,.int .i64 c] G U M fun v U' D=>∃ q r,v = .tuple #[.int .i64 q,.int .i64 r]∧a=q*c+r∧2*r.natAbs≤c.natAbs∧U=U'∧D=[]:=by
 obtain ⟨s,hs⟩:∃ s:Int,s=(c.natAbs:Int):=⟨_,rfl⟩
 have hs0:0 < s:=by omega
 obtain ⟨g,hg⟩:∃ g:Int,s=c*g:=by
  rcases Int.natAbs_eq c with h | h
  ·exact ⟨1,by omega⟩
  ·exact ⟨-1,by omega⟩
 obtain ⟨⟨k,hk⟩,hl,hu⟩:=tmodZ a s hs0
 obtain ⟨R,hR⟩:∃ R,R=a.tmod s:=⟨_,rfl⟩
 rw [← hR] at hk hl hu
 have hk2:a - R=c*(g*k):=by rw [hk,hg,Int.mul_assoc]
 have emax:(if c < IntKind.i64.wrap (0 - c) then IntKind.i64.wrap (0 - c) else c)=s:=by
  rw [negZ64 (by omega)]; split<;>omega
 refine Qo Tryz.func107 rfl rfl rfl rfl ?_
 repeat (first|refine Qe ?_|refine Qd fun _=>?_|refine w_al fun _=>?_)
 rw [show (if IntKind.i64.wrap (0 - c) > c then IntKind.i64.wrap (0 - c) else c)=s from emax]
 refine sl_y (Qgc (k := .i64) (a:=a) (b:=s) rfl rfl rfl (by omega)) rfl rfl rfl rfl ?_
 rw [← hR]
 have fin:∀ r k2,a - r=c*k2→2*r.natAbs≤c.natAbs→IntKind.i64.wrap ((a - r).tdiv c)=k2∧a=k2*c+r:=fun r k2 h1 h2=>⟨Qel h1 h0 (by omega),by rw [Int.mul_comm k2 c]; omega⟩
 have eg:c*(g*k+g)=c*(g*k)+s∧c*(g*k - g)=c*(g*k) - s:=⟨by rw [Int.mul_add,hg],by rw [Int.mul_sub,hg]⟩
 repeat (first|refine Qe ?_|refine Qd fun _=>?_|refine w_al fun _=>?_)
 refine Qn rfl (fun h1=>?_) (fun h1=>?_)
 ·repeat (first|refine Qe ?_|refine Qd fun _=>?_|refine w_al fun _=>?_)
  refine Qn rfl (fun h2=>?_) (fun h2=>?_)
  ·obtain ⟨f1,f2⟩:=fin (R+s - s) (g*k) (by omega) (by omega)
   repeat (first|refine Qe ?_|refine Qd fun _=>?_|refine w_al fun _=>?_)
   refine sl_y (jk (k := .i64) rfl rfl rfl (by omega)) rfl rfl rfl rfl ?_
   rw [f1]
   repeat (first|refine Qe ?_|refine Qd fun _=>?_|refine w_al fun _=>?_)
   exact Qj [] sym rfl (.cons (.tmp rfl) (.cons (.tmp rfl) .nil)) uc sb (.inl rfl) ⟨_,_,rfl,f2,by omega,rfl,rfl⟩
  ·obtain ⟨f1,f2⟩:=fin (R+s) (g*k - g) (by omega) (by omega)
   repeat (first|refine Qe ?_|refine Qd fun _=>?_|refine w_al fun _=>?_)
   refine sl_y (jk (k := .i64) rfl rfl rfl (by omega)) rfl rfl rfl rfl ?_
   rw [f1]
   repeat (first|refine Qe ?_|refine Qd fun _=>?_|refine w_al fun _=>?_)
   exact Qj [] sym rfl (.cons (.tmp rfl) (.cons (.tmp rfl) .nil)) uc sb (.inl rfl) ⟨_,_,rfl,f2,by omega,rfl,rfl⟩
 ·repeat (first|refine Qe ?_|refine Qd fun _=>?_|refine w_al fun _=>?_)
  refine Qn rfl (fun h2=>?_) (fun h2=>?_)
  ·obtain ⟨f1,f2⟩:=fin (R - s) (g*k+g) (by omega) (by omega)
   repeat (first|refine Qe ?_|refine Qd fun _=>?_|refine w_al fun _=>?_)
   refine sl_y (jk (k := .i64) rfl rfl rfl (by omega)) rfl rfl rfl rfl ?_
   rw [f1]
   repeat (first|refine Qe ?_|refine Qd fun _=>?_|refine w_al fun _=>?_)
   exact Qj [] sym rfl (.cons (.tmp rfl) (.cons (.tmp rfl) .nil)) uc sb (.inl rfl) ⟨_,_,rfl,f2,by omega,rfl,rfl⟩
  ·obtain ⟨f1,f2⟩:=fin R (g*k) (by omega) (by omega)
   repeat (first|refine Qe ?_|refine Qd fun _=>?_|refine w_al fun _=>?_)
   refine sl_y (jk (k := .i64) rfl rfl rfl (by omega)) rfl rfl rfl rfl ?_
   rw [f1]
   repeat (first|refine Qe ?_|refine Qd fun _=>?_|refine w_al fun _=>?_)
   exact Qj [] sym rfl (.cons (.tmp rfl) (.cons (.tmp rfl) .nil)) uc sb (.inl rfl) ⟨_,_,rfl,f2,by omega,rfl,rfl⟩
end Go.Proofs.YtnjpkncacddplaaGreatDoor

/- Walks of sl2: Value, Factor, Abelian. -/
namespace Go.Proofs.YtnjpkncacddplaaGreatDoor
open Go.Hp Go.Chi
variable {G:World} {U U':UH} {M:MH}
theorem Qei:F4 1 0 0 1:=by unfold F4; omega
set_option maxHeartbeats 4000000 in
theorem QaV {t:Bool} {n c:Nat} {p:Option Addr} {vs:List Value} {f:Nat→Int} (rw1:RowAt U [] 1 p n vs) (el:El Vz U vs f) (hn:n≤200) (h1n:1≤n) :
  Ct Tryz.prog 8 [.agg #[.bool t,.slice p n c]] G U M fun v U' D=>∃ x y z w e:Int,v = .tuple #[.agg #[.int .i64 x,.int .i64 y,.int .i64 z,.int .i64 w],.int .i64 e]∧(e=0→F4 x y z w∧x*w - y*z=1∧ch x y z w=(9*((n:Int) - 1)+ssum f n+(if t then 6 else 0)) % 12)∧U=U'∧D=[]:=by
 refine Qo Tryz.func8 rfl rfl rfl rfl ?_
 repeat (first|refine Qe ?_|refine Qd fun _=>?_|refine w_al fun _=>?_)
 rename_i b1 b2
 refine Qn rfl (fun h=>absurd h (by omega)) (fun _=>?_)
 repeat (first|refine Qe ?_|refine Qd fun _=>?_|refine w_al fun _=>?_)
 refine Qn rfl (fun h=>absurd h (by omega)) (fun _=>?_)
 repeat (first|refine Qe ?_|refine Qd fun _=>?_|refine w_al fun _=>?_)
 try refine qh (M':=(b2,.var (.agg #[.int .i64 0,.int .i64 0,.int .i64 0,.int .i64 0]),27)::(b1,.var (.agg #[.bool t,.slice p n c]),24)::M) (ULe.refl _) sbk ?_
 refine QQ (fun z E U' M'=>∃ (i:Nat),i≤n∧(∀ k,k < i → -1073741824≤f k∧f k≤1073741824)∧U=U'∧E=[(22,.int .i64 (i:Int)),(21,.int .i64 (n:Int)),(20,.slice p n c),(2,.pointer (some ⟨b2,0,none⟩)),(1,.pointer (some ⟨b1,0,none⟩))]∧ULe U U'∧M'=(b2,.var (.agg #[.int .i64 0,.int .i64 0,.int .i64 0,.int .i64 0]),27)::(b1,.var (.agg #[.bool t,.slice p n c]),24)::M∧z=n - i) (n0:=n - 0) (E0:=[(22,.int .i64 ((0:Nat):Int)),(21,.int .i64 (n:Int)),(20,.slice p n c),(2,.pointer (some ⟨b2,0,none⟩)),(1,.pointer (some ⟨b1,0,none⟩))]) ⟨rfl,rfl,rfl,rfl,rfl,trivial⟩ ⟨0,by omega,(fun k h=>absurd h (Nat.not_lt_zero k)),rfl,rfl,uc,rfl,rfl⟩ ?_
 rintro z E U1 M' ⟨i,hi,hall,rfl,rfl,hU1,rfl,rfl⟩
 try refine Qb ?_
 refine Qn rfl (fun h=>?_) (fun h=>?_)
 ·have hin:i < n:=by omega
  obtain ⟨v1,hv1⟩:=rw1.at hin
  obtain ⟨rfl,hz⟩:=el _ _ hv1
  repeat (first|refine Qe ?_|refine Qd fun _=>?_|refine w_al fun _=>?_)
  refine sl_y (Yy sym rfl rfl rfl rfl rfl rfl ((rw1.up uc sb).lt hv1) ((rw1.up uc sb).get _ _ hv1).1) rfl rfl rfl rfl ?_; refine sl_y (Vv sym rfl rfl rfl rfl (rw1.up uc sb) hv1 rfl) rfl rfl rfl rfl ?_
  repeat (first|refine Qe ?_|refine Qd fun _=>?_|refine w_al fun _=>?_)
  refine Qi rfl rfl rfl rfl rfl rfl (fun _=>qo) ?_
  rintro v5 U5 D5 hU5 ⟨b5,rfl,h5,rfl,rfl⟩
  rw [List.nil_append]
  cases b5
  ·repeat (first|refine Qe ?_|refine Qd fun _=>?_|refine w_al fun _=>?_)
   exact Qj [] sym rfl (.cons (.cell 0 rfl rfl rfl) (.cons (.tmp rfl) .nil)) uc sb (.inl rfl) ⟨_,_,_,_,_,rfl,(fun h=>by cases h),rfl,rfl⟩
  have h5:=h5.1 rfl
  repeat (first|refine Qe ?_|refine Qd fun _=>?_|refine w_al fun _=>?_)
  exact QD (E':=[(22,.int .i64 ((i:Int)+1)),(21,.int .i64 (n:Int)),(20,.slice p n c),(2,.pointer (some ⟨b2,0,none⟩)),(1,.pointer (some ⟨b1,0,none⟩))]) (m:=n - (i+1)) ⟨rfl,rfl,rfl,rfl,rfl,trivial⟩ (by omega) ⟨i+1,by omega,(fun k hk=>by
   rcases Nat.lt_or_eq_of_le (Nat.le_of_lt_succ hk) with h6 | h6
   ·exact hall k h6
   ·rw [h6]; omega),rfl,rfl,uc,rfl,rfl⟩
 obtain rfl:n=i:=by omega
 repeat (first|refine Qe ?_|refine Qd fun _=>?_|refine w_al fun _=>?_)
 rename_i b6
 try refine qh (M':=(b6,.var (.agg #[.int .i64 1,.int .i64 0,.int .i64 0,.int .i64 1]),27)::(b2,.var (.agg #[.int .i64 0,.int .i64 0,.int .i64 0,.int .i64 0]),27)::(b1,.var (.agg #[.bool t,.slice p n c]),24)::M) (ULe.refl _) sbk ?_
 refine QQ (fun z E U' M'=>∃ (i:Nat) (x y u w:Int),i≤n∧F4 x y u w∧x*w - y*u=1∧(i=0→x=1∧y=0∧u=0∧w=1)∧(1≤i→ch x y u w=(9*((i:Int) - 1)+ssum f i) % 12)∧U=U'∧E=[(35,.int .i64 (i:Int)),(34,.int .i64 (n:Int)),(33,.slice p n c),(6,.pointer (some ⟨b6,0,none⟩)),(2,.pointer (some ⟨b2,0,none⟩)),(1,.pointer (some ⟨b1,0,none⟩))]∧ULe U U'∧M'=(b6,.var (.agg #[.int .i64 x,.int .i64 y,.int .i64 u,.int .i64 w]),27)::(b2,.var (.agg #[.int .i64 0,.int .i64 0,.int .i64 0,.int .i64 0]),27)::(b1,.var (.agg #[.bool t,.slice p n c]),24)::M∧z=n - i) (n0:=n - 0) (E0:=[(35,.int .i64 ((0:Nat):Int)),(34,.int .i64 (n:Int)),(33,.slice p n c),(6,.pointer (some ⟨b6,0,none⟩)),(2,.pointer (some ⟨b2,0,none⟩)),(1,.pointer (some ⟨b1,0,none⟩))]) ⟨rfl,rfl,rfl,rfl,rfl,rfl,trivial⟩ ⟨0,1,0,0,1,by omega,Qei,by decide,fun _=>⟨rfl,rfl,rfl,rfl⟩,fun h=>absurd h (by decide),rfl,rfl,uc,rfl,rfl⟩ ?_
 rintro z E U1 M' ⟨i,x,y,u,w,hi,hF,hdet,h0,hch,rfl,rfl,hU1,rfl,rfl⟩
 try refine Qb ?_
 refine Qn rfl (fun h=>?_) (fun h=>?_)
 ·have hin:i < n:=by omega
  obtain ⟨v1,hv1⟩:=rw1.at hin
  obtain ⟨rfl,hz⟩:=el _ _ hv1
  have hfi:=hall i hin
  repeat (first|refine Qe ?_|refine Qd fun _=>?_|refine w_al fun _=>?_)
  refine sl_y (Yy sym rfl rfl rfl rfl rfl rfl ((rw1.up uc sb).lt hv1) ((rw1.up uc sb).get _ _ hv1).1) rfl rfl rfl rfl ?_; refine sl_y (Vv sym rfl rfl rfl rfl (rw1.up uc sb) hv1 rfl) rfl rfl rfl rfl ?_
  repeat (first|refine VL ?_|refine Qd fun _=>?_|refine w_al fun _=>?_)
  refine QG (fun E U' M'=>∃ (x y u w:Int),F4 x y u w∧x*w - y*u=1∧ch x (y+x*f i) u (w+u*f i)=(9*(((i+1:Nat):Int) - 1)+ssum f (i+1)) % 12∧U=U'∧E=[(35,.int .i64 (i:Int)),(34,.int .i64 (n:Int)),(33,.slice p n c),(8,.int .i64 ((f i):Int)),(6,.pointer (some ⟨b6,0,none⟩)),(2,.pointer (some ⟨b2,0,none⟩)),(1,.pointer (some ⟨b1,0,none⟩))]∧ULe U U'∧M'=(b6,.var (.agg #[.int .i64 x,.int .i64 y,.int .i64 u,.int .i64 w]),27)::(b2,.var (.agg #[.int .i64 0,.int .i64 0,.int .i64 0,.int .i64 0]),27)::(b1,.var (.agg #[.bool t,.slice p n c]),24)::M) ?_ ?_
  ·try refine Qb ?_
   refine Qn rfl (fun h9=>?_) (fun h9=>?_)
   ·have hi1:1≤i:=by omega
    obtain ⟨h6,h7⟩:=Qcl (f:=f) hdet (hch hi1)
    have h8:F4 y (-x) w (-u):=by unfold F4 at *; omega
    have nx:IntKind.i64.wrap (0 - x) = -x:=negZ64 (by unfold F4 at hF; omega)
    have nu:IntKind.i64.wrap (0 - u) = -u:=negZ64 (by unfold F4 at hF; omega)
    repeat (first|refine VL ?_|refine Qd fun _=>?_|refine w_al fun _=>?_)
    rw [nx,nu]
    repeat (first|refine Qe ?_|refine Qd fun _=>?_|refine w_al fun _=>?_)
    exact QI (E':=[(35,.int .i64 (i:Int)),(34,.int .i64 (n:Int)),(33,.slice p n c),(8,.int .i64 ((f i):Int)),(6,.pointer (some ⟨b6,0,none⟩)),(2,.pointer (some ⟨b2,0,none⟩)),(1,.pointer (some ⟨b1,0,none⟩))]) ⟨rfl,rfl,rfl,rfl,rfl,rfl,rfl,trivial⟩ ⟨y,-x,w,-u,h8,(by rw [Int.mul_neg,Int.neg_mul]; omega),h7,rfl,rfl,uc,rfl⟩
   ·obtain rfl:i=0:=by omega
    obtain ⟨rfl,rfl,rfl,rfl⟩:=h0 rfl
    repeat (first|refine Qe ?_|refine Qd fun _=>?_|refine w_al fun _=>?_)
    exact QI (E':=[(35,.int .i64 ((0:Nat):Int)),(34,.int .i64 (n:Int)),(33,.slice p n c),(8,.int .i64 ((f 0):Int)),(6,.pointer (some ⟨b6,0,none⟩)),(2,.pointer (some ⟨b2,0,none⟩)),(1,.pointer (some ⟨b1,0,none⟩))]) ⟨rfl,rfl,rfl,rfl,rfl,rfl,rfl,trivial⟩ ⟨1,0,0,1,Qei,(by decide),QaU.2,rfl,rfl,uc,rfl⟩
  rintro E U1 M' ⟨x,y,u,w,hF,hdet,hch,rfl,rfl,hU1,rfl⟩
  have b1':=mulb hF.1 hfi
  have b2':=mulb hF.2.2.1 hfi
  have hF':=hF
  obtain ⟨g1,g2,g3,g4⟩:=hF'
  repeat (first|refine Qe ?_|refine Qd fun _=>?_|refine w_al fun _=>?_)
  refine Ye 0 sym rfl rfl rfl rfl rfl rfl rfl rfl rfl rfl rfl ?_
  repeat (first|refine Qe ?_|refine Qd fun _=>?_|refine w_al fun _=>?_)
  refine Ye 0 sym rfl rfl rfl rfl rfl rfl rfl rfl rfl rfl rfl ?_
  repeat (first|refine Qe ?_|refine Qd fun _=>?_|refine w_al fun _=>?_)
  refine Qi rfl rfl rfl rfl rfl rfl (fun _=>yo) ?_
  rintro v70 U70 D70 hU70 ⟨b70,rfl,h70,rfl,rfl⟩
  rw [List.nil_append]
  cases b70
  ·repeat (first|refine Qe ?_|refine Qd fun _=>?_|refine w_al fun _=>?_)
   exact Qj [] sym rfl (.cons (.cell 1 rfl rfl rfl) (.cons (.tmp rfl) .nil)) uc sb (.inl rfl) ⟨_,_,_,_,_,rfl,(fun h=>by cases h),rfl,rfl⟩
  repeat (first|refine Qe ?_|refine Qd fun _=>?_|refine w_al fun _=>?_)
  exact QD (E':=[(35,.int .i64 ((i:Int)+1)),(34,.int .i64 (n:Int)),(33,.slice p n c),(6,.pointer (some ⟨b6,0,none⟩)),(2,.pointer (some ⟨b2,0,none⟩)),(1,.pointer (some ⟨b1,0,none⟩))]) (m:=n - (i+1)) ⟨rfl,rfl,rfl,rfl,rfl,rfl,trivial⟩ (by omega) ⟨i+1,x,y+x*f i,u,w+u*f i,by omega,h70.1 rfl,vV hdet,fun h=>absurd h (by omega),fun _=>hch,rfl,rfl,uc,rfl,rfl⟩
 ·obtain rfl:n=i:=by omega
  have hch:=hch h1n
  have hF':=hF
  obtain ⟨g1,g2,g3,g4⟩:=hF'
  repeat (first|refine Qe ?_|refine Qd fun _=>?_|refine w_al fun _=>?_)
  cases t
  ·repeat (first|refine Qe ?_|refine Qd fun _=>?_|refine w_al fun _=>?_)
   exact Qj [] sym rfl (.cons (.cell 1 rfl rfl rfl) (.cons (.tmp rfl) .nil)) uc sb (.inl rfl) ⟨_,_,_,_,_,rfl,fun _=>⟨hF,hdet,by rw [hch]; simp⟩,rfl,rfl⟩
  ·have nx:IntKind.i64.wrap (0 - x) = -x:=negZ64 (by omega)
   have ny:IntKind.i64.wrap (0 - y) = -y:=negZ64 (by omega)
   have nu:IntKind.i64.wrap (0 - u) = -u:=negZ64 (by omega)
   have nw:IntKind.i64.wrap (0 - w) = -w:=negZ64 (by omega)
   have hF2:F4 (-x) (-y) (-u) (-w):=by unfold F4; omega
   have hd2 : -x * -w - -y * -u=1:=by rw [Int.neg_mul_neg,Int.neg_mul_neg]; exact hdet
   have hc2:=QcO hdet
   rw [hch] at hc2
   repeat (first|refine VL ?_|refine Qd fun _=>?_|refine w_al fun _=>?_)
   rw [nx,ny,nu,nw]
   repeat (first|refine Qe ?_|refine Qd fun _=>?_|refine w_al fun _=>?_)
   exact Qj [] sym rfl (.cons (.cell 1 rfl rfl rfl) (.cons (.tmp rfl) .nil)) uc sb (.inl rfl) ⟨_,_,_,_,_,rfl,fun _=>⟨hF2,hd2,by rw [hc2,if_pos rfl]; omega⟩,rfl,rfl⟩
theorem Qcr {t:Bool} {n c:Nat} {p:Option Addr} (hn:n=0∨200 < n) (hm:n≤1000000000) :
  Ct Tryz.prog 8 [.agg #[.bool t,.slice p n c]] G U M fun v U' D=>∃ e:Int,v = .tuple #[.agg #[.int .i64 0,.int .i64 0,.int .i64 0,.int .i64 0],.int .i64 e]∧e≠0∧U=U'∧D=[]:=by
 refine Qo Tryz.func8 rfl rfl rfl rfl ?_
 repeat (first|refine Qe ?_|refine Qd fun _=>?_|refine w_al fun _=>?_)
 rename_i b1 b2
 refine Qn rfl (fun _=>?_) (fun h0=>?_)
 ·repeat (first|refine Qe ?_|refine Qd fun _=>?_|refine w_al fun _=>?_)
  exact Qj [] sym rfl (.cons (.cell 0 rfl rfl rfl) (.cons (.tmp rfl) .nil)) uc sb (.inl rfl) ⟨_,rfl,by decide,rfl,rfl⟩
 repeat (first|refine Qe ?_|refine Qd fun _=>?_|refine w_al fun _=>?_)
 refine Qn rfl (fun _=>?_) (fun h=>absurd h (by omega))
 repeat (first|refine Qe ?_|refine Qd fun _=>?_|refine w_al fun _=>?_)
 exact Qj [] sym rfl (.cons (.cell 0 rfl rfl rfl) (.cons (.tmp rfl) .nil)) uc sb (.inl rfl) ⟨_,rfl,by decide,rfl,rfl⟩
end Go.Proofs.YtnjpkncacddplaaGreatDoor

/- Walks of sl2: Factor, Abelian. -/
namespace Go.Proofs.YtnjpkncacddplaaGreatDoor
open Go.Hp Go.Chi
variable {G:World} {U U':UH} {M:MH}
set_option maxHeartbeats 4000000 in
theorem Qad {a b c d:Int} (hf:F4 a b c d) (hd:a*d - b*c=1) :
  Ct Tryz.prog 45 [.agg #[.int .i64 a,.int .i64 b,.int .i64 c,.int .i64 d]] G U M fun v U' D=>∃ (t:Bool) (s:Value) (k:Nat) (g:Nat→Int),v = .tuple #[.agg #[.bool t,s],.int .i64 0]∧Lo Vz TInt 1 (k+1) U' D s g∧k≤1073741824∧ch a b c d=(9*(k:Int)+ssum g (k+1)+(if t then 6 else 0)) % 12:=by
 refine Qo Tryz.func45 rfl rfl rfl rfl ?_
 repeat (first|refine Qe ?_|refine Qd fun _=>?_|refine w_al fun _=>?_)
 rename_i b1 b2
 refine Qi rfl rfl rfl rfl rfl rfl (fun _=>QaR hf hd) ?_
 rintro v9 U9 D9 hU9 ⟨rfl,rfl,rfl⟩
 rw [List.nil_append]
 repeat (first|refine Qe ?_|refine Qd fun _=>?_|refine w_al fun _=>?_)
 refine Qn rfl (fun h=>absurd rfl h) (fun _=>?_)
 repeat (first|refine Qe ?_|refine Qd fun _=>?_|refine w_al fun _=>?_)
 rename_i b5
 try refine qh (M':=(b5,.var (.agg #[.bool false,.slice none 0 0]),24)::(b2,.var (.agg #[.bool false,.slice none 0 0]),24)::(b1,.var (.agg #[.int .i64 a,.int .i64 b,.int .i64 c,.int .i64 d]),27)::(([])++M)) (ULe.refl _) sbk ?_
 refine QQ (fun z E U' M'=>∃ (k:Nat) (x y u w:Int) (Q:Option Addr) (C:Nat) (us:List Value) (D:MH) (g:Nat→Int),F4 x y u w∧x*w - y*u=1∧k+u.natAbs≤1073741824∧RowO TInt 1 D Q k C us∧El Vz U' us g∧ch a b c d=(ch x y u w+9*(k:Int)+ssum g k) % 12∧E=[(5,.pointer (some ⟨b5,0,none⟩)),(3,.int .i64 (0:Int)),(2,.pointer (some ⟨b2,0,none⟩)),(1,.pointer (some ⟨b1,0,none⟩))]∧ULe U U'∧M'=(b5,.var (.agg #[.bool false,.slice Q k C]),24)::(b2,.var (.agg #[.bool false,.slice none 0 0]),24)::(b1,.var (.agg #[.int .i64 x,.int .i64 y,.int .i64 u,.int .i64 w]),27)::(D++M)∧z=u.natAbs) (n0:=c.natAbs) (E0:=[(5,.pointer (some ⟨b5,0,none⟩)),(3,.int .i64 (0:Int)),(2,.pointer (some ⟨b2,0,none⟩)),(1,.pointer (some ⟨b1,0,none⟩))]) ⟨rfl,rfl,rfl,rfl,trivial⟩ ⟨0,a,b,c,d,none,0,[],[],(fun _=>0),hf,hd,(by have:=hf.2.2.1; omega),RowO.nil,El.nil,(by have:=yz a b c d; show _=(_+9*0+0) % 12; omega),rfl,uc,rfl,rfl⟩ ?_
 rintro z E U1 M' ⟨k,x,y,u,w,Q,C,us,D,g,hF,hdet,hk,hrow,hel,hch,rfl,hU1,rfl,rfl⟩
 try refine Qb ?_
 have hF':=hF
 obtain ⟨g1,g2,g3,g4⟩:=hF'
 refine Qn rfl (fun h=>?_) (fun h=>?_)
 ·have hu0:u≠0:=h
  repeat (first|refine Qe ?_|refine Qd fun _=>?_|refine w_al fun _=>?_)
  refine Qi rfl rfl rfl rfl rfl rfl (fun _=>vB g1 g3 hu0) ?_
  rintro v22 U22 D22 hU22 ⟨q,r,rfl,hq,hr,rfl,rfl⟩
  rw [List.nil_append]
  have hsm:=QaW hdet hq hr hu0
  have hd2:=jE hdet hq
  have hc2:=Qfm hdet hq
  have hqb:q.natAbs≤1610612736:=by
   have e1:(q*u).natAbs=q.natAbs*u.natAbs:=Int.natAbs_mul q u
   have e2:q.natAbs*1≤q.natAbs*u.natAbs:=Nat.mul_le_mul_left _ (by omega)
   have e3:2*(q*u).natAbs≤2*x.natAbs+u.natAbs:=by omega
   omega
  have m1:=mulb (c:=1610612736) (d:=1073741824) (show -1610612736≤q∧q≤1610612736 by omega) g4
  have nr:IntKind.i64.wrap (0 - r) = -r:=negZ64 (by omega)
  repeat (first|refine Qe ?_|refine Qd fun _=>?_|refine w_al fun _=>?_)
  refine QdU hrow (X:=(b5,.var (.agg #[.bool false,.slice Q k C]),24)::(b2,.var (.agg #[.bool false,.slice none 0 0]),24)::(b1,.var (.agg #[.int .i64 x,.int .i64 y,.int .i64 u,.int .i64 w]),27)::M) pgs (fun b P2 C2 D2 hr2=>?_)
  refine JL (M':=(b5,.var (.agg #[.bool false,.slice Q k C]),24)::(b2,.var (.agg #[.bool false,.slice none 0 0]),24)::(b1,.var (.agg #[.int .i64 x,.int .i64 y,.int .i64 u,.int .i64 w]),27)::(D2++M)) ?_ pgs
  try refine Qb ?_
  refine Ye 0 sym rfl rfl rfl rfl rfl rfl rfl rfl rfl rfl rfl ?_
  repeat (first|refine VL ?_|refine Qd fun _=>?_|refine w_al fun _=>?_)
  rw [nr]
  repeat (first|refine Qe ?_|refine Qd fun _=>?_|refine w_al fun _=>?_)
  have hg2:ssum (fun j=>if j=k then q else g j) k=ssum g k:=VP fun j hj=>if_neg (by omega)
  refine QD (E':=[(5,.pointer (some ⟨b5,0,none⟩)),(3,.int .i64 (0:Int)),(2,.pointer (some ⟨b2,0,none⟩)),(1,.pointer (some ⟨b1,0,none⟩))]) (m:=(-r).natAbs) ⟨rfl,rfl,rfl,rfl,trivial⟩ (by omega) ⟨k+1,u,w,-r,q*w - y,P2,C2,_,D2,(fun j=>if j=k then q else g j),⟨g3,g4,by omega,by omega⟩,hd2,(by omega),hr2,Qbr hrow.len.1 (fun j v hj=>by
   have h5:=hrow.len.1
   have h6:=(List.getElem?_eq_some_iff.1 hj).1
   have h7:=hel j v hj
   rw [← show (if j=k then q else g j)=g j from if_neg (by omega)] at h7
   exact h7) ⟨by rw [if_pos rfl],by rw [if_pos rfl]; omega⟩,(by
    show _=(ch u w (-r) (q*w - y)+9*((k+1:Nat):Int)+(ssum (fun j=>if j=k then q else g j) k+(if k=k then q else g k))) % 12
    rw [hg2,if_pos rfl]
    omega),rfl,uc,rfl,rfl⟩
 ·obtain rfl:u=0:=Classical.not_not.1 h
  obtain ⟨hx,hw,hc2⟩:=Qfh hdet
  obtain rfl:x=w:=hw.symm
  have m1 : -1073741824≤x*y∧x*y≤1073741824:=by rcases hx with rfl | rfl<;>omega
  repeat (first|refine Qe ?_|refine Qd fun _=>?_|refine w_al fun _=>?_)
  refine Ye 0 sym rfl rfl rfl rfl rfl rfl rfl rfl rfl rfl rfl ?_
  repeat (first|refine Qe ?_|refine Qd fun _=>?_|refine w_al fun _=>?_)
  refine JL (M':=(b5,.var (.agg #[.bool (dec (x < 0)),.slice Q k C]),24)::(b2,.var (.agg #[.bool false,.slice none 0 0]),24)::(b1,.var (.agg #[.int .i64 x,.int .i64 y,.int .i64 0,.int .i64 x]),27)::(D++M)) ?_ (List.Perm.refl _)
  refine QdU hrow (X:=(b5,.var (.agg #[.bool (dec (x < 0)),.slice Q k C]),24)::(b2,.var (.agg #[.bool false,.slice none 0 0]),24)::(b1,.var (.agg #[.int .i64 x,.int .i64 y,.int .i64 0,.int .i64 x]),27)::M) pgs (fun b P2 C2 D2 hr2=>?_)
  refine JL (M':=(b5,.var (.agg #[.bool (dec (x < 0)),.slice Q k C]),24)::(b2,.var (.agg #[.bool false,.slice none 0 0]),24)::(b1,.var (.agg #[.int .i64 x,.int .i64 y,.int .i64 0,.int .i64 x]),27)::(D2++M)) ?_ pgs
  try refine Qb ?_
  refine Ye 0 sym rfl rfl rfl rfl rfl rfl rfl rfl rfl rfl rfl ?_
  repeat (first|refine Qe ?_|refine Qd fun _=>?_|refine w_al fun _=>?_)
  have hg2:ssum (fun j=>if j=k then x*y else g j) k=ssum g k:=VP fun j hj=>if_neg (by omega)
  exact Qj D2 sym rfl (.cons (.cell 1 rfl rfl rfl) (.cons (.tmp rfl) .nil)) uc (List.Sublist.cons _ (List.Sublist.cons _ (List.Sublist.cons _ (List.Sublist.refl _)))) (.inl rfl) ⟨dec (x < 0),_,k,(fun j=>if j=k then x*y else g j),rfl,⟨P2,C2,_,rfl,hr2,Qbr hrow.len.1 (fun j v hj=>by
   have h5:=hrow.len.1
   have h6:=(List.getElem?_eq_some_iff.1 hj).1
   have h7:=hel j v hj
   rw [← show (if j=k then x*y else g j)=g j from if_neg (by omega)] at h7
   exact h7) ⟨by rw [if_pos rfl],by rw [if_pos rfl]; omega⟩⟩,by omega,by
    show _=(9*(k:Int)+(ssum (fun j=>if j=k then x*y else g j) k+(if k=k then x*y else g k))+_) % 12
    rw [hg2,if_pos rfl,hch,hc2]
    by_cases h5:x < 0
    ·rw [Qdv h5,if_pos h5,if_pos rfl]; omega
    ·rw [Qcp h5,if_neg h5,if_neg (by decide)]; omega⟩
theorem Qav {a b c d:Int} (hf:F4 a b c d) (hd:a*d - b*c=1) :
  Ct Tryz.prog 45 [.agg #[.int .i64 a,.int .i64 b,.int .i64 c,.int .i64 d]] G U M fun v U' D=>∃ (t:Bool) (s:Value) (k:Nat) (g:Nat→Int),v = .tuple #[.agg #[.bool t,s],.int .i64 0]∧Ls Vz 1 (k+1) U' [] s g∧k≤1073741824∧ch a b c d=(9*(k:Int)+ssum g (k+1)+(if t then 6 else 0)) % 12∧D=[] :=
 (Qad hf hd).settle.mono fun _ _ _ _ ⟨h1,_,_,⟨t,s,k,g,h2,h3,h4,h5⟩,_,h6,h7⟩=>⟨t,s,k,g,h2,h3.sett KeptC.out h6 h7,h4,h5,h1⟩
theorem tmod12 (z:Int):(z.tmod 12) % 12=z % 12 ∧ -12 < z.tmod 12∧z.tmod 12 < 12:=by
 obtain ⟨⟨k,h1⟩,h2,h3⟩:=tmodZ z 12 (by decide)
 omega
set_option maxHeartbeats 4000000 in
theorem vm {a b c d:Int} (hf:F4 a b c d) (hd:a*d - b*c=1) :
  Ct Tryz.prog 9 [.agg #[.int .i64 a,.int .i64 b,.int .i64 c,.int .i64 d]] G U M fun v U' D=>v = .tuple #[.int .i64 (ch a b c d),.int .i64 0]∧ULe U U'∧D=[]:=by
 refine Qo Tryz.func9 rfl rfl rfl rfl ?_
 repeat (first|refine Qe ?_|refine Qd fun _=>?_|refine w_al fun _=>?_)
 rename_i b1
 refine Qi rfl rfl rfl rfl rfl rfl (fun _=>Qav hf hd) ?_
 rintro v9 U9 D9 hU9 ⟨t,s,k,g,rfl,⟨p,cc,vs,rfl,hcc,rw1,el⟩,hk,hch,rfl⟩
 rw [List.nil_append]
 repeat (first|refine Qe ?_|refine Qd fun _=>?_|refine w_al fun _=>?_)
 rename_i b4
 refine Qn rfl (fun h=>absurd rfl h) (fun _=>?_)
 repeat (first|refine Qe ?_|refine Qd fun _=>?_|refine w_al fun _=>?_)
 try refine qh (M':=(b4,.var (.agg #[.bool t,.slice p (k+1) cc]),24)::M) (ULe.refl _) sbk ?_
 refine QQ (fun z E U' M'=>∃ (i:Nat) (s:Int),i≤k+1∧s % 12=(9*(k:Int)+ssum g i) % 12 ∧ -12*(i:Int)≤s - 9*k∧s - 9*k≤12*i∧E=[(25,.int .i64 (i:Int)),(24,.int .i64 ((k+1):Int)),(23,.slice p (k+1) cc),(6,.int .i64 s),(4,.pointer (some ⟨b4,0,none⟩))]∧ULe U9 U'∧M'=(b4,.var (.agg #[.bool t,.slice p (k+1) cc]),24)::M∧z=k+1 - i) (n0:=k+1 - 0) (E0:=[(25,.int .i64 ((0:Nat):Int)),(24,.int .i64 ((k+1):Int)),(23,.slice p (k+1) cc),(6,.int .i64 ((9*(((k+1:Nat):Int) - 1)))),(4,.pointer (some ⟨b4,0,none⟩))]) ⟨rfl,rfl,rfl,rfl,rfl,trivial⟩ ⟨0,(9*(((k+1:Nat):Int) - 1)),(by omega),(by show _=(9*(k:Int)+0) % 12; omega),(by omega),(by omega),rfl,uc,rfl,rfl⟩ ?_
 rintro z E U1 M' ⟨i,s,hi,h1,h2,h3,rfl,hU1,rfl,rfl⟩
 try refine Qb ?_
 refine Qn rfl (fun h=>?_) (fun h=>?_)
 ·have hin:i < k+1:=by omega
  obtain ⟨v1,hv1⟩:=rw1.at hin
  obtain ⟨rfl,hz⟩:=el _ _ hv1
  obtain ⟨t1,t2,t3⟩:=tmod12 (g i)
  repeat (first|refine Qe ?_|refine Qd fun _=>?_|refine w_al fun _=>?_)
  refine sl_y (Yy sym rfl rfl rfl rfl rfl rfl ((rw1.up uc sb).lt hv1) ((rw1.up uc sb).get _ _ hv1).1) rfl rfl rfl rfl ?_; refine sl_y (Vv sym rfl rfl rfl rfl (rw1.up uc sb) hv1 rfl) rfl rfl rfl rfl ?_
  repeat (first|refine Qe ?_|refine Qd fun _=>?_|refine w_al fun _=>?_)
  exact QD (E':=[(25,.int .i64 ((i:Int)+1)),(24,.int .i64 ((k+1):Int)),(23,.slice p (k+1) cc),(6,.int .i64 (s+(g i).tmod 12)),(4,.pointer (some ⟨b4,0,none⟩))]) (m:=k+1 - (i+1)) ⟨rfl,rfl,rfl,rfl,rfl,trivial⟩ (by omega) ⟨i+1,s+(g i).tmod 12,by omega,(by show _=(9*(k:Int)+(ssum g i+g i)) % 12; omega),by omega,by omega,rfl,uc,rfl,rfl⟩
 obtain rfl:k+1=i:=by omega
 have fin:∀ z:Int,(9*(k:Int)+ssum g (k+1)+(if t then 6 else 0)) % 12=z % 12→((z.tmod 12)+12).tmod 12=ch a b c d:=fun z hz=>by
  obtain ⟨t1,t2,t3⟩:=tmod12 z
  rw [Int.tmod_eq_emod_of_nonneg (by omega),hch,hz]; omega
 repeat (first|refine Qe ?_|refine Qd fun _=>?_|refine w_al fun _=>?_)
 cases t
 ·obtain ⟨t1,t2,t3⟩:=tmod12 s
  have f1:=fin s (by rw [if_neg (by decide)]; omega)
  repeat (first|refine Qe ?_|refine Qd fun _=>?_|refine w_al fun _=>?_)
  rw [f1]
  repeat (first|refine Qe ?_|refine Qd fun _=>?_|refine w_al fun _=>?_)
  exact Qj [] sym rfl (.cons (.tmp rfl) (.cons (.tmp rfl) .nil)) uc sb (.inl rfl) ⟨rfl,uc,rfl⟩
 ·obtain ⟨t1,t2,t3⟩:=tmod12 (s+6)
  have f1:=fin (s+6) (by rw [if_pos rfl]; omega)
  repeat (first|refine Qe ?_|refine Qd fun _=>?_|refine w_al fun _=>?_)
  rw [f1]
  repeat (first|refine Qe ?_|refine Qd fun _=>?_|refine w_al fun _=>?_)
  exact Qj [] sym rfl (.cons (.tmp rfl) (.cons (.tmp rfl) .nil)) uc sb (.inl rfl) ⟨rfl,uc,rfl⟩
end Go.Proofs.YtnjpkncacddplaaGreatDoor

/- The law TopAbelian: the walk. -/
namespace Go.Proofs.YtnjpkncacddplaaGreatDoor
open Go.Hp Go.Gx Go.Chi
variable {G:World} {U U':UH} {M:MH}
set_option maxHeartbeats 8000000 in
theorem yk (hQ:TabOK Tryz.prog tys tb U) {t:Bool} {n c:Nat} {p:Option Addr} {vs:List Value} {f:Nat→Int} (rw1:RowAt U [] 1 p n vs) (el:El Vz U vs f) (hm:n≤9223372036854775807) :
  Ct Tryz.prog 3 [.agg #[.bool t,.slice p n c]] G U M fun v _ _=>v = .bool true:=by
 refine Qo Tryz.func3 rfl rfl rfl rfl ?_
 repeat (first|refine Qe ?_|refine Qd fun _=>?_|refine w_al fun _=>?_)
 rename_i b1
 refine Qi rfl rfl rfl rfl rfl rfl (fun _=>QcD (TabOK.more hQ uc)) ?_
 rintro v12 U12 D12 hU12 ⟨rfl,rfl⟩
 refine QeL (List.sublist_append_right D12 _) ?_
 repeat (first|refine Qe ?_|refine Qd fun _=>?_|refine w_al fun _=>?_)
 refine Qn rfl (fun h=>?_) (fun h300=>?_)
 ·repeat (first|refine Qe ?_|refine Qd fun _=>?_|refine w_al fun _=>?_)
  exact Qj [] sym rfl (.cons (.tmp rfl) .nil) uc sb (.inl rfl) rfl
 repeat (first|refine Qe ?_|refine Qd fun _=>?_|refine w_al fun _=>?_)
 by_cases hn:n=0∨200 < n
 ·refine Qi rfl rfl rfl rfl rfl rfl (fun _=>Qcr hn (by omega)) ?_
  rintro v20 U20 D20 hU20 ⟨e,rfl,he,rfl,rfl⟩
  rw [List.nil_append]
  repeat (first|refine Qe ?_|refine Qd fun _=>?_|refine w_al fun _=>?_)
  refine Qn rfl (fun h=>?_) (fun h=>absurd he h)
  repeat (first|refine Qe ?_|refine Qd fun _=>?_|refine w_al fun _=>?_)
  exact Qj [] sym rfl (.cons (.tmp rfl) .nil) uc sb (.inl rfl) rfl
 have hn1:1≤n:=by omega
 have hn2:n≤200:=by omega
 refine Qi rfl rfl rfl rfl rfl rfl (fun _=>QaV (rw1.up uc (List.nil_sublist _)) (el.up KeptC.out uc) hn2 hn1) ?_
 rintro v20 U20 D20 hU20 ⟨x,y,u,w,e,rfl,hok,rfl,rfl⟩
 rw [List.nil_append]
 repeat (first|refine Qe ?_|refine Qd fun _=>?_|refine w_al fun _=>?_)
 refine Qn rfl (fun h=>?_) (fun h=>?_)
 ·repeat (first|refine Qe ?_|refine Qd fun _=>?_|refine w_al fun _=>?_)
  exact Qj [] sym rfl (.cons (.tmp rfl) .nil) uc sb (.inl rfl) rfl
 obtain rfl:e=0:=Classical.not_not.1 h
 obtain ⟨hF,hdet,hch⟩:=hok rfl
 repeat (first|refine Qe ?_|refine Qd fun _=>?_|refine w_al fun _=>?_)
 rename_i b3
 refine Qi rfl rfl rfl rfl rfl rfl (fun _=>vm hF hdet) ?_
 rintro v27 U27 D27 hU27 ⟨rfl,-,rfl⟩
 rw [List.nil_append]
 repeat (first|refine Qe ?_|refine Qd fun _=>?_|refine w_al fun _=>?_)
 refine Qi rfl rfl rfl rfl rfl rfl (fun _=>(Qag (z:=9*((n:Int) - 1)) (by omega) (by omega)).settle) ?_
 rintro v Uh35 D hU ⟨rfl,_,_,⟨xh35,rfl,h35,-⟩,-,-,hs⟩
 replace h35:=h35.sett hs
 clear hs
 repeat (first|refine Qe ?_|refine Qd fun _=>?_|refine w_al fun _=>?_)
 rename_i b7
 have hsb:∀ i,i≤n → -(9223372036854775808*(i:Int))≤ssum f i∧ssum f i≤9223372036854775808*i:=fun i=>by
  induction i with
  | zero=>intro _; show -(9223372036854775808*((0:Nat):Int))≤0∧0≤9223372036854775808*((0:Nat):Int); omega
  | succ i ih =>
   intro hi
   have h1:=ih (by omega)
   obtain ⟨v1,hv1⟩:=rw1.at (show i < n by omega)
   have h2:=(el _ _ hv1).2
   show _≤ssum f i+f i∧ssum f i+f i≤_
   omega
 have hsz:∀ i,i≤n→∀ e:Int,0≤e→e≤6→Sz (9*((n:Int) - 1)+ssum f i+e) 3:=fun i hi e h0 h6=>by
  have:=hsb i hi
  unfold Sz; omega
 try refine qh (M':=(b7,.var xh35.v,35)::(b3,.var (.agg #[.int .i64 x,.int .i64 y,.int .i64 u,.int .i64 w]),27)::(b1,.var (.agg #[.bool t,.slice p n c]),24)::M) (ULe.refl _) sbk ?_
 refine QQ (fun z E U' M'=>∃ (i:Nat) (xs:IV),i≤n∧xs.nrm U' [] (9*((n:Int) - 1)+ssum f i)∧E=[(8,.int .i64 (i:Int)),(7,.pointer (some ⟨b7,0,none⟩)),(6,.int .i64 (0:Int)),(5,.int .i64 (ch x y u w)),(3,.pointer (some ⟨b3,0,none⟩)),(1,.pointer (some ⟨b1,0,none⟩))]∧ULe U27 U'∧M'=(b7,.var xs.v,35)::(b3,.var (.agg #[.int .i64 x,.int .i64 y,.int .i64 u,.int .i64 w]),27)::(b1,.var (.agg #[.bool t,.slice p n c]),24)::M∧z=n - i) (n0:=n - 0) (E0:=[(8,.int .i64 ((0:Nat):Int)),(7,.pointer (some ⟨b7,0,none⟩)),(6,.int .i64 (0:Int)),(5,.int .i64 (ch x y u w)),(3,.pointer (some ⟨b3,0,none⟩)),(1,.pointer (some ⟨b1,0,none⟩))]) ⟨rfl,rfl,rfl,rfl,rfl,rfl,trivial⟩ ⟨0,xh35,(by omega),(by rw [show ssum f 0=0 from rfl,Int.add_zero]; exact h35),rfl,uc,rfl,rfl⟩ ?_
 rintro z E U1 M' ⟨i,xs,hi,hxs,rfl,hU1,rfl,rfl⟩
 try refine Qb ?_
 have hcl:=yz x y u w
 have fin:∀ (b:Int),(if t then 6 else 0)=b→(9*((n:Int) - 1)+ssum f n+b) % 12=ch x y u w:=fun b hb=>by rw [hch,hb]
 refine Qn rfl (fun h=>?_) (fun h=>?_)
 ·have hin:i < n:=by omega
  obtain ⟨v1,hv1⟩:=rw1.at hin
  obtain ⟨rfl,hz⟩:=el _ _ hv1
  have sx:=hsz i (by omega) 0 (by omega) (by omega)
  have sf:Sz (f i) 2:=by unfold Sz; omega
  rw [Int.add_zero] at sx
  repeat (first|refine Qe ?_|refine Qd fun _=>?_|refine w_al fun _=>?_)
  refine Vn [7,8] [0,1,2,3,4,5,6,7,8] sym (by kernel_rfl) ?_
  repeat (first|refine Qe ?_|refine Qd fun _=>?_|refine w_al fun _=>?_)
  refine sl_y (Yy sym rfl rfl rfl rfl rfl rfl ((rw1.up uc sb).lt hv1) ((rw1.up uc sb).get _ _ hv1).1) rfl rfl rfl rfl ?_; refine sl_y (Vv sym rfl rfl rfl rfl (rw1.up uc sb) hv1 rfl) rfl rfl rfl rfl ?_
  repeat (first|refine Qe ?_|refine Qd fun _=>?_|refine w_al fun _=>?_)
  refine Qi rfl rfl rfl rfl rfl rfl (fun _=>(Qag hz.1 hz.2).settle) ?_
  rintro v Uh49 D hU ⟨rfl,_,_,⟨xh49,rfl,h49,-⟩,-,-,hs⟩
  replace h49:=h49.sett hs
  clear hs
  repeat (first|refine Qe ?_|refine Qd fun _=>?_|refine w_al fun _=>?_)
  refine Qi rfl rfl rfl rfl rfl rfl (fun _=>(QdZ (hxs.rep.up uc (List.nil_sublist _)) (hxs.le sx (by omega)) (h49.rep.up uc (List.nil_sublist _)) (h49.le sf (by omega))).settle) ?_
  rintro v Uh50 D hU ⟨rfl,_,_,⟨xh50,rfl,h50,-⟩,-,-,hs⟩
  replace h50:=h50.sett hs
  clear hs
  repeat (first|refine Qe ?_|refine Qd fun _=>?_|refine w_al fun _=>?_)
  exact QD (E':=[(8,.int .i64 ((i:Int)+1)),(7,.pointer (some ⟨b7,0,none⟩)),(6,.int .i64 (0:Int)),(5,.int .i64 (ch x y u w)),(3,.pointer (some ⟨b3,0,none⟩)),(1,.pointer (some ⟨b1,0,none⟩))]) (m:=n - (i+1)) ⟨rfl,rfl,rfl,rfl,rfl,rfl,trivial⟩ (by omega) ⟨i+1,xh50,by omega,(by rw [show ssum f (i+1)=ssum f i+f i from rfl,← Int.add_assoc]; exact h50),rfl,uc,rfl,rfl⟩
 obtain rfl:n=i:=by omega
 repeat (first|refine VL ?_|refine Qd fun _=>?_|refine w_al fun _=>?_)
 refine QG (fun E U' M'=>∃ (xs:IV) (b:Int),xs.nrm U' [] (9*((n:Int) - 1)+ssum f n+b)∧(if t then (6:Int) else 0)=b∧0≤b∧b≤6∧E=[(7,.pointer (some ⟨b7,0,none⟩)),(6,.int .i64 (0:Int)),(5,.int .i64 (ch x y u w))]∧ULe U27 U'∧M'=(b7,.var xs.v,35)::(b3,.var (.agg #[.int .i64 x,.int .i64 y,.int .i64 u,.int .i64 w]),27)::(b1,.var (.agg #[.bool t,.slice p n c]),24)::M) ?_ ?_
 ·repeat (first|refine Qe ?_|refine Qd fun _=>?_|refine w_al fun _=>?_)
  cases t
  ·repeat (first|refine Qe ?_|refine Qd fun _=>?_|refine w_al fun _=>?_)
   exact QI (E':=[(7,.pointer (some ⟨b7,0,none⟩)),(6,.int .i64 (0:Int)),(5,.int .i64 (ch x y u w))]) ⟨rfl,rfl,rfl,trivial⟩ ⟨xs,0,(by rw [Int.add_zero]; exact hxs),rfl,(by decide),(by decide),rfl,uc,rfl⟩
  ·repeat (first|refine VL ?_|refine Qd fun _=>?_|refine w_al fun _=>?_)
   have sx:=hsz n hi 0 (by omega) (by omega)
   rw [Int.add_zero] at sx
   repeat (first|refine Qe ?_|refine Qd fun _=>?_|refine w_al fun _=>?_)
   refine Vn [2,3] [0,1,2,3] sym (by kernel_rfl) ?_
   repeat (first|refine Qe ?_|refine Qd fun _=>?_|refine w_al fun _=>?_)
   refine Qi rfl rfl rfl rfl rfl rfl (fun _=>(Qag (z:=6) (by omega) (by omega)).settle) ?_
   rintro v Uh54 D hU ⟨rfl,_,_,⟨xh54,rfl,h54,-⟩,-,-,hs⟩
   replace h54:=h54.sett hs
   clear hs
   repeat (first|refine Qe ?_|refine Qd fun _=>?_|refine w_al fun _=>?_)
   refine Qi rfl rfl rfl rfl rfl rfl (fun _=>(QdZ (hxs.rep.up uc (List.nil_sublist _)) (hxs.le sx (by omega)) (h54.rep.up uc (List.nil_sublist _)) (h54.le (k:=1) (by unfold Sz; decide) (by omega))).settle) ?_
   rintro v Uh55 D hU ⟨rfl,_,_,⟨xh55,rfl,h55,-⟩,-,-,hs⟩
   replace h55:=h55.sett hs
   clear hs
   repeat (first|refine Qe ?_|refine Qd fun _=>?_|refine w_al fun _=>?_)
   exact QI (E':=[(7,.pointer (some ⟨b7,0,none⟩)),(6,.int .i64 (0:Int)),(5,.int .i64 (ch x y u w))]) ⟨rfl,rfl,rfl,trivial⟩ ⟨xh55,6,h55,rfl,(by decide),(by decide),rfl,uc,rfl⟩
 rintro E U2 M' ⟨xs,b,hxs,hb,hb0,hb6,rfl,hU2,rfl⟩
 have sx:=hsz n hi b hb0 hb6
 try refine Qb ?_
 refine Vn [9,10,11] [0,1,2,3,4,5,6,7,8,9,10,11] sym (by kernel_rfl) ?_
 repeat (first|refine Qe ?_|refine Qd fun _=>?_|refine w_al fun _=>?_)
 refine Qi rfl rfl rfl rfl rfl rfl (fun _=>(Qag (z:=12) (by omega) (by omega)).settle) ?_
 rintro v Uh58 D hU ⟨rfl,_,_,⟨xh58,rfl,h58,-⟩,-,-,hs⟩
 replace h58:=h58.sett hs
 clear hs
 repeat (first|refine Qe ?_|refine Qd fun _=>?_|refine w_al fun _=>?_)
 refine Qi rfl rfl rfl rfl rfl rfl (fun _=>Qct (hxs.rep.up uc (List.nil_sublist _)) (hxs.le sx (by omega)) (h58.rep.up uc (List.nil_sublist _)) (h58.le (k:=1) (by unfold Sz; decide) (by omega)) (by decide)) ?_
 rintro v59 U59 D59 hU59 ⟨xq,xr,rfl,hq,hr,rfl⟩
 try rw [List.nil_append]
 repeat (first|refine Qe ?_|refine Qd fun _=>?_|refine w_al fun _=>?_)
 rw [fin b hb] at hr
 refine Vn [3,4,5,10,11,12] [0,1,2,3,4,5,6,7,8,9,10,11,12] sym (by kernel_rfl) ?_
 repeat (first|refine Qe ?_|refine Qd fun _=>?_|refine w_al fun _=>?_)
 refine YP rfl rfl (fun _=>?_) (fun h=>absurd rfl h)
 repeat (first|refine Qe ?_|refine Qd fun _=>?_|refine w_al fun _=>?_)
 refine YP rfl rfl (fun _=>?_) (fun h=>absurd rfl h)
 repeat (first|refine Qe ?_|refine Qd fun _=>?_|refine w_al fun _=>?_)
 refine Qi rfl rfl rfl rfl rfl rfl (fun _=>(Qag (z:=ch x y u w) (by omega) (by omega)).settle) ?_
 rintro v Uh72 D hU ⟨rfl,_,_,⟨xh72,rfl,h72,-⟩,-,-,hs⟩
 replace h72:=h72.sett hs
 clear hs
 repeat (first|refine Qe ?_|refine Qd fun _=>?_|refine w_al fun _=>?_)
 refine Qi rfl rfl rfl rfl rfl rfl (fun _=>QdE (hr.up uc (List.nil_sublist _)) (h72.up uc (List.nil_sublist _))) ?_
 rintro v U' D hU ⟨rfl,rfl,rfl⟩
 repeat (first|refine Qe ?_|refine Qd fun _=>?_|refine w_al fun _=>?_)
 exact Qj [] sym rfl (.cons (.tmp rfl) .nil) uc sb (.inl rfl) (by show Value.bool (decide (ch x y u w=ch x y u w))=_; rw [decide_eq_true rfl])
end Go.Proofs.YtnjpkncacddplaaGreatDoor
