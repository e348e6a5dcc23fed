/- Texts of this seat's own, merged: each begins with its own remark. -/
import Derived.Test.YtnjpkncacddplaaGreatM8
import Derived.Test.YtnjpkncacddplaaGreatM4
import Derived.Test.YtnjpkncacddplaaGreatM130
import Derived.Test.YtnjpkncacddplaaGreatM1
/- Walks: square roots. -/
namespace Go.Proofs.YtnjpkncacddplaaGreat
open Go.Hp
variable {G:World} {U:UH} {M:MH}
theorem QgJ {a b:Nat}:4*(a*b)≤(a+b)*(a+b):=by
 rcases Nat.le_total a b with h | h
 ·obtain ⟨d,rfl⟩:∃ d,b=a+d:=⟨b - a,by omega⟩
  have:(a+(a+d))*(a+(a+d))=4*(a*(a+d))+d*d:=by grind
  omega
 ·obtain ⟨d,rfl⟩:∃ d,a=b+d:=⟨a - b,by omega⟩
  have:(b+d+b)*(b+d+b)=4*((b+d)*b)+d*d:=by grind
  omega
theorem newton {A x t:Nat} (hx:0 < x) (h:t*t≤A):t≤(x+A / x) / 2:=by
 rcases Nat.lt_or_ge ((x+A / x) / 2) t with hlt | hge
 ·exfalso
  have h1:A < (A / x+1)*x:=by
   have:=Nat.mod_lt A hx
   have h2:=Nat.div_add_mod A x
   rw [Nat.add_mul,Nat.mul_comm (A / x)]
   omega
  have h2:x+A / x+1≤2*t:=by omega
  have h3:=QgJ (a:=A / x+1) (b:=x)
  have h4:(A / x+1+x)*(A / x+1+x)≤(2*t)*(2*t):=Nat.mul_le_mul (by omega) (by omega)
  have h5:(2*t)*(2*t)=4*(t*t):=by grind
  omega
 ·exact hge
theorem QcR {A x:Nat} (h:x≤(x+A / x) / 2):x*x≤A:=by
 have h1:x≤A / x:=by omega
 exact Nat.le_trans (Nat.mul_le_mul_right x h1) (Nat.div_mul_le_self A x)
theorem Qfs:zeroIV.own [] 0:=⟨[],Own.nil,Cn.nil,rfl,rfl⟩
theorem rot44 {α:Type} {R:List α} {o p q r x y z u:α}:(o::p::q::r::x::y::z::u::R).Perm (x::y::z::u::o::p::q::r::R):=perm4 (D:=[o,p,q,r]) (M:=R)
theorem QhZ {x:IV} {z:Int} (hx:x.rep U M z) (hn:x.n≤1000) :
  Ct Tryz.prog 36 [x.v] G U M fun v U' D=>∃ (r:IV) (b:Bool) (e:Int),v = .tuple #[r.v,.bool b,.int .i64 e]∧(z < 0→e=2∧b=false∧r=zeroIV∧D=[]) ∧
   (0≤z→e=0∧∃ R:Nat,r.own D (R:Int)∧R*R≤z.natAbs∧z.natAbs < (R+1)*(R+1)∧(b=true↔R*R=z.natAbs))∧ULe U U':=by
 have hUc:=ULe.refl U
 refine Qg Tryz.func36 rfl rfl rfl rfl ?_
 repeat (first|refine Qb ?_|refine Qa fun _=>?_|refine w_al fun _=>?_)
 rename_i b1 b2
 refine Qd rfl rfl rfl rfl rfl rfl (fun _=>YW (hx.up hUc sb) (Nat.le_trans hn (by decide))) ?_
 rintro v U' D hU ⟨rfl,rfl,rfl⟩
 repeat (first|refine Qb ?_|refine Qa fun _=>?_|refine w_al fun _=>?_)
 by_cases hz:z < 0
 ·refine Qh rfl (fun _=>?_) (fun h=>absurd (by rw [Int.sign_eq_neg_one_of_neg hz]; decide) h)
  repeat (first|refine Qb ?_|refine Qa fun _=>?_|refine w_al fun _=>?_)
  exact Qe [] sym rfl (.cons (.cell 0 rfl rfl rfl) (.cons (.tmp rfl) (.cons (.tmp rfl) .nil))) hUc sb (.inl rfl) ⟨zeroIV,false,2,rfl,fun _=>⟨rfl,rfl,rfl,rfl⟩,fun h=>absurd hz (by omega),hUc⟩
 refine Qh rfl (fun h=>absurd h (by have:=Int.sign_nonneg_iff.2 (show (0:Int)≤z by omega); omega)) (fun _=>?_)
 obtain ⟨A,rfl⟩:∃ A:Nat,z=(A:Int):=⟨z.toNat,by omega⟩
 have sA:=hx.sz (Nat.le_refl _)
 have hbA:blen ((A:Int)).natAbs≤32*x.n:=by
  obtain ⟨l,hd,hl⟩:=hx
  rw [hl,Js,← hd.len]
  exact jO hd.bd
 have hbA0:=hbA
 rw [Int.natAbs_natCast] at hbA ⊢
 have hAb:=YT A
 obtain ⟨K,hK⟩:∃ K,(blen A+1) / 2=K:=⟨_,rfl⟩
 have hK16:K≤16*x.n+1:=by omega
 have e1:IntKind.i64.wrap (((blen ((A:Int)).natAbs:Int)+1).tdiv 2)=((K:Nat):Int):=by
  rw [Int.natAbs_natCast,Int.tdiv_eq_ediv_of_nonneg (by omega),jr (by omega) (by simp only [kmax]; omega)]; omega
 have hA2:A < 2 ^ K*2 ^ K:=by
  rw [← Nat.pow_add]
  exact Nat.lt_of_lt_of_le hAb (Nat.pow_le_pow_right (by decide) (by omega))
 have hb2:blen ((2:Int)).natAbs=2:=Qat (k:=1) (by decide) (by decide)
 have s2:Sz 2 1:=by unfold Sz; decide
 repeat (first|refine Qb ?_|refine Qa fun _=>?_|refine w_al fun _=>?_)
 refine Qz [1,0,2,3,4,5,6,7,8,9,10,11] sym (by kernel_rfl) ?_
 repeat (first|refine Qb ?_|refine Qa fun _=>?_|refine w_al fun _=>?_)
 refine Qd rfl rfl rfl rfl rfl rfl (fun _=>qy (z:=2) (by decide) (by decide)) ?_
 rintro v U' Dh2 hU ⟨xh2,rfl,h2,rfl⟩
 refine Qn ?_ (perm2 (D:=Dh2))
 repeat (first|refine Qb ?_|refine Qa fun _=>?_|refine w_al fun _=>?_)
 refine Qd rfl rfl rfl rfl rfl rfl (fun _=>QdD (hx.up hUc sb) (Nat.le_trans hn (by decide))) ?_
 rintro v U' D hU ⟨rfl,rfl,rfl⟩
 repeat (first|refine Qb ?_|refine Qa fun _=>?_|refine w_al fun _=>?_)
 rw [e1]
 refine Qd rfl rfl rfl rfl rfl rfl (fun _=>Qjo (h2.at sb).rep (h2.le s2 (by decide)) (by omega) (by omega)) ?_
 rintro v U' D3 hU ⟨r,e,rfl,-,-,hP,rfl⟩
 obtain ⟨rfl,h3⟩:=hP (by omega) (by rw [hb2,Int.toNat_natCast]; omega)
 rw [Int.toNat_natCast,show (2:Int) ^ K=((2 ^ K:Nat):Int) by simp] at h3
 refine Qn ?_ (perm2 (D:=D3))
 repeat (first|refine Qb ?_|refine Qa fun _=>?_|refine w_al fun _=>?_)
 rename_i b5
 refine Qd rfl rfl rfl rfl rfl rfl (fun _=>qy (z:=2) (by decide) (by decide)) ?_
 rintro v U' Dh4 hU ⟨xh4,rfl,h4,rfl⟩
 refine Qn ?_ (perm3 (D:=Dh4))
 repeat (first|refine Qb ?_|refine Qa fun _=>?_|refine w_al fun _=>?_)
 rename_i b7
 refine qe swp4 ?_
 refine Qo (fun m E U' M'=>∃ (X:Nat) (xv:IV) (D Y:MH),(∀ t,t*t≤A→t≤X)∧X≤2 ^ K∧xv.own D (X:Int)∧E=[(5,.pointer (some ⟨b5,0,none⟩)),(7,.pointer (some ⟨b7,0,none⟩)),(1,.pointer (some ⟨b1,0,none⟩)),(2,.pointer (some ⟨b2,0,none⟩))]∧ULe U U' ∧
   M'=(b7,.var xh4.v,61)::(b5,.var xv.v,61)::(b2,.var (.agg #[.bool false,.slice none 0 0]),61)::(b1,.var x.v,61)::(D++Y)∧M.Sublist Y∧Dh4.Sublist Y∧X=m) (n0:=2 ^ K)
  (E0:=[(5,.pointer (some ⟨b5,0,none⟩)),(7,.pointer (some ⟨b7,0,none⟩)),(1,.pointer (some ⟨b1,0,none⟩)),(2,.pointer (some ⟨b2,0,none⟩))]) ⟨rfl,rfl,rfl,rfl,trivial⟩
  ⟨2 ^ K,r,D3,Dh4++(Dh2++M),fun t ht=>by
   rcases Nat.lt_or_ge (2 ^ K) t with h | h
   ·have:=Nat.mul_le_mul (Nat.le_of_lt h) (Nat.le_of_lt h); omega
   ·exact h,Nat.le_refl _,h3,rfl,hUc,rfl,sb,sb,rfl⟩ ?_
 clear hUc h3
 rintro m E U' M' ⟨X,xv,D,Y,hup,hXK,hxv,rfl,hUc,rfl,hM,hD4,rfl⟩
 have sX:Sz (X:Int) (x.n+1):=by
  unfold Sz
  rw [Int.natAbs_natCast]
  have h1:2 ^ K < 2 ^ (32*(x.n+1)):=Nat.pow_lt_pow_right (by decide) (by omega)
  rw [Nat.pow_mul] at h1
  exact Nat.lt_of_le_of_lt hXK h1
 repeat (first|refine Qb ?_|refine Qa fun _=>?_|refine w_al fun _=>?_)
 refine Qd rfl rfl rfl rfl rfl rfl (fun _=>VZ (hx.up hUc (hM.trans sb)) (Nat.le_trans hn (by decide)) (hxv.at sb).rep (hxv.le sX (by omega))) ?_
 rintro v U1 D1 hU ⟨q,r',e,Dq,Dr,rfl,rfl,g1,g0,-⟩
 replace hUc:=hUc.trans hU
 have hq:q.own Dq (((A / X:Nat):Int)):=by
  by_cases hX0:X=0
  ·obtain ⟨-,rfl,-,rfl,-⟩:=g0 (by rw [hX0]; rfl)
   rw [hX0,Nat.div_zero]; exact Qfs
  ·obtain ⟨-,h,-⟩:=g1 (by omega)
   rwa [← Int.natCast_ediv] at h
 have sq:Sz ((A / X:Nat):Int) (x.n+1):=by
  rw [Int.natCast_ediv]; exact (sA.div _).mono (by omega)
 clear g0 g1
 refine Qn ?_ (perm4 (D:=Dr++Dq))
 repeat (first|refine Qb ?_|refine Qa fun _=>?_|refine w_al fun _=>?_)
 rename_i b8 b9
 have h20:(2:Int)≠0:=by decide
 refine Qz [0,1,3,2,4,5,6,7,8,9,10,11,12,13] sym (by kernel_rfl) ?_
 repeat (first|refine Qb ?_|refine Qa fun _=>?_|refine w_al fun _=>?_)
 refine Qd rfl rfl rfl rfl rfl rfl (fun _=>QcV (hxv.at sb).rep (hxv.le sX (by omega)) (hq.at sb).rep (hq.le sq (by omega))) ?_
 rintro v U' Dh6 hU ⟨xh6,rfl,h6,rfl⟩
 refine Qn ?_ (perm6 (D:=Dh6))
 repeat (first|refine Qb ?_|refine Qa fun _=>?_|refine w_al fun _=>?_)
 refine Qd rfl rfl rfl rfl rfl rfl (fun _=>VZ (h6.at sb).rep (h6.le (sX.add sq) (by omega)) (h4.at (hD4.trans sb)).rep (h4.le s2 (by decide))) ?_
 rintro v Ur7 D hU ⟨xq7,xr7,ev,Dq7,Dr7,rfl,rfl,hdm,-,-⟩
 obtain ⟨rfl,q7,r7⟩:=hdm h20
 replace hUc:=hUc.trans hU
 rw [List.append_assoc]
 refine Qn ?_ ((List.Perm.append_left Dr7 (perm6 (D:=Dq7))).trans (perm6 (D:=Dr7)))
 repeat (first|refine Qb ?_|refine Qa fun _=>?_|refine w_al fun _=>?_)
 rename_i b11 b12
 rw [show ((X:Int)+((A / X:Nat):Int)) / 2=(((X+A / X) / 2:Nat):Int) by omega] at q7
 generalize hQ:A / X=Q at *
 have s7:Sz (((X+Q) / 2:Nat):Int) (x.n+2):=by
  have h1:=(sX.add sq).div 2
  rwa [show ((X:Int)+(Q:Int)) / 2=(((X+Q) / 2:Nat):Int) by omega] at h1
 refine Qd rfl rfl rfl rfl rfl rfl (fun _=>QfM (q7.at sb).rep (q7.le s7 (by omega)) (hxv.at sb).rep (hxv.le sX (by omega))) ?_
 rintro v U' D hU ⟨rfl,rfl,rfl⟩
 repeat (first|refine Qb ?_|refine Qa fun _=>?_|refine w_al fun _=>?_)
 refine Qh rfl (fun h5=>?_) (fun h5=>?_)
 ·have hge:X≤(X+Q) / 2:=by
   have:=Int.sign_nonneg_iff.1 h5
   omega
  have hXX:X*X≤A:=by
   rcases Nat.eq_zero_or_pos X with h | h
   ·subst h; omega
   ·exact QcR (by rw [hQ]; exact hge)
  have hlt:A < (X+1)*(X+1):=by
   rcases Nat.lt_or_ge A ((X+1)*(X+1)) with h | h
   ·exact h
   ·have:=hup _ h; omega
  repeat (first|refine Qb ?_|refine Qa fun _=>?_|refine w_al fun _=>?_)
  refine Qgo 6 7 [0,1,2,4,3,5,6,7,8,9] [0,1,2,4,3,5,7,6,8,9] sym (by kernel_rfl) (by kernel_rfl) (by kernel_rfl) ?_ ?_
  all_goals
   repeat (first|refine Qb ?_|refine Qa fun _=>?_|refine w_al fun _=>?_)
   refine Qd rfl rfl rfl rfl rfl rfl (fun _=>YJ (hxv.at sb).rep (hxv.le sX (by omega)) (hxv.at sb).rep (hxv.le sX (by omega))) ?_
   rintro v U' Dh9 hU ⟨xh9,rfl,h9,rfl⟩
   refine Qn ?_ (perm8 (D:=Dh9))
   repeat (first|refine Qb ?_|refine Qa fun _=>?_|refine w_al fun _=>?_)
   refine Qd rfl rfl rfl rfl rfl rfl (fun _=>QfM (h9.at sb).rep (h9.le (sX.mul sX) (by omega)) (hx.up hUc (hM.trans sb)) (Nat.le_trans hn (by decide))) ?_
   rintro v U' D hU ⟨rfl,rfl,rfl⟩
   repeat (first|refine Qb ?_|refine Qa fun _=>?_|refine w_al fun _=>?_)
   refine Qe D sym rfl (.cons (.cell 6 rfl rfl rfl) (.cons (.tmp rfl) (.cons (.tmp rfl) .nil))) hUc ((List.Sublist.append (List.Sublist.refl D) hM).trans sb) (.inl rfl)
    ⟨xv,dec (((X:Int)*(X:Int) - (A:Int)).sign=0),0,rfl,fun h=>absurd h hz,fun _=>⟨rfl,X,hxv,hXX,hlt,?_⟩,hUc⟩
   rw [Jh,decide_eq_true_iff,Int.sign_eq_zero_iff_zero,← Int.natCast_mul]
   omega
 ·have hlt:(X+Q) / 2 < X:=by
   rcases Nat.lt_or_ge ((X+Q) / 2) X with h | h
   ·exact h
   ·exact absurd (Int.sign_nonneg_iff.2 (by omega)) h5
  repeat (first|refine Qb ?_|refine Qa fun _=>?_|refine w_al fun _=>?_)
  refine qw rot44 ?_
  refine qw (List.Perm.cons _ (List.Perm.cons _ (List.Perm.cons _ (List.Perm.cons _ (swp4.trans (perm4 (D:=Dq7)).symm))))) ?_
  exact Qj (E':=[(5,.pointer (some ⟨b5,0,none⟩)),(7,.pointer (some ⟨b7,0,none⟩)),(1,.pointer (some ⟨b1,0,none⟩)),(2,.pointer (some ⟨b2,0,none⟩))]) (m:=(X+Q) / 2) ⟨rfl,rfl,rfl,rfl,trivial⟩ hlt
   ⟨(X+Q) / 2,xq7,Dq7,_,fun t ht=>by
    rcases Nat.eq_zero_or_pos X with h | h
    ·omega
    ·have:=newton h ht
     rwa [hQ] at this,by omega,q7,rfl,hUc,rfl,hM.trans sb,hD4.trans sb,rfl⟩
end Go.Proofs.YtnjpkncacddplaaGreat

/- Walks of the reference of layer 1: square roots. -/
namespace Go.Proofs.YtnjpkncacddplaaGreat
open Go.Hp
variable {G:World} {U:UH} {M:MH}
end Go.Proofs.YtnjpkncacddplaaGreat
