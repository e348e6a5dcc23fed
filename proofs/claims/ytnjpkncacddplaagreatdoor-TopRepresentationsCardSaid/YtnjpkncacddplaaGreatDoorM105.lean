/- Texts of this seat's own, merged: each begins with its own remark. -/
import Derived.Test.YtnjpkncacddplaaGreatDoorM110
import Derived.Test.YtnjpkncacddplaaGreatDoorM99
import Derived.Test.YtnjpkncacddplaaGreatDoorM3
import Derived.Test.YtnjpkncacddplaaGreatDoorM98
import Derived.Test.YtnjpkncacddplaaGreatDoorM113
/- Walks of quadform: floor, root. -/
namespace Go.Proofs.YtnjpkncacddplaaGreatDoor
open Go.Hp
variable {G:World} {U U':UH} {M:MH}
theorem Qbg {a b:Int} (h0:0≤a) (h1:a < b) :
  Ct Tryz.prog 119 [.int .i64 a,.int .i64 b] G U M fun v U' D=>v = .int .i64 0∧U=U'∧D=[]:=by
 have e1:a.tdiv b=0:=Int.tdiv_eq_zero_of_lt h0 h1
 have e2:a.tmod b=a:=Int.tmod_eq_of_lt h0 h1
 refine QO Tryz.func119 rfl rfl rfl rfl ?_
 repeat (first|refine Qd ?_|refine Qc fun _=>?_|refine w_al fun _=>?_)
 refine sl_y (QeR (k := .i64) rfl rfl rfl (by omega)) rfl rfl rfl rfl ?_
 rw [e1,show IntKind.i64.wrap 0=0 by decide]
 repeat (first|refine Qd ?_|refine Qc fun _=>?_|refine w_al fun _=>?_)
 refine sl_y (qu (k := .i64) (a:=a) (b:=b) rfl rfl rfl (by omega)) rfl rfl rfl rfl ?_
 rw [e2]
 repeat (first|refine Qd ?_|refine Qc fun _=>?_|refine w_al fun _=>?_)
 refine Qm rfl (fun h=>absurd h (by omega)) (fun h=>?_)
 repeat (first|refine Qd ?_|refine Qc fun _=>?_|refine w_al fun _=>?_)
 exact Qp [] sym rfl (.cons (.tmp rfl) .nil) uc sb (.inl rfl) ⟨rfl,rfl,rfl⟩
theorem Qgf {r n:Nat} (h:r*r≤n) (hn:n≤1000000):r≤1000:=by
 rcases Nat.lt_or_ge 1000 r with h1 | h1
 ·have:=Nat.mul_le_mul h1 h1
  omega
 ·exact h1
theorem vw {n:Nat} (hn:n≤1000000) :
  Ct Tryz.prog 60 [.int .i64 (n:Int)] G U M fun v U' D=>∃ r:Nat,v = .int .i64 (r:Int)∧r*r≤n∧n < (r+1)*(r+1)∧U=U'∧D=[]:=by
 refine QO Tryz.func60 rfl rfl rfl rfl ?_
 repeat (first|refine Qd ?_|refine Qc fun _=>?_|refine w_al fun _=>?_)
 try refine Yp (M':=M) (ULe.refl _) sbk ?_
 refine JS (fun z E U' M'=>∃ (r b:Nat),(b=0∧n < (r+1)*(r+1)∨∃ k,k≤30∧b=2 ^ k∧n < (r+2*b)*(r+2*b))∧r*r≤n∧U=U'∧E=[(4,.int .i64 (b:Int)),(3,.int .i64 (r:Int)),(0,.int .i64 (n:Int))]∧ULe U U'∧M'=M∧z=b) (n0:=1073741824) (E0:=[(4,.int .i64 ((1073741824:Nat):Int)),(3,.int .i64 ((0:Nat):Int)),(0,.int .i64 (n:Int))]) ⟨rfl,rfl,rfl,trivial⟩ ⟨0,1073741824,(.inr ⟨30,by decide,rfl,by omega⟩),by omega,rfl,rfl,uc,rfl,rfl⟩ ?_
 rintro z E U1 M' ⟨r,b,hb,hr,rfl,rfl,hU1,hMM,hzL⟩
 obtain rfl:M=M':=hMM.symm
 try refine JV ?_
 have hr1:=Qgf hr hn
 refine Qm rfl (fun h=>?_) (fun h=>?_)
 ·obtain ⟨k,hk,hb2,hb3⟩:∃ k,k≤30∧b=2 ^ k∧n < (r+2*b)*(r+2*b):=hb.resolve_left fun h1=>by omega
  have hb30:b≤1073741824:=by rw [hb2]; exact Nat.pow_le_pow_right (by decide) hk
  have m1:=mulb (show -1073742824≤(r:Int)+(b:Int)∧(r:Int)+(b:Int)≤1073742824 by omega) (show -1073742824≤(r:Int)+(b:Int)∧(r:Int)+(b:Int)≤1073742824 by omega)
  have half:b / 2=0∧b=1∨∃ k,k≤30∧b / 2=2 ^ k∧2*(b / 2)=b:=by
   cases k with
   | zero=>left; rw [hb2]; exact ⟨rfl,rfl⟩
   | succ k =>
    right
    rw [Nat.pow_succ] at hb2
    exact ⟨k,by omega,by omega,by omega⟩
  have next:∀ r2,n < (r2+b)*(r2+b)→(b / 2=0∧n < (r2+1)*(r2+1)∨∃ k,k≤30∧b / 2=2 ^ k∧n < (r2+2*(b / 2))*(r2+2*(b / 2))):=fun r2 h2=>by
   rcases half with ⟨h3,h4⟩ | ⟨k,h3,h4,h5⟩
   ·left; rw [h4] at h2; exact ⟨h3,h2⟩
   ·right; exact ⟨k,h3,h4,by rw [h5]; exact h2⟩
  repeat (first|refine Qd ?_|refine Qc fun _=>?_|refine w_al fun _=>?_)
  refine Qm rfl (fun h1=>?_) (fun h1=>?_)
  ·have h1':(r+b)*(r+b)≤n:=by
    have h1:((r:Int)+(b:Int))*((r:Int)+(b:Int))≤(n:Int):=h1
    rw [← Int.natCast_add,← Int.natCast_mul] at h1
    omega
   repeat (first|refine Qd ?_|refine Qc fun _=>?_|refine w_al fun _=>?_)
   refine sl_y (qj (k := .i64) (m:=b) (n:=1) rfl rfl rfl rfl rfl (by decide) rfl) rfl rfl rfl rfl ?_
   repeat (first|refine Qd ?_|refine Qc fun _=>?_|refine w_al fun _=>?_)
   exact QD (E':=[(4,.int .i64 ((b / 2:Nat):Int)),(3,.int .i64 ((r:Int)+b)),(0,.int .i64 (n:Int))]) (m:=(b / 2)) ⟨rfl,rfl,rfl,trivial⟩ (by omega) ⟨r+b,b / 2,next _ (by rw [show r+b+b=r+2*b by omega]; exact hb3),h1',rfl,rfl,uc,rfl,rfl⟩
  ·have h1':n < (r+b)*(r+b):=by
    have h1:¬ (((r:Int)+(b:Int))*((r:Int)+(b:Int))≤(n:Int)):=h1
    rw [← Int.natCast_add,← Int.natCast_mul] at h1
    omega
   repeat (first|refine Qd ?_|refine Qc fun _=>?_|refine w_al fun _=>?_)
   refine sl_y (qj (k := .i64) (m:=b) (n:=1) rfl rfl rfl rfl rfl (by decide) rfl) rfl rfl rfl rfl ?_
   repeat (first|refine Qd ?_|refine Qc fun _=>?_|refine w_al fun _=>?_)
   exact QD (E':=[(4,.int .i64 ((b / 2:Nat):Int)),(3,.int .i64 (r:Int)),(0,.int .i64 (n:Int))]) (m:=(b / 2)) ⟨rfl,rfl,rfl,trivial⟩ (by omega) ⟨r,b / 2,next _ h1',hr,rfl,rfl,uc,rfl,rfl⟩
 ·have hb0:b=0:=by omega
  have hlt:n < (r+1)*(r+1):=by
   rcases hb with h1 | ⟨k,-,h1,-⟩
   ·exact h1.2
   ·have:=Nat.two_pow_pos k; omega
  repeat (first|refine Qd ?_|refine Qc fun _=>?_|refine w_al fun _=>?_)
  exact Qp [] sym rfl (.cons (.tmp rfl) .nil) uc sb (.inl rfl) ⟨r,rfl,hr,hlt,rfl,rfl⟩
end Go.Proofs.YtnjpkncacddplaaGreatDoor

/- Walks of quadform: reduce (of a reduced form). -/
namespace Go.Proofs.YtnjpkncacddplaaGreatDoor
open Go.Hp Go.Rp
variable {G:World} {U U':UH} {M:MH}
set_option maxHeartbeats 4000000 in
theorem vS {a b c:Int} (ha:0 < a∧a≤20) (hb : -a < b∧b≤a) (hc:a≤c∧c≤200) (he:a < c∨0≤b) :
  Ct Tryz.prog 59 [.agg #[.int .i64 a,.int .i64 b,.int .i64 c]] G U M fun v U' D=>∃ m:Value,v = .tuple #[.agg #[.int .i64 a,.int .i64 b,.int .i64 c],m]∧U=U'∧D=[]:=by
 refine QO Tryz.func59 rfl rfl rfl rfl ?_
 repeat (first|refine Qd ?_|refine Qc fun _=>?_|refine w_al fun _=>?_)
 rename_i b1 b2 b3 b4
 try refine Yp (M':=(b4,.var (.agg #[.int .i64 1,.int .i64 0,.int .i64 0,.int .i64 1]),27)::(b3,.var (.agg #[.int .i64 0,.int .i64 0,.int .i64 0,.int .i64 0]),27)::(b2,.var (.agg #[.int .i64 0,.int .i64 0,.int .i64 0]),49)::(b1,.var (.agg #[.int .i64 a,.int .i64 b,.int .i64 c]),49)::M) (ULe.refl _) sbk ?_
 refine JS (fun z E U' M'=>U=U'∧E=[(4,.pointer (some ⟨b4,0,none⟩)),(3,.pointer (some ⟨b3,0,none⟩)),(2,.pointer (some ⟨b2,0,none⟩)),(1,.pointer (some ⟨b1,0,none⟩))]∧ULe U U'∧M'=(b4,.var (.agg #[.int .i64 1,.int .i64 0,.int .i64 0,.int .i64 1]),27)::(b3,.var (.agg #[.int .i64 0,.int .i64 0,.int .i64 0,.int .i64 0]),27)::(b2,.var (.agg #[.int .i64 0,.int .i64 0,.int .i64 0]),49)::(b1,.var (.agg #[.int .i64 a,.int .i64 b,.int .i64 c]),49)::M∧z=0) (n0:=0) (E0:=[(4,.pointer (some ⟨b4,0,none⟩)),(3,.pointer (some ⟨b3,0,none⟩)),(2,.pointer (some ⟨b2,0,none⟩)),(1,.pointer (some ⟨b1,0,none⟩))]) ⟨rfl,rfl,rfl,rfl,trivial⟩ ⟨rfl,rfl,uc,rfl,rfl⟩ ?_
 rintro z E U1 M' ⟨rfl,rfl,hU1,rfl,hzL⟩
 try refine JV ?_
 repeat (first|refine Qd ?_|refine Qc fun _=>?_|refine w_al fun _=>?_)
 refine Qv rfl rfl rfl rfl rfl rfl (fun _=>Qbg (by omega) (by omega)) ?_
 rintro v5 U5 D5 hU5 ⟨rfl,rfl,rfl⟩
 rw [List.nil_append]
 repeat (first|refine Qd ?_|refine Qc fun _=>?_|refine w_al fun _=>?_)
 rw [show c+0*(a*0+b)=c by omega]
 refine YP 3 sym rfl rfl rfl rfl rfl rfl rfl rfl rfl rfl rfl ?_
 refine qg (M':=(b4,.var (.agg #[.int .i64 1,.int .i64 0,.int .i64 0,.int .i64 1]),27)::(b3,.var (.agg #[.int .i64 0,.int .i64 0,.int .i64 0,.int .i64 0]),27)::(b2,.var (.agg #[.int .i64 0,.int .i64 0,.int .i64 0]),49)::(b1,.var (.agg #[.int .i64 a,.int .i64 b,.int .i64 c]),49)::M) ?_ (List.Perm.refl _)
 repeat (first|refine Qd ?_|refine Qc fun _=>?_|refine w_al fun _=>?_)
 rw [show b+2*a*0=b by omega]
 refine YP 3 sym rfl rfl rfl rfl rfl rfl rfl rfl rfl rfl rfl ?_
 refine qg (M':=(b4,.var (.agg #[.int .i64 1,.int .i64 0,.int .i64 0,.int .i64 1]),27)::(b3,.var (.agg #[.int .i64 0,.int .i64 0,.int .i64 0,.int .i64 0]),27)::(b2,.var (.agg #[.int .i64 0,.int .i64 0,.int .i64 0]),49)::(b1,.var (.agg #[.int .i64 a,.int .i64 b,.int .i64 c]),49)::M) ?_ (List.Perm.refl _)
 repeat (first|refine Qd ?_|refine Qc fun _=>?_|refine w_al fun _=>?_)
 refine YP 0 sym rfl rfl rfl rfl rfl rfl rfl rfl rfl rfl rfl ?_
 refine qg (M':=(b4,.var (.agg #[.int .i64 1,.int .i64 0,.int .i64 0,.int .i64 1]),27)::(b3,.var (.agg #[.int .i64 0,.int .i64 0,.int .i64 0,.int .i64 0]),27)::(b2,.var (.agg #[.int .i64 0,.int .i64 0,.int .i64 0]),49)::(b1,.var (.agg #[.int .i64 a,.int .i64 b,.int .i64 c]),49)::M) ?_ (List.Perm.refl _)
 repeat (first|refine Qd ?_|refine Qc fun _=>?_|refine w_al fun _=>?_)
 refine YP 0 sym rfl rfl rfl rfl rfl rfl rfl rfl rfl rfl rfl ?_
 refine qg (M':=(b4,.var (.agg #[.int .i64 1,.int .i64 0,.int .i64 0,.int .i64 1]),27)::(b3,.var (.agg #[.int .i64 0,.int .i64 0,.int .i64 0,.int .i64 0]),27)::(b2,.var (.agg #[.int .i64 0,.int .i64 0,.int .i64 0]),49)::(b1,.var (.agg #[.int .i64 a,.int .i64 b,.int .i64 c]),49)::M) ?_ (List.Perm.refl _)
 repeat (first|refine Qd ?_|refine Qc fun _=>?_|refine w_al fun _=>?_)
 refine QB rfl rfl (fun h1=>?_) (fun h1=>?_)
 ·repeat (first|refine Qd ?_|refine Qc fun _=>?_|refine w_al fun _=>?_)
  refine jf 1 2 [0,1,2,3] [0,2,1,3] sym (by kernel_rfl) (by kernel_rfl) (by kernel_rfl) ?_ ?_
  all_goals
   repeat (first|refine Qd ?_|refine Qc fun _=>?_|refine w_al fun _=>?_)
   exact Qp [] sym rfl (.cons (.cell 2 rfl rfl rfl) (.cons (.cell 1 rfl rfl rfl) .nil)) uc sb (.inl rfl) ⟨_,rfl,rfl,rfl⟩
 ·obtain rfl:a=c:=by omega
  repeat (first|refine Qd ?_|refine Qc fun _=>?_|refine w_al fun _=>?_)
  refine QB rfl rfl (fun h2=>?_) (fun h2=>absurd rfl h2)
  repeat (first|refine Qd ?_|refine Qc fun _=>?_|refine w_al fun _=>?_)
  refine Qm rfl (fun h3=>?_) (fun h3=>absurd (show b ≥ 0 by omega) h3)
  repeat (first|refine Qd ?_|refine Qc fun _=>?_|refine w_al fun _=>?_)
  refine jf 1 2 [0,1,2,3] [0,2,1,3] sym (by kernel_rfl) (by kernel_rfl) (by kernel_rfl) ?_ ?_
  all_goals
   repeat (first|refine Qd ?_|refine Qc fun _=>?_|refine w_al fun _=>?_)
   exact Qp [] sym rfl (.cons (.cell 2 rfl rfl rfl) (.cons (.cell 1 rfl rfl rfl) .nil)) uc sb (.inl rfl) ⟨_,rfl,rfl,rfl⟩
end Go.Proofs.YtnjpkncacddplaaGreatDoor

/- Walks of quadform: Represent. -/
namespace Go.Proofs.YtnjpkncacddplaaGreatDoor
open Go.Hp Go.Rp
variable {G:World} {U U':UH} {M:MH}
theorem Qgi {x m:Int}:x.tmod m=0↔x % m=0:=by
 rw [← Int.dvd_iff_emod_eq_zero,Int.dvd_iff_tmod_eq_zero]
def Fy (a b c n y:Int):Int:=box (fun x=>ind a b c n x y) 5000
set_option maxHeartbeats 4000000 in
theorem QeB {a b c:Int} {D n X Y:Nat} (ha:0 < a∧a≤20) (hb : -a < b∧b≤a) (hc:a≤c∧c≤200) (he:a < c∨0≤b) (hD:4*a*c - b*b=(D:Int)) (hD1:1≤D) (hD4:D≤400) (hn1:1≤n) (hn:n≤400)
  (hX:4*c*400 < (D:Int)*(((X+1)*(X+1):Nat):Int)) (hY:4*a*400 < (D:Int)*(((Y+1)*(Y+1):Nat):Int)) :
  Ct Tryz.prog 16 [.agg #[.int .i64 a,.int .i64 b,.int .i64 c],.int .i64 (n:Int)] G U M fun v U' D=>v = .tuple #[.int .i64 (Go.Rp.rp X Y a b c n),.int .i64 0]∧U=U'∧D=[]:=by
 obtain ⟨A,rfl⟩:∃ A:Nat,a=A:=⟨a.toNat,by omega⟩
 have ck:chq A b c=0:=by
  unfold chq
  rw [if_neg (by omega),if_neg (by omega)]
 have q1:4*(A:Int)*(n:Int)=((4*A*n:Nat):Int):=by rw [Int.natCast_mul,Int.natCast_mul]; rfl
 have q2:4*A*n≤32000:=Nat.mul_le_mul (show 4*A≤80 by omega) hn
 have q3:4*A*n / D≤32000:=Nat.le_trans (Nat.div_le_self _ _) q2
 have nD:IntKind.i64.wrap (0 - (b*b - 4*(A:Int)*c))=(D:Int):=by rw [negZ64 (by omega)]; omega
 refine QO Tryz.func16 rfl rfl rfl rfl ?_
 repeat (first|refine Qd ?_|refine Qc fun _=>?_|refine w_al fun _=>?_)
 rename_i b1
 refine Qv rfl rfl rfl rfl rfl rfl (fun _=>jo) ?_
 rintro v U' D hU ⟨rfl,rfl,rfl⟩
 repeat (first|refine Qd ?_|refine Qc fun _=>?_|refine w_al fun _=>?_)
 rw [ck]
 refine Qm rfl (fun h=>absurd rfl h) (fun _=>?_)
 repeat (first|refine Qd ?_|refine Qc fun _=>?_|refine w_al fun _=>?_)
 refine QB rfl rfl (fun h=>absurd h (by omega)) (fun _=>?_)
 repeat (first|refine Qd ?_|refine Qc fun _=>?_|refine w_al fun _=>?_)
 refine Qm rfl (fun h=>absurd h (by omega)) (fun _=>?_)
 repeat (first|refine Qd ?_|refine Qc fun _=>?_|refine w_al fun _=>?_)
 refine Qv rfl rfl rfl rfl rfl rfl (fun _=>vS ha hb hc he) ?_
 rintro v5 U5 D5 hU5 ⟨m5,rfl,rfl,rfl⟩
 rw [List.nil_append]
 repeat (first|refine Qd ?_|refine Qc fun _=>?_|refine w_al fun _=>?_)
 refine QdT (M':=(b1,.var (.agg #[.int .i64 (A:Int),.int .i64 b,.int .i64 c]),49)::M) (List.Perm.refl _) ?_
 refine jf 1 6 [0,1,2,3,4,5,6,7,8,9,10] [0,3,5,6,1,2,4,7,8,9,10] sym (by kernel_rfl) (by kernel_rfl) (by kernel_rfl) ?_ ?_
 all_goals
  repeat (first|refine Qd ?_|refine Qc fun _=>?_|refine w_al fun _=>?_)
  refine Qv rfl rfl rfl rfl rfl rfl (fun _=>qF (by omega) (by omega) (by omega)) ?_
  rintro v6 U6 D6 hU6 ⟨rfl,rfl,rfl⟩
  rw [List.nil_append]
  repeat (first|refine Qd ?_|refine Qc fun _=>?_|refine w_al fun _=>?_)
  rw [nD]
  refine sl_y (Qey (m:=4*A*n) (n:=D) (q:=4*A*n / D) rfl rfl rfl q1 (by omega) (by simp only [kmax]; omega) (by omega) rfl) rfl rfl rfl rfl ?_
  repeat (first|refine Qd ?_|refine Qc fun _=>?_|refine w_al fun _=>?_)
  refine Qv rfl rfl rfl rfl rfl rfl (fun _=>vw (by omega)) ?_
  rintro v7 U7 D7 hU7 ⟨h,rfl,hr1,hr2,rfl,rfl⟩
  rw [List.nil_append]
  have hh:h≤178:=by
   rcases Nat.lt_or_ge 178 h with h1 | h1
   ·have:=Nat.mul_le_mul h1 h1
    omega
   ·exact h1
  have hsb:∀ k:Nat,0≤smI (Fy A b c n) (-(h:Int)) k∧smI (Fy A b c n) (-(h:Int)) k≤10001*(k:Int):=fun k=>vH (fun y=>vY fun x=>QbV)
  repeat (first|refine Qd ?_|refine Qc fun _=>?_|refine w_al fun _=>?_)
  rw [show IntKind.i64.wrap (0 - (h:Int)) = -(h:Int) from negZ64 (by omega)]
  try refine Yp (M':=(b1,.var (.agg #[.int .i64 (A:Int),.int .i64 b,.int .i64 c]),49)::M) (ULe.refl _) sbk ?_
  refine JS (fun z E U' M'=>∃ (k:Nat) (y s:Int),k≤2*h+1∧y = -(h:Int)+k∧s=smI (Fy A b c n) (-(h:Int)) k∧U=U'∧E=[(9,.int .i64 y),(8,.int .i64 s),(7,.int .i64 (h:Int)),(2,.pointer (some ⟨b1,0,none⟩)),(1,.int .i64 (n:Int))]∧ULe U U'∧M'=(b1,.var (.agg #[.int .i64 (A:Int),.int .i64 b,.int .i64 c]),49)::M∧z=2*h+1 - k) (n0:=2*h+1 - 0) (E0:=[(9,.int .i64 (-(h:Int))),(8,.int .i64 0),(7,.int .i64 (h:Int)),(2,.pointer (some ⟨b1,0,none⟩)),(1,.int .i64 (n:Int))]) ⟨rfl,rfl,rfl,rfl,rfl,trivial⟩ ⟨0,-(h:Int),0,by omega,by omega,rfl,rfl,rfl,uc,rfl,rfl⟩ ?_
  rintro z E U1 M' ⟨k,y,s,hk,hy,hs,rfl,rfl,hU1,rfl,rfl⟩
  try refine JV ?_
  refine Qm rfl (fun h1=>?_) (fun h1=>?_)
  ·have hk2:k < 2*h+1:=by omega
   have hyb : -178≤y∧y≤178:=by omega
   have sb1:=hsb k
   rw [← hs] at sb1
   have next:smI (Fy A b c n) (-(h:Int)) (k+1)=s+Fy A b c n y:=by
    rw [hs,hy]; rfl
   have m1:=mulb (show -20≤b∧b≤20 by omega) (show -20≤b∧b≤20 by omega)
   have m2:=mulb (show -400≤b*b∧b*b≤400 by omega) hyb
   have m3:=mulb (show -71200≤b*b*y∧b*b*y≤71200 by omega) hyb
   have m4:=mulb (show -200≤c∧c≤200 by omega) hyb
   have m5:=mulb (show -35600≤c*y∧c*y≤35600 by omega) hyb
   have m6:=mulb (show -80≤4*(A:Int)∧4*(A:Int)≤80 by omega) (show -6337200≤c*y*y - (n:Int)∧c*y*y - (n:Int)≤6337200 by omega)
   have m7:=mulb (show -20≤b∧b≤20 by omega) hyb
   have ident:b*b*y*y - 4*(A:Int)*(c*y*y - (n:Int))=4*(A:Int)*(n:Int) - (D:Int)*(y*y):=by rw [← hD]; grind
   have hyy:=Int.mul_nonneg (show 0≤(D:Int) by omega) (Qdo y)
   obtain ⟨I,hI⟩:∃ I:Int,I=b*b*y*y - 4*(A:Int)*(c*y*y - (n:Int)):=⟨_,rfl⟩
   rw [q1] at ident
   repeat (first|refine Qd ?_|refine Qc fun _=>?_|refine w_al fun _=>?_)
   rw [← hI]
   refine Qm rfl (fun h2=>?_) (fun h2=>?_)
   ·have hF:Fy A b c n y=0:=jm fun r hr e=>by
     have:=Int.mul_nonneg hr hr
     omega
    repeat (first|refine Qd ?_|refine Qc fun _=>?_|refine w_al fun _=>?_)
    exact QD (E':=[(9,.int .i64 (y+1)),(8,.int .i64 s),(7,.int .i64 (h:Int)),(2,.pointer (some ⟨b1,0,none⟩)),(1,.int .i64 (n:Int))]) (m:=2*h+1 - (k+1)) ⟨rfl,rfl,rfl,rfl,rfl,trivial⟩ (by omega) ⟨k+1,y+1,s,by omega,by omega,(by rw [next,hF]; omega),rfl,rfl,uc,rfl,rfl⟩
   repeat (first|refine Qd ?_|refine Qc fun _=>?_|refine w_al fun _=>?_)
   obtain ⟨N,hN⟩:∃ N:Nat,I=(N:Int):=⟨I.toNat,by omega⟩
   rw [hN]
   refine Qv rfl rfl rfl rfl rfl rfl (fun _=>vw (n:=N) (by omega)) ?_
   rintro v8 U8 D8 hU8 ⟨r,rfl,hs1,hs2,rfl,rfl⟩
   rw [List.nil_append]
   have hr178:r≤178:=by
    rcases Nat.lt_or_ge 178 r with h1 | h1
    ·have:=Nat.mul_le_mul h1 h1
     omega
    ·exact h1
   have m8:=mulb (show -178≤(r:Int)∧(r:Int)≤178 by omega) (show -178≤(r:Int)∧(r:Int)≤178 by omega)
   repeat (first|refine Qd ?_|refine Qc fun _=>?_|refine w_al fun _=>?_)
   refine Qm rfl (fun h3=>?_) (fun h3=>?_)
   ·have hF:Fy A b c n y=0:=jm fun u hu e=>by
     obtain ⟨w,rfl⟩:∃ w:Nat,u=(w:Int):=⟨u.toNat,by omega⟩
     rw [← hI,hN,← Int.natCast_mul] at e
     have e:=Int.ofNat.inj e
     rcases Nat.lt_trichotomy w r with h5 | h5 | h5
     ·have:=Nat.mul_le_mul (Nat.le_of_lt h5) (Nat.le_of_lt h5)
      have h6:=Nat.mul_lt_mul'' h5 h5
      omega
     ·subst h5
      exact h3 (by show (w:Int)*(w:Int)=(N:Int); rw [← e]; rfl)
     ·have:=Nat.mul_le_mul h5 h5
      have h6:(r+1)*(r+1)≤w*w:=this
      omega
    repeat (first|refine Qd ?_|refine Qc fun _=>?_|refine w_al fun _=>?_)
    exact QD (E':=[(9,.int .i64 (y+1)),(8,.int .i64 s),(7,.int .i64 (h:Int)),(2,.pointer (some ⟨b1,0,none⟩)),(1,.int .i64 (n:Int))]) (m:=2*h+1 - (k+1)) ⟨rfl,rfl,rfl,rfl,rfl,trivial⟩ (by omega) ⟨k+1,y+1,s,by omega,by omega,(by rw [next,hF]; omega),rfl,rfl,uc,rfl,rfl⟩
   have hsq:(r:Int)*(r:Int)=b*b*y*y - 4*(A:Int)*(c*y*y - (n:Int)):=by rw [← hI,hN]; exact Decidable.not_not.1 h3
   have hF:Fy A b c n y=_:=Qct (X:=5000) (show 0 < (A:Int) by omega) (show 0≤(r:Int) by omega) hsq (by omega)
   have nR:IntKind.i64.wrap (0 - (r:Int)) = -(r:Int):=negZ64 (by omega)
   have nR2:IntKind.i64.wrap (IntKind.i64.wrap (0 - (r:Int)) - b*y) = -(r:Int) - b*y:=by rw [nR,IntWalk.i64_in _ (by omega)]
   have sw:IntKind.i64.wrap (s+1)=s+1:=by
    clear hF next ident m1 m2 m3 m4 m5 m6 m7 m8 hI hsq hN hs
    rw [IntWalk.i64_in _ (by omega)]
   have sw2:IntKind.i64.wrap (s+1+1)=s+1+1:=by
    clear hF next ident m1 m2 m3 m4 m5 m6 m7 m8 hI hsq hN hs
    rw [IntWalk.i64_in _ (by omega)]
   simp only [← Qgi] at hF
   repeat (first|refine Qd ?_|refine Qc fun _=>?_|refine w_al fun _=>?_)
   refine sl_y (qu (k := .i64) (a:=(r:Int) - b*y) (b:=2*(A:Int)) rfl rfl rfl (by omega)) rfl rfl rfl rfl ?_
   repeat (first|refine Qd ?_|refine Qc fun _=>?_|refine w_al fun _=>?_)
   refine Qm rfl (fun h4=>?_) (fun h4=>?_)
   ·rw [if_pos h4] at hF
    repeat (first|refine Qd ?_|refine Qc fun _=>?_|refine w_al fun _=>?_)
    try rw [sw]
    refine QB rfl rfl (fun h5=>?_) (fun h5=>?_)
    ·repeat (first|refine Qd ?_|refine Qc fun _=>?_|refine w_al fun _=>?_)
     try rw [nR]
     refine sl_y (qu (k := .i64) (a := -(r:Int) - b*y) (b:=2*(A:Int)) rfl rfl rfl (by omega)) rfl rfl rfl rfl ?_
     repeat (first|refine Qd ?_|refine Qc fun _=>?_|refine w_al fun _=>?_)
     refine Qm rfl (fun h6=>?_) (fun h6=>?_)
     ·rw [if_pos ⟨h5,h6⟩] at hF
      repeat (first|refine Qd ?_|refine Qc fun _=>?_|refine w_al fun _=>?_)
      try rw [sw2]
      exact QD (E':=[(9,.int .i64 (y+1)),(8,.int .i64 (s+1+1)),(7,.int .i64 (h:Int)),(2,.pointer (some ⟨b1,0,none⟩)),(1,.int .i64 (n:Int))]) (m:=2*h+1 - (k+1)) ⟨rfl,rfl,rfl,rfl,rfl,trivial⟩ (by omega) ⟨k+1,y+1,s+1+1,by omega,by omega,(by rw [next,hF]; omega),rfl,rfl,uc,rfl,rfl⟩
     ·rw [if_neg (fun e=>h6 e.2)] at hF
      repeat (first|refine Qd ?_|refine Qc fun _=>?_|refine w_al fun _=>?_)
      exact QD (E':=[(9,.int .i64 (y+1)),(8,.int .i64 (s+1)),(7,.int .i64 (h:Int)),(2,.pointer (some ⟨b1,0,none⟩)),(1,.int .i64 (n:Int))]) (m:=2*h+1 - (k+1)) ⟨rfl,rfl,rfl,rfl,rfl,trivial⟩ (by omega) ⟨k+1,y+1,s+1,by omega,by omega,(by rw [next,hF]; omega),rfl,rfl,uc,rfl,rfl⟩
    ·rw [if_neg (fun e=>h5 e.1)] at hF
     repeat (first|refine Qd ?_|refine Qc fun _=>?_|refine w_al fun _=>?_)
     exact QD (E':=[(9,.int .i64 (y+1)),(8,.int .i64 (s+1)),(7,.int .i64 (h:Int)),(2,.pointer (some ⟨b1,0,none⟩)),(1,.int .i64 (n:Int))]) (m:=2*h+1 - (k+1)) ⟨rfl,rfl,rfl,rfl,rfl,trivial⟩ (by omega) ⟨k+1,y+1,s+1,by omega,by omega,(by rw [next,hF]; omega),rfl,rfl,uc,rfl,rfl⟩
   ·rw [if_neg h4] at hF
    repeat (first|refine Qd ?_|refine Qc fun _=>?_|refine w_al fun _=>?_)
    refine QB rfl rfl (fun h5=>?_) (fun h5=>?_)
    ·repeat (first|refine Qd ?_|refine Qc fun _=>?_|refine w_al fun _=>?_)
     try rw [nR]
     refine sl_y (qu (k := .i64) (a := -(r:Int) - b*y) (b:=2*(A:Int)) rfl rfl rfl (by omega)) rfl rfl rfl rfl ?_
     repeat (first|refine Qd ?_|refine Qc fun _=>?_|refine w_al fun _=>?_)
     refine Qm rfl (fun h6=>?_) (fun h6=>?_)
     ·rw [if_pos ⟨h5,h6⟩] at hF
      repeat (first|refine Qd ?_|refine Qc fun _=>?_|refine w_al fun _=>?_)
      try rw [sw]
      exact QD (E':=[(9,.int .i64 (y+1)),(8,.int .i64 (s+1)),(7,.int .i64 (h:Int)),(2,.pointer (some ⟨b1,0,none⟩)),(1,.int .i64 (n:Int))]) (m:=2*h+1 - (k+1)) ⟨rfl,rfl,rfl,rfl,rfl,trivial⟩ (by omega) ⟨k+1,y+1,s+1,by omega,by omega,(by rw [next,hF]; omega),rfl,rfl,uc,rfl,rfl⟩
     ·rw [if_neg (fun e=>h6 e.2)] at hF
      repeat (first|refine Qd ?_|refine Qc fun _=>?_|refine w_al fun _=>?_)
      exact QD (E':=[(9,.int .i64 (y+1)),(8,.int .i64 s),(7,.int .i64 (h:Int)),(2,.pointer (some ⟨b1,0,none⟩)),(1,.int .i64 (n:Int))]) (m:=2*h+1 - (k+1)) ⟨rfl,rfl,rfl,rfl,rfl,trivial⟩ (by omega) ⟨k+1,y+1,s,by omega,by omega,(by rw [next,hF]; omega),rfl,rfl,uc,rfl,rfl⟩
    ·rw [if_neg (fun e=>h5 e.1)] at hF
     repeat (first|refine Qd ?_|refine Qc fun _=>?_|refine w_al fun _=>?_)
     exact QD (E':=[(9,.int .i64 (y+1)),(8,.int .i64 s),(7,.int .i64 (h:Int)),(2,.pointer (some ⟨b1,0,none⟩)),(1,.int .i64 (n:Int))]) (m:=2*h+1 - (k+1)) ⟨rfl,rfl,rfl,rfl,rfl,trivial⟩ (by omega) ⟨k+1,y+1,s,by omega,by omega,(by rw [next,hF]; omega),rfl,rfl,uc,rfl,rfl⟩
  ·obtain rfl:k=2*h+1:=by omega
   have hbox:s=Go.Rp.rp 5000 h A b c n:=hs
   have e1:(4*A*n:Nat) < D*((h+1)*(h+1)):=by
    have h2:=Nat.div_add_mod (4*A*n) D
    have h3:=Nat.mod_lt (4*A*n) (show 0 < D by omega)
    have h4:=Nat.mul_le_mul_left D (show 4*A*n / D+1≤(h+1)*(h+1) by omega)
    rw [Nat.mul_add,Nat.mul_one] at h4
    omega
   have e2:4*(A:Int)*(n:Int) < (D:Int)*(((h+1)*(h+1):Nat):Int):=by
    rw [q1,← Int.natCast_mul]
    exact Int.ofNat_lt.2 e1
   have m9:=mulb (show -800≤4*c∧4*c≤800 by omega) (show -400≤(n:Int)∧(n:Int)≤400 by omega)
   have m10:=Int.mul_le_mul_of_nonneg_left (show (n:Int)≤400 by omega) (show 0≤4*c by omega)
   have m11:=Int.mul_le_mul_of_nonneg_left (show (n:Int)≤400 by omega) (show 0≤4*(A:Int) by omega)
   have m12:=Int.mul_le_mul_of_nonneg_right (show 1≤(D:Int) by omega) (show 0≤(((5000+1)*(5000+1):Nat):Int) by omega)
   have hfin:s=Go.Rp.rp X Y A b c n:=by
    rw [hbox]
    refine QdW (by omega) ?_ ?_ ?_ ?_<;>rw [hD]<;>omega
   rw [hfin]
   repeat (first|refine Qd ?_|refine Qc fun _=>?_|refine w_al fun _=>?_)
   exact Qp [] sym rfl (.cons (.tmp rfl) (.cons (.tmp rfl) .nil)) uc sb (.inl rfl) ⟨rfl,rfl,rfl⟩
end Go.Proofs.YtnjpkncacddplaaGreatDoor

/- Walks for TopRepresentations: units, Automorphs, reduced, jacobi, Kronecker. -/
namespace Go.Proofs.YtnjpkncacddplaaGreatDoor
open Go.Hp Go.Gx Go.Rp
variable {G:World} {U U':UH} {M:MH}
theorem QbB {D:Nat} (h1:1≤D) (h2:D≤400):Ct Tryz.prog 63 [.int .i64 (-(D:Int))] G U M fun v U' J=>v = .int .i64 (wN D)∧U=U'∧J=[]:=by
 have e3:D=3→wN D=6:=fun h=>by subst h; rfl
 have e4:D=4→wN D=4:=fun h=>by subst h; rfl
 have e2:D≠3→D≠4→wN D=2:=fun h3 h4=>by
  unfold wN
  have f3:Nat.beq D 3=false:=by rw [Bool.eq_false_iff]; exact fun h=>h3 (Nat.eq_of_beq_eq_true h)
  have f4:Nat.beq D 4=false:=by rw [Bool.eq_false_iff]; exact fun h=>h4 (Nat.eq_of_beq_eq_true h)
  rw [f3,f4]; rfl
 refine QO Tryz.func63 rfl rfl rfl rfl ?_
 repeat (first|refine Qd ?_|refine Qc fun _=>?_|refine w_al fun _=>?_)
 refine Qm rfl (fun h3=>?_) (fun h3=>?_)
 ·repeat (first|refine Qd ?_|refine Qc fun _=>?_|refine w_al fun _=>?_)
  exact Qp [] sym rfl (.cons (.tmp rfl) .nil) uc sb (.inl rfl) ⟨by rw [e3 (by omega)]; rfl,rfl,rfl⟩
 ·repeat (first|refine Qd ?_|refine Qc fun _=>?_|refine w_al fun _=>?_)
  refine Qm rfl (fun h4=>?_) (fun h4=>?_)
  ·repeat (first|refine Qd ?_|refine Qc fun _=>?_|refine w_al fun _=>?_)
   exact Qp [] sym rfl (.cons (.tmp rfl) .nil) uc sb (.inl rfl) ⟨by rw [e4 (by omega)]; rfl,rfl,rfl⟩
  ·repeat (first|refine Qd ?_|refine Qc fun _=>?_|refine w_al fun _=>?_)
   exact Qp [] sym rfl (.cons (.tmp rfl) .nil) uc sb (.inl rfl) ⟨by rw [e2 (by omega) (by omega)]; rfl,rfl,rfl⟩
theorem QeY {a b c:Int} {D:Nat} (ha:0 < a∧a≤20) (hb : -a < b∧b≤a) (hc:a≤c∧c≤200) (hD:4*a*c - b*b=(D:Int)) (h1:1≤D) (h2:D≤400)
  (hC:∀ {M:MH},Ct Tryz.prog 62 [.agg #[.int .i64 a,.int .i64 b,.int .i64 c]] G U M fun v U' _=>U'=U∧v = .int .i64 1) :
  Ct Tryz.prog 17 [.agg #[.int .i64 a,.int .i64 b,.int .i64 c]] G U M fun v U' J=>v = .tuple #[.int .i64 (wN D),.int .i64 0]∧ULe U U'∧J=[]:=by
 have ck:chq a b c=0:=by
  unfold chq
  rw [if_neg (by omega),if_neg (by omega)]
 have q1:IntKind.i64.wrap ((b*b - 4*a*c).tdiv (1*1)) = -(D:Int):=by
  rw [show b*b - 4*a*c = -(D:Int) by omega,show (1:Int)*1=1 from rfl,Int.tdiv_one,IntWalk.i64_in _ (by omega)]
 refine QO Tryz.func17 rfl rfl rfl rfl ?_
 repeat (first|refine Qd ?_|refine Qc fun _=>?_|refine w_al fun _=>?_)
 rename_i b1
 refine Qv rfl rfl rfl rfl rfl rfl (fun _=>jo) ?_
 rintro v U' D hU ⟨rfl,rfl,rfl⟩
 repeat (first|refine Qd ?_|refine Qc fun _=>?_|refine w_al fun _=>?_)
 rw [ck]
 refine Qm rfl (fun h=>absurd rfl h) (fun _=>?_)
 repeat (first|refine Qd ?_|refine Qc fun _=>?_|refine w_al fun _=>?_)
 refine Qv rfl rfl rfl rfl rfl rfl (fun _=>hC) ?_
 rintro v5 U5 D5 hU5 ⟨rfl,rfl⟩
 refine Vu (List.sublist_append_right D5 _) ?_
 repeat (first|refine Qd ?_|refine Qc fun _=>?_|refine w_al fun _=>?_)
 refine Qv rfl rfl rfl rfl rfl rfl (fun _=>qF (by omega) (by omega) (by omega)) ?_
 rintro v6 U6 D6 hU6 ⟨rfl,rfl,rfl⟩
 rw [List.nil_append]
 repeat (first|refine Qd ?_|refine Qc fun _=>?_|refine w_al fun _=>?_)
 rw [q1]
 refine Qv rfl rfl rfl rfl rfl rfl (fun _=>QbB h1 h2) ?_
 rintro v7 U7 D7 hU7 ⟨rfl,rfl,rfl⟩
 rw [List.nil_append]
 repeat (first|refine Qd ?_|refine Qc fun _=>?_|refine w_al fun _=>?_)
 exact Qp [] sym rfl (.cons (.tmp rfl) (.cons (.tmp rfl) .nil)) uc sb (.inl rfl) ⟨rfl,ULe.refl _,rfl⟩
theorem QbW:∀ {f a:Nat},tz f a≤f
 | 0,_=>Nat.le_refl 0
 | f+1,a=>by
  unfold tz
  cases Nat.beq (a % 2) 0
  ·rw [cond_false]; exact Nat.zero_le _
  ·rw [cond_true]; exact Nat.succ_le_succ QbW
theorem Qcg:∀ {f a:Nat},2 ^ tz f a ∣ a
 | 0,a=>Nat.one_dvd a
 | f+1,a=>by
  unfold tz
  cases h:Nat.beq (a % 2) 0
  ·rw [cond_false]; exact Nat.one_dvd a
  ·rw [cond_true,Nat.pow_succ]
   obtain ⟨q,hq⟩:=Qcg (f:=f) (a:=a / 2)
   have h2:=Nat.eq_of_beq_eq_true h
   refine ⟨q,?_⟩
   rw [Nat.mul_right_comm,← hq]
   omega
theorem Qcr {a:Nat} (h:1≤a):1≤a / 2 ^ tz 9 a∧a / 2 ^ tz 9 a≤a:=by
 refine ⟨?_,Nat.div_le_self _ _⟩
 rcases Nat.eq_zero_or_pos (a / 2 ^ tz 9 a) with h0 | h0
 ·have h1:=Nat.div_mul_cancel (Qcg (f:=9) (a:=a))
  rw [h0] at h1; omega
 ·exact h0
theorem Qr {a b:Nat} (h:a≠b):Nat.beq a b=false:=by rw [Bool.eq_false_iff]; exact fun e=>h (Nat.eq_of_beq_eq_true e)
theorem Yb {a b:Nat} (h:a=b):Nat.beq a b=true:=by rw [h]; exact Nat.beq_refl b
theorem jw {a b c:Nat} {d e f:Nat} (h:a=b∧(c=d∨c=e)) (hf:f=c):(Nat.beq a b && (Nat.beq c d || Nat.beq f e))=true:=by
 subst hf
 rw [Yb h.1]
 rcases h.2 with h | h
 ·rw [Yb h]; rfl
 ·rw [Yb h,Bool.or_true]; rfl
theorem jI {a b c d e f:Nat} (h:¬ (a=b∧(c=d∨c=e))) (hf:f=c):(Nat.beq a b && (Nat.beq c d || Nat.beq f e))=false:=by
 subst hf
 by_cases h1:a=b
 ·rw [Yb h1,Qr (fun e=>h ⟨h1,.inl e⟩),Qr (fun e=>h ⟨h1,.inr e⟩)]; rfl
 ·rw [Qr h1]; rfl
theorem QfE {x m:Int}:x.tmod m=0↔x % m=0:=by
 rw [← Int.dvd_iff_emod_eq_zero,Int.dvd_iff_tmod_eq_zero]
theorem vf {D m:Nat} (h1:1≤D) (h2:D≤400) (hm:1≤m) (hm2:m≤400) :
  Ct Tryz.prog 69 [.int .i64 (-(D:Int)),.int .u64 (m:Int)] G U M fun v U' J=>v = .int .u64 (((m - D % m) % m:Nat):Int)∧U=U'∧J=[]:=by
 have hr:=Nat.mod_lt D hm
 have e1:IntKind.u64.wrap (-(D:Int))=18446744073709551616 - D:=by
  simp only [IntKind.wrap,IntKind.bits,IntKind.signed,Bool.false_and,Bool.false_eq_true,if_false]
  omega
 have e2:IntKind.u64.wrap (0 - (18446744073709551616 - (D:Int)))=D:=by
  simp only [IntKind.wrap,IntKind.bits,IntKind.signed,Bool.false_and,Bool.false_eq_true,if_false]
  omega
 refine QO Tryz.func69 rfl rfl rfl rfl ?_
 repeat (first|refine Qd ?_|refine Qc fun _=>?_|refine w_al fun _=>?_)
 refine Qm rfl (fun h=>absurd h (by omega)) (fun _=>?_)
 repeat (first|refine Qd ?_|refine Qc fun _=>?_|refine w_al fun _=>?_)
 rw [e1,e2]
 refine sl_y (QaW (k := .u64) (m:=D) (n:=m) (q:=Nat.mod D m) rfl rfl rfl rfl rfl (by simp only [kmax]; omega) (by omega) rfl) rfl rfl rfl rfl ?_
 rw [show Nat.mod D m=D % m from rfl]
 repeat (first|refine Qd ?_|refine Qc fun _=>?_|refine w_al fun _=>?_)
 refine Qm rfl (fun h=>?_) (fun h=>?_)
 ·repeat (first|refine Qd ?_|refine Qc fun _=>?_|refine w_al fun _=>?_)
  exact Qp [] sym rfl (.cons (.tmp rfl) .nil) uc sb (.inl rfl) ⟨by rw [Nat.mod_eq_of_lt (show m - D % m < m by omega),Int.natCast_sub (by omega)]; rfl,rfl,rfl⟩
 ·have h0:D % m=0:=by omega
  repeat (first|refine Qd ?_|refine Qc fun _=>?_|refine w_al fun _=>?_)
  exact Qp [] sym rfl (.cons (.tmp rfl) .nil) uc sb (.inl rfl) ⟨by rw [h0,Nat.sub_zero,Nat.mod_self]; rfl,rfl,rfl⟩
theorem QbC (hQ:TabOK Tryz.prog tys tb U) {a0 m0:Nat} (ha:a0≤400) (hm:1≤m0) (hm2:m0≤400) :
  Ct Tryz.prog 68 [.int .u64 (a0:Int),.int .u64 (m0:Int)] G U M fun v U' J=>v = .int .i64 (jac 401 a0 m0 1)∧U=U'∧J=[]:=by
 obtain ⟨J0,hJ0⟩:∃ J0,J0=jac 401 a0 m0 1:=⟨_,rfl⟩
 rw [← hJ0]
 refine QO Tryz.func68 rfl rfl rfl rfl ?_
 repeat (first|refine Qd ?_|refine Qc fun _=>?_|refine w_al fun _=>?_)
 try refine Yp (M':=M) (ULe.refl _) sbk ?_
 refine JS (fun z E U' M'=>∃ (a m:Nat) (o:Int),(∃ f,a < f∧jac f a m o=J0)∧a≤400∧1≤m∧m≤400∧(-1≤o∧o≤1)∧U=U'∧E=[(5,.int .i64 o),(0,.int .u64 (a:Int)),(1,.int .u64 (m:Int))]∧ULe U U'∧M'=M∧z=a) (n0:=a0) (E0:=[(5,.int .i64 1),(0,.int .u64 ((a0:Nat):Int)),(1,.int .u64 ((m0:Nat):Int))]) ⟨rfl,rfl,rfl,trivial⟩ ⟨a0,m0,1,⟨401,by omega,hJ0.symm⟩,ha,hm,hm2,by decide,rfl,rfl,uc,rfl,rfl⟩ ?_
 rintro z E U1 M' ⟨a,m,o,hJ,ha2,hm1,hm4,ho,rfl,rfl,hU1,hMM,hzL⟩
 obtain rfl:M=M':=hMM.symm
 try refine JV ?_
 refine Qm rfl (fun h=>?_) (fun h=>?_)
 ·have h1a:1≤a:=by omega
  obtain ⟨f,hf,hj⟩:=hJ
  obtain ⟨f,rfl⟩:∃ g,f=g+1:=⟨f - 1,by omega⟩
  obtain ⟨hq1,hq2⟩:=Qcr h1a
  have htz:=QbW (f:=9) (a:=a)
  obtain ⟨zz,hzz⟩:∃ zz,zz=tz 9 a:=⟨_,rfl⟩
  obtain ⟨q,hq⟩:∃ q,q=a / 2 ^ tz 9 a:=⟨_,rfl⟩
  unfold jac at hj
  rw [Qr (show a≠0 by omega),cond_false,← hq,← hzz] at hj
  rw [← hq] at hq1 hq2
  rw [← hzz] at htz
  have hq':a / 2 ^ zz=q:=by rw [hzz,hq]
  repeat (first|refine Qd ?_|refine Qc fun _=>?_|refine w_al fun _=>?_)
  refine Qv rfl rfl rfl rfl rfl rfl (fun _=>yD (TabOK.more hQ uc) h1a ha2) ?_
  rintro v5 U5 D5 hU5 ⟨rfl,rfl⟩
  refine Vu (List.sublist_append_right D5 _) ?_
  rw [← hzz]
  repeat (first|refine Qd ?_|refine Qc fun _=>?_|refine w_al fun _=>?_)
  refine sl_y (qj (k := .u64) (m:=a) (n:=zz) rfl rfl rfl rfl rfl (by simp only [IntKind.bits]; omega) hq') rfl rfl rfl rfl ?_
  repeat (first|refine QcE ?_|refine Qc fun _=>?_|refine w_al fun _=>?_)
  obtain ⟨o1,ho1⟩:∃ o1,o1=bif Nat.beq (zz % 2) 1 && (Nat.beq (m % 8) 3 || Nat.beq (m % 8) 5) then -o else o:=⟨_,rfl⟩
  rw [← ho1] at hj
  have oT:zz % 2=1∧(m % 8=3∨m % 8=5) → -o=o1:=fun h=>by rw [ho1,jw h rfl]; rfl
  have oF:¬ (zz % 2=1∧(m % 8=3∨m % 8=5))→o=o1:=fun h=>by rw [ho1,jI h rfl]; rfl
  have nO:IntKind.i64.wrap (0 - o) = -o:=negZ64 (by omega)
  have bo1 : -1≤o1∧o1≤1:=by
   by_cases h:zz % 2=1∧(m % 8=3∨m % 8=5)
   ·rw [← oT h]; omega
   ·rw [← oF h]; exact ho
  have nO1:IntKind.i64.wrap (0 - o1) = -o1:=negZ64 (by omega)
  obtain ⟨o2,ho2⟩:∃ o2,o2=bif Nat.beq (q % 4) 3 && Nat.beq (m % 4) 3 then -o1 else o1:=⟨_,rfl⟩
  rw [← ho2] at hj
  have pT:q % 4=3∧m % 4=3 → -o1=o2:=fun h=>by rw [ho2,Yb h.1,Yb h.2]; rfl
  have pF:¬ (q % 4=3∧m % 4=3)→o1=o2:=fun h=>by
   rw [ho2]
   by_cases h1:q % 4=3
   ·rw [Yb h1,Qr (fun e=>h ⟨h1,e⟩)]; rfl
   ·rw [Qr h1]; rfl
  have bo2 : -1≤o2∧o2≤1:=by
   by_cases h:q % 4=3∧m % 4=3
   ·rw [← pT h]; omega
   ·rw [← pF h]; exact bo1
  have z2:zz % 2=1↔(zz:Int).tmod 2=1:=by
   show _↔((zz % 2:Nat):Int)=1
   omega
  have m83:m % 8=3↔(m:Int).tmod 8=3:=by
   show _↔((m % 8:Nat):Int)=3
   omega
  have m85:m % 8=5↔(m:Int).tmod 8=5:=by
   show _↔((m % 8:Nat):Int)=5
   omega
  have q43:q % 4=3↔(q:Int).tmod 4=3:=by
   show _↔((q % 4:Nat):Int)=3
   omega
  have m43:m % 4=3↔(m:Int).tmod 4=3:=by
   show _↔((m % 4:Nat):Int)=3
   omega
  refine YY (fun E U' M'=>U5=U'∧E=[(5,.int .i64 o1),(0,.int .u64 (q:Int)),(1,.int .u64 (m:Int))]∧ULe U5 U'∧M'=M) ?_ ?_
  ·try refine JV ?_
   refine QB rfl rfl (fun h5=>?_) (fun h5=>?_)
   ·try refine JV ?_
    refine QB rfl rfl (fun h6=>?_) (fun h6=>?_)
    ·repeat (first|refine Qd ?_|refine Qc fun _=>?_|refine w_al fun _=>?_)
     rw [nO,oT ⟨z2.2 h5,.inl (m83.2 h6)⟩]
     exact JD (E':=[(5,.int .i64 o1),(0,.int .u64 (q:Int)),(1,.int .u64 (m:Int))]) ⟨rfl,rfl,rfl,trivial⟩ ⟨rfl,rfl,uc,rfl⟩
    ·try refine JV ?_
     refine Qm rfl (fun h7=>?_) (fun h7=>?_)
     ·repeat (first|refine Qd ?_|refine Qc fun _=>?_|refine w_al fun _=>?_)
      rw [nO,oT ⟨z2.2 h5,.inr (m85.2 h7)⟩]
      exact JD (E':=[(5,.int .i64 o1),(0,.int .u64 (q:Int)),(1,.int .u64 (m:Int))]) ⟨rfl,rfl,rfl,trivial⟩ ⟨rfl,rfl,uc,rfl⟩
     ·repeat (first|refine Qd ?_|refine Qc fun _=>?_|refine w_al fun _=>?_)
      rw [oF (fun e=>e.2.elim (fun e=>h6 (m83.1 e)) (fun e=>h7 (m85.1 e)))]
      exact JD (E':=[(5,.int .i64 o1),(0,.int .u64 (q:Int)),(1,.int .u64 (m:Int))]) ⟨rfl,rfl,rfl,trivial⟩ ⟨rfl,rfl,uc,rfl⟩
   ·repeat (first|refine Qd ?_|refine Qc fun _=>?_|refine w_al fun _=>?_)
    rw [oF (fun e=>h5 (z2.1 e.1))]
    exact JD (E':=[(5,.int .i64 o1),(0,.int .u64 (q:Int)),(1,.int .u64 (m:Int))]) ⟨rfl,rfl,rfl,trivial⟩ ⟨rfl,rfl,uc,rfl⟩
  rintro E U1 M' ⟨rfl,rfl,hU1,hMM⟩
  obtain rfl:M=M':=hMM.symm
  repeat (first|refine QcE ?_|refine Qc fun _=>?_|refine w_al fun _=>?_)
  refine YY (fun E U' M'=>U5=U'∧E=[(5,.int .i64 o2),(0,.int .u64 (q:Int)),(1,.int .u64 (m:Int))]∧ULe U5 U'∧M'=M) ?_ ?_
  ·try refine JV ?_
   refine QB rfl rfl (fun h5=>?_) (fun h5=>?_)
   ·try refine JV ?_
    refine Qm rfl (fun h6=>?_) (fun h6=>?_)
    ·repeat (first|refine Qd ?_|refine Qc fun _=>?_|refine w_al fun _=>?_)
     rw [nO1,pT ⟨q43.2 h5,m43.2 h6⟩]
     exact JD (E':=[(5,.int .i64 o2),(0,.int .u64 (q:Int)),(1,.int .u64 (m:Int))]) ⟨rfl,rfl,rfl,trivial⟩ ⟨rfl,rfl,uc,rfl⟩
    ·repeat (first|refine Qd ?_|refine Qc fun _=>?_|refine w_al fun _=>?_)
     rw [pF (fun e=>h6 (m43.1 e.2))]
     exact JD (E':=[(5,.int .i64 o2),(0,.int .u64 (q:Int)),(1,.int .u64 (m:Int))]) ⟨rfl,rfl,rfl,trivial⟩ ⟨rfl,rfl,uc,rfl⟩
   ·repeat (first|refine Qd ?_|refine Qc fun _=>?_|refine w_al fun _=>?_)
    rw [pF (fun e=>h5 (q43.1 e.1))]
    exact JD (E':=[(5,.int .i64 o2),(0,.int .u64 (q:Int)),(1,.int .u64 (m:Int))]) ⟨rfl,rfl,rfl,trivial⟩ ⟨rfl,rfl,uc,rfl⟩
  rintro E U1 M' ⟨rfl,rfl,hU1,hMM⟩
  obtain rfl:M=M':=hMM.symm
  have hmq:((m:Int).tmod (q:Int))=((m % q:Nat):Int):=rfl
  have hml:=Nat.mod_lt m (show q > 0 by omega)
  repeat (first|refine Qd ?_|refine Qc fun _=>?_|refine w_al fun _=>?_)
  refine sl_y (QaW (k := .u64) (m:=m) (n:=q) (q:=Nat.mod m q) rfl rfl rfl rfl rfl (by simp only [kmax]; omega) (by omega) rfl) rfl rfl rfl rfl ?_
  have g1:Nat.mod m q < f:=show m % q < f by omega
  have g3:Nat.mod m q < a:=show m % q < a by omega
  have g2:Nat.mod m q≤400:=show m % q≤400 by omega
  repeat (first|refine Qd ?_|refine Qc fun _=>?_|refine w_al fun _=>?_)
  exact QD (E':=[(5,.int .i64 o2),(0,.int .u64 ((Nat.mod m q:Nat):Int)),(1,.int .u64 ((q:Nat):Int))]) (m:=(Nat.mod m q)) ⟨rfl,rfl,rfl,trivial⟩ (by omega) ⟨Nat.mod m q,q,o2,⟨f,g1,hj⟩,g2,hq1,by omega,bo2,rfl,rfl,uc,rfl,rfl⟩
 ·obtain rfl:a=0:=by omega
  obtain ⟨f,hf,hj⟩:=hJ
  obtain ⟨f,rfl⟩:∃ g,f=g+1:=⟨f - 1,by omega⟩
  unfold jac at hj
  rw [Yb rfl,cond_true] at hj
  repeat (first|refine Qd ?_|refine Qc fun _=>?_|refine w_al fun _=>?_)
  refine Qm rfl (fun h1=>?_) (fun h1=>?_)
  ·rw [Qr (show m≠1 by omega),cond_false] at hj
   repeat (first|refine Qd ?_|refine Qc fun _=>?_|refine w_al fun _=>?_)
   exact Qp [] sym rfl (.cons (.tmp rfl) .nil) uc sb (.inl rfl) ⟨by rw [← hj]; rfl,rfl,rfl⟩
  ·rw [Yb (show m=1 by omega),cond_true] at hj
   repeat (first|refine Qd ?_|refine Qc fun _=>?_|refine w_al fun _=>?_)
   exact Qp [] sym rfl (.cons (.tmp rfl) .nil) uc sb (.inl rfl) ⟨by rw [← hj]; rfl,rfl,rfl⟩
theorem QeE (hQ:TabOK Tryz.prog tys tb U) {D n:Nat} (h1:1≤D) (h2:D≤400) (hn1:1≤n) (hn2:n≤400) :
  Ct Tryz.prog 19 [.int .i64 (-(D:Int)),.int .i64 (n:Int)] G U M fun v U' J=>v = .int .i64 (kr D n)∧U=U'∧J=[]:=by
 obtain ⟨hm1,hm2⟩:=Qcr hn1
 have htz:=QbW (f:=9) (a:=n)
 obtain ⟨zz,hzz⟩:∃ zz,zz=tz 9 n:=⟨_,rfl⟩
 obtain ⟨m,hm⟩:∃ m,m=n / 2 ^ tz 9 n:=⟨_,rfl⟩
 obtain ⟨R,hR⟩:∃ R,R=(8 - D % 8) % 8:=⟨_,rfl⟩
 obtain ⟨o1,ho1⟩:∃ o1:Int,o1=bif Nat.beq (zz % 2) 1 && (Nat.beq R 3 || Nat.beq R 5) then -1 else 1:=⟨_,rfl⟩
 obtain ⟨Jv,hJv⟩:∃ Jv,Jv=jac 401 ((m - D % m) % m) m 1:=⟨_,rfl⟩
 have hkr:kr D n=bif Nat.ble 1 zz && Nat.beq (D % 2) 0 then 0 else o1*Jv:=by
  rw [hJv,ho1,hR,hm,hzz]; rfl
 have bJ : -1≤Jv∧Jv≤1:=by rw [hJv]; exact Qae (by decide)
 have k0:1≤zz→D % 2=0→kr D n=0:=fun e1 e2=>by rw [hkr,Nat.ble_eq_true_of_le e1,Yb e2]; rfl
 have k1:¬ (1≤zz∧D % 2=0)→kr D n=o1*Jv:=fun e=>by
  rw [hkr]
  by_cases e1:1≤zz
  ·rw [Qr (fun e2=>e ⟨e1,e2⟩),Bool.and_false,cond_false]
  ·rw [show Nat.ble 1 zz=false by rw [Bool.eq_false_iff]; exact fun h=>e1 (Nat.le_of_ble_eq_true h)]; rfl
 have oT:zz % 2=1∧(R=3∨R=5) → -1=o1:=fun h=>by rw [ho1,jw h rfl]; rfl
 have oF:¬ (zz % 2=1∧(R=3∨R=5))→1=o1:=fun h=>by rw [ho1,jI h rfl]; rfl
 have bo:o1=1∨o1 = -1:=by
  by_cases h:zz % 2=1∧(R=3∨R=5)
  ·right; rw [← oT h]
  ·left; rw [← oF h]
 have hRR:(-(D:Int)) % 8=(R:Int):=by rw [hR]; omega
 have z2:zz % 2=1↔(zz:Int).tmod 2=1:=by
  show _↔((zz % 2:Nat):Int)=1
  omega
 have d2:D % 2=0↔(-(D:Int)).tmod 2=0:=by rw [QfE]; omega
 have hm':n / 2 ^ zz=m:=by rw [hzz,hm]
 rw [← hm] at hm1 hm2
 rw [← hzz] at htz
 have hred:(m - D % m) % m≤400:=Nat.le_of_lt (Nat.lt_of_lt_of_le (Nat.mod_lt _ hm1) (by omega))
 refine QO Tryz.func19 rfl rfl rfl rfl ?_
 repeat (first|refine Qd ?_|refine Qc fun _=>?_|refine w_al fun _=>?_)
 refine Qm rfl (fun h=>absurd h (by omega)) (fun _=>?_)
 repeat (first|refine Qd ?_|refine Qc fun _=>?_|refine w_al fun _=>?_)
 refine Qm rfl (fun h=>absurd h (by omega)) (fun _=>?_)
 repeat (first|refine QcE ?_|refine Qc fun _=>?_|refine w_al fun _=>?_)
 refine YY (fun E U' M'=>kr D n=o1*Jv∧U=U'∧E=[(5,.int .i64 o1),(6,.int .u64 (m:Int)),(0,.int .i64 (-(D:Int)))]∧ULe U U'∧M'=M) ?_ ?_
 ·repeat (first|refine Qd ?_|refine Qc fun _=>?_|refine w_al fun _=>?_)
  refine Qv rfl rfl rfl rfl rfl rfl (fun _=>yD (TabOK.more hQ uc) hn1 hn2) ?_
  rintro v5 U5 D5 hU5 ⟨rfl,rfl⟩
  refine Vu (List.sublist_append_right D5 _) ?_
  rw [← hzz]
  repeat (first|refine Qd ?_|refine Qc fun _=>?_|refine w_al fun _=>?_)
  refine Qm rfl (fun h3=>?_) (fun h3=>?_)
  ·have hz1:1≤zz:=by omega
   repeat (first|refine Qd ?_|refine Qc fun _=>?_|refine w_al fun _=>?_)
   refine Qm rfl (fun h4=>?_) (fun h4=>?_)
   ·repeat (first|refine Qd ?_|refine Qc fun _=>?_|refine w_al fun _=>?_)
    exact Qp [] sym rfl (.cons (.tmp rfl) .nil) uc sb (.inl rfl) ⟨by rw [k0 hz1 (d2.2 h4)]; rfl,rfl,rfl⟩
   ·have hk:=k1 (fun e=>h4 (d2.1 e.2))
    repeat (first|refine Qd ?_|refine Qc fun _=>?_|refine w_al fun _=>?_)
    refine sl_y (qj (k := .u64) (m:=n) (n:=zz) rfl rfl rfl rfl rfl (by simp only [IntKind.bits]; omega) hm') rfl rfl rfl rfl ?_
    repeat (first|refine Qd ?_|refine Qc fun _=>?_|refine w_al fun _=>?_)
    refine Qv rfl rfl rfl rfl rfl rfl (fun _=>vz (by decide) (by decide)) ?_
    rintro v6 U6 D6 hU6 ⟨rfl,rfl,rfl⟩
    rw [List.nil_append,hRR]
    repeat (first|refine Qd ?_|refine Qc fun _=>?_|refine w_al fun _=>?_)
    refine QB rfl rfl (fun h5=>?_) (fun h5=>?_)
    ·try refine JV ?_
     refine QB rfl rfl (fun h6=>?_) (fun h6=>?_)
     ·repeat (first|refine Qd ?_|refine Qc fun _=>?_|refine w_al fun _=>?_)
      rw [show IntKind.i64.wrap (0 - 1)=o1 from Eq.trans (by decide) (oT ⟨z2.2 h5,.inl (by omega)⟩)]
      exact JD (E':=[(5,.int .i64 o1),(6,.int .u64 (m:Int)),(0,.int .i64 (-(D:Int)))]) ⟨rfl,rfl,rfl,trivial⟩ ⟨hk,rfl,rfl,uc,rfl⟩
     ·try refine JV ?_
      refine Qm rfl (fun h7=>?_) (fun h7=>?_)
      ·repeat (first|refine Qd ?_|refine Qc fun _=>?_|refine w_al fun _=>?_)
       rw [show IntKind.i64.wrap (0 - 1)=o1 from Eq.trans (by decide) (oT ⟨z2.2 h5,.inr (by omega)⟩)]
       exact JD (E':=[(5,.int .i64 o1),(6,.int .u64 (m:Int)),(0,.int .i64 (-(D:Int)))]) ⟨rfl,rfl,rfl,trivial⟩ ⟨hk,rfl,rfl,uc,rfl⟩
      ·repeat (first|refine Qd ?_|refine Qc fun _=>?_|refine w_al fun _=>?_)
       obtain rfl:1=o1:=oF (fun e=>e.2.elim (fun e=>h6 (by omega)) (fun e=>h7 (by omega)))
       exact JD (E':=[(5,.int .i64 1),(6,.int .u64 (m:Int)),(0,.int .i64 (-(D:Int)))]) ⟨rfl,rfl,rfl,trivial⟩ ⟨hk,rfl,rfl,uc,rfl⟩
    ·repeat (first|refine Qd ?_|refine Qc fun _=>?_|refine w_al fun _=>?_)
     obtain rfl:1=o1:=oF (fun e=>h5 (z2.1 e.1))
     exact JD (E':=[(5,.int .i64 1),(6,.int .u64 (m:Int)),(0,.int .i64 (-(D:Int)))]) ⟨rfl,rfl,rfl,trivial⟩ ⟨hk,rfl,rfl,uc,rfl⟩
  ·have hz0:zz=0:=by omega
   have hk:=k1 (fun e=>by omega)
   obtain rfl:m=n:=by rw [← hm',hz0]; exact Nat.div_one n
   repeat (first|refine Qd ?_|refine Qc fun _=>?_|refine w_al fun _=>?_)
   obtain rfl:1=o1:=oF (fun e=>by omega)
   exact JD (E':=[(5,.int .i64 1),(6,.int .u64 (m:Int)),(0,.int .i64 (-(D:Int)))]) ⟨rfl,rfl,rfl,trivial⟩ ⟨hk,rfl,rfl,uc,rfl⟩
 rintro E U1 M' ⟨hk,rfl,rfl,hU1,hMM⟩
 obtain rfl:M=M':=hMM.symm
 repeat (first|refine Qd ?_|refine Qc fun _=>?_|refine w_al fun _=>?_)
 refine Qv rfl rfl rfl rfl rfl rfl (fun _=>vf h1 h2 hm1 (by omega)) ?_
 rintro v8 U8 D8 hU8 ⟨rfl,rfl,rfl⟩
 rw [List.nil_append]
 repeat (first|refine Qd ?_|refine Qc fun _=>?_|refine w_al fun _=>?_)
 refine Qv rfl rfl rfl rfl rfl rfl (fun _=>QbC (TabOK.more hQ uc) hred hm1 (by omega)) ?_
 rintro v9 U9 D9 hU9 ⟨rfl,rfl,rfl⟩
 rw [List.nil_append,← hJv]
 have bm : -1≤o1*Jv∧o1*Jv≤1:=by
  rcases bo with h | h<;>rw [h]<;>omega
 repeat (first|refine Qd ?_|refine Qc fun _=>?_|refine w_al fun _=>?_)
 exact Qp [] sym rfl (.cons (.tmp rfl) .nil) uc sb (.inl rfl) ⟨by rw [hk]; rfl,rfl,rfl⟩
end Go.Proofs.YtnjpkncacddplaaGreatDoor

/- The law TopRepresentations: the walk. -/
namespace Go.Proofs.YtnjpkncacddplaaGreatDoor
open Go.Hp Go.Gx Go.Rp
variable {G:World} {U U':UH} {M:MH}
theorem vm {D:Nat} {n:Int} {f:Int × Int × Int}:∀ {l:List (Int × Int × Int)},rps D n (l++[f])=rps D n l+Go.Rp.rp (bX D f) (bY D f) f.1 f.2.1 f.2.2 n
 | []=>by
  show Go.Rp.rp (bX D f) (bY D f) f.1 f.2.1 f.2.2 n+0=0+_
  omega
 | g::r=>by
  show Go.Rp.rp (bX D g) (bY D g) g.1 g.2.1 g.2.2 n+rps D n (r++[f])=Go.Rp.rp (bX D g) (bY D g) g.1 g.2.1 g.2.2 n+rps D n r+_
  rw [vm]; omega
theorem qA {D:Nat}:∀ {l:List (Int × Int × Int)} {i:Nat},bds D (l.take i)≤bds D l
 | [],i=>by rw [List.take_nil]; exact Nat.le_refl _
 | f::r,0=>Nat.zero_le _
 | f::r,i+1=>Nat.add_le_add_left (qA (l:=r)) _
theorem QaN {D:Nat}:∀ {l:List (Int × Int × Int)},l.length≤bds D l
 | []=>Nat.le_refl _
 | f::r=>by
  have h1:=QaN (D:=D) (l:=r)
  have h2:=Nat.mul_le_mul (show 1≤2*bX D f+1 by omega) (show 1≤2*bY D f+1 by omega)
  show r.length+1≤(2*bX D f+1)*(2*bY D f+1)+bds D r
  omega
theorem jH {α:Type} {l:List α} {i:Nat} {x:α} (h:l[i]?=some x):l.take (i+1)=l.take i++[x]:=by
 rw [List.take_add_one,h]; rfl
theorem Qft {D:Nat} (h:D ∈ fds):bds D (cls D)≤50000:=by
 have h1:=vX h
 unfold chkd at h1
 simp only [Bool.and_eq_true] at h1
 exact Nat.le_of_ble_eq_true h1.2.1
def skr (D:Nat):List Nat→Int
 | []=>0
 | m::r=>kr D m+skr D r
theorem QaI {D:Nat}:∀ {l:List Nat},(l.map (kr D)).sum=skr D l
 | []=>rfl
 | m::r=>by
  rw [List.map_cons,List.sum_cons,QaI]; rfl
theorem vt {D m:Nat}:∀ {l:List Nat},skr D (l++[m])=skr D l+kr D m
 | []=>by show kr D m+0=0+kr D m; omega
 | x::r=>by
  show kr D x+skr D (r++[m])=kr D x+skr D r+kr D m
  rw [vt]; omega
theorem Qdm {D:Nat}:∀ {l:List Nat},-(l.length:Int)≤skr D l∧skr D l≤l.length
 | []=>⟨Int.le_refl 0,Int.le_refl 0⟩
 | m::r=>by
  have h1:=Qdm (D:=D) (l:=r)
  have h2:=Qci D m
  show -((r.length+1:Nat):Int)≤kr D m+skr D r∧kr D m+skr D r≤((r.length+1:Nat):Int)
  omega
theorem QcD {n m:Nat} (h:m ∈ divs 400 n):1≤m∧m≤400:=by
 have h1:=List.mem_range'_1.1 (List.mem_filter.1 h).1
 omega
theorem QcQ {n:Nat}:(divs 400 n).length≤400:=by
 have h1:=List.length_filter_le (fun m=>Nat.beq (n % m) 0) (List.range' 1 400)
 rw [List.length_range'] at h1
 exact h1
set_option maxHeartbeats 8000000 in
theorem Yw (hQ:TabOK Tryz.prog tys tb U) {d n:Int} (ip : -9223372036854775808≤d∧d≤9223372036854775807) (iq : -9223372036854775808≤n∧n≤9223372036854775807) :
  Ct Tryz.prog 4 [.int .i64 d,.int .i64 n] G U M fun v _ _=>v = .bool true:=by
 refine QO Tryz.func4 rfl rfl rfl rfl ?_
 repeat (first|refine Qd ?_|refine Qc fun _=>?_|refine w_al fun _=>?_)
 refine Qv rfl rfl rfl rfl rfl rfl (fun _=>Qbp (TabOK.more hQ uc)) ?_
 rintro v12 U12 D12 hU12 ⟨rfl,rfl⟩
 refine Vu (List.sublist_append_right D12 _) ?_
 repeat (first|refine Qd ?_|refine Qc fun _=>?_|refine w_al fun _=>?_)
 refine QB rfl rfl (fun h1=>?_) (fun h1=>?_)
 ·repeat (first|refine Qd ?_|refine Qc fun _=>?_|refine w_al fun _=>?_)
  exact Qp [] sym rfl (.cons (.tmp rfl) .nil) uc sb (.inl rfl) rfl
 repeat (first|refine Qd ?_|refine Qc fun _=>?_|refine w_al fun _=>?_)
 refine QB rfl rfl (fun h2=>?_) (fun h2=>?_)
 ·repeat (first|refine Qd ?_|refine Qc fun _=>?_|refine w_al fun _=>?_)
  exact Qp [] sym rfl (.cons (.tmp rfl) .nil) uc sb (.inl rfl) rfl
 repeat (first|refine Qd ?_|refine Qc fun _=>?_|refine w_al fun _=>?_)
 refine QB rfl rfl (fun h3=>?_) (fun h3=>?_)
 ·repeat (first|refine Qd ?_|refine Qc fun _=>?_|refine w_al fun _=>?_)
  exact Qp [] sym rfl (.cons (.tmp rfl) .nil) uc sb (.inl rfl) rfl
 repeat (first|refine Qd ?_|refine Qc fun _=>?_|refine w_al fun _=>?_)
 refine Qm rfl (fun h4=>?_) (fun h4=>?_)
 ·repeat (first|refine Qd ?_|refine Qc fun _=>?_|refine w_al fun _=>?_)
  exact Qp [] sym rfl (.cons (.tmp rfl) .nil) uc sb (.inl rfl) rfl
 obtain ⟨D,rfl⟩:∃ D:Nat,d = -(D:Int):=⟨d.natAbs,by omega⟩
 obtain ⟨N,rfl⟩:∃ N:Nat,n=(N:Int):=⟨n.toNat,by omega⟩
 have hD1:1≤D:=by omega
 have hD2:D≤400:=by omega
 have hN1:1≤N:=by omega
 have hN2:N≤400:=by omega
 repeat (first|refine Qd ?_|refine Qc fun _=>?_|refine w_al fun _=>?_)
 refine Qv rfl rfl rfl rfl rfl rfl (fun _=>vV (TabOK.more hQ uc) hD1 hD2) ?_
 rintro v13 U13 D13 hU13 ⟨rfl,x,c,e,rfl,hF⟩
 refine Vu (List.sublist_append_right D13 _) ?_
 repeat (first|refine Qd ?_|refine Qc fun _=>?_|refine w_al fun _=>?_)
 refine QB rfl rfl (fun h5=>?_) (fun h5=>?_)
 ·repeat (first|refine Qd ?_|refine Qc fun _=>?_|refine w_al fun _=>?_)
  exact Qp [] sym rfl (.cons (.tmp rfl) .nil) uc sb (.inl rfl) rfl
 repeat (first|refine Qd ?_|refine Qc fun _=>?_|refine w_al fun _=>?_)
 refine QB rfl rfl (fun h6=>?_) (fun h6=>?_)
 ·repeat (first|refine Qd ?_|refine Qc fun _=>?_|refine w_al fun _=>?_)
  exact Qp [] sym rfl (.cons (.tmp rfl) .nil) uc sb (.inl rfl) rfl
 repeat (first|refine Qd ?_|refine Qc fun _=>?_|refine w_al fun _=>?_)
 refine Qm rfl (fun h7=>?_) (fun h7=>?_)
 ·repeat (first|refine Qd ?_|refine Qc fun _=>?_|refine w_al fun _=>?_)
  exact Qp [] sym rfl (.cons (.tmp rfl) .nil) uc sb (.inl rfl) rfl
 have hD:D ∈ fds:=hF (Decidable.not_not.1 h6) (Decidable.not_not.1 h7) (Decidable.not_not.1 h5)
 have hbds:=Qft hD
 have hlen:=QaN (D:=D) (l:=cls D)
 repeat (first|refine Qd ?_|refine Qc fun _=>?_|refine w_al fun _=>?_)
 refine Qv rfl rfl rfl rfl rfl rfl (fun _=>QbA (TabOK.more hQ uc) hD) ?_
 rintro v14 U14 D14 hU14 ⟨p,cc,rfl,hpc,rw1,rfl⟩
 rw [List.nil_append]
 have hQ14:TabOK Tryz.prog tys tb U14:=TabOK.more hQ uc
 obtain ⟨f0,r0,hc0,hC0⟩:=Qbs (G:=G) hQ14 hD
 have hL1:1≤(cls D).length:=by rw [hc0]; exact Nat.succ_le_succ (Nat.zero_le _)
 repeat (first|refine Qd ?_|refine Qc fun _=>?_|refine w_al fun _=>?_)
 refine QB rfl rfl (fun h8=>absurd rfl h8) (fun _=>?_)
 repeat (first|refine Qd ?_|refine Qc fun _=>?_|refine w_al fun _=>?_)
 refine Qm rfl (fun h8=>absurd h8 (by omega)) (fun _=>?_)
 repeat (first|refine Qd ?_|refine Qc fun _=>?_|refine w_al fun _=>?_)
 try refine Yp (M':=M) (ULe.refl _) sbk ?_
 refine JS (fun z E U' M'=>∃ (i:Nat) (s:Int),i≤(cls D).length∧s=rps D N ((cls D).take i)∧U14=U'∧E=[(11,.int .i64 (i:Int)),(10,.int .i64 s),(8,.slice p (cls D).length cc),(0,.int .i64 (-(D:Int))),(1,.int .i64 (N:Int))]∧ULe U14 U'∧M'=M∧z=(cls D).length - i) (n0:=(cls D).length - 0) (E0:=[(11,.int .i64 ((0:Nat):Int)),(10,.int .i64 0),(8,.slice p (cls D).length cc),(0,.int .i64 (-(D:Int))),(1,.int .i64 (N:Int))]) ⟨rfl,rfl,rfl,rfl,rfl,trivial⟩ ⟨0,0,by omega,rfl,rfl,rfl,uc,rfl,rfl⟩ ?_
 rintro z E U1 M' ⟨i,s,hi,hs,rfl,rfl,hU1,hMM,rfl⟩
 obtain rfl:M=M':=hMM.symm
 try refine JV ?_
 refine Qm rfl (fun h9=>?_) (fun h9=>?_)
 ·have hin:i < (cls D).length:=by omega
  obtain ⟨f,hf⟩:∃ f,(cls D)[i]?=some f:=⟨_,List.getElem?_eq_getElem hin⟩
  have hmem:=List.mem_of_getElem? hf
  have hok:=Qfi hD hmem
  obtain ⟨a,b,c⟩:=f
  unfold okF at hok
  simp only [Bool.and_eq_true,Bool.or_eq_true,decide_eq_true_eq] at hok
  obtain ⟨o1,o2,o3,o4,o5,o6,o7,o8,o9⟩:=hok
  have hv1:((cls D).map vF)[i]?=some (.agg #[.int .i64 a,.int .i64 b,.int .i64 c]):=by rw [List.getElem?_map,hf]; rfl
  have hb1:=yz (D:=D) (n:=(N:Int)) (l:=(cls D).take i)
  have hb2:=qA (D:=D) (l:=cls D) (i:=i)
  have hb3:=yz (D:=D) (n:=(N:Int)) (l:=(cls D).take (i+1))
  have hb4:=qA (D:=D) (l:=cls D) (i:=i+1)
  have hsn:=vm (D:=D) (n:=(N:Int)) (f:=(a,b,c)) (l:=(cls D).take i)
  rw [← jH hf,← hs] at hsn
  have hsn:rps D (N:Int) ((cls D).take (i+1))=s+Go.Rp.rp (bX D (a,b,c)) (bY D (a,b,c)) a b c N:=hsn
  rw [← hs] at hb1
  repeat (first|refine Qd ?_|refine Qc fun _=>?_|refine w_al fun _=>?_)
  refine sl_y (Vl sym rfl rfl rfl rfl rfl rfl ((rw1.up uc sb).lt hv1) ((rw1.up uc sb).get _ _ hv1).1) rfl rfl rfl rfl ?_; refine sl_y (jq sym rfl rfl rfl rfl rfl (rw1.up uc sb) hv1) rfl rfl rfl rfl ?_
  repeat (first|refine Qd ?_|refine Qc fun _=>?_|refine w_al fun _=>?_)
  refine Qv rfl rfl rfl rfl rfl rfl (fun _=>QeB (D:=D) (n:=N) (X:=bX D (a,b,c)) (Y:=bY D (a,b,c)) o1 (by omega) (by omega) o6 o7 hD1 hD2 hN1 hN2 o8 o9) ?_
  rintro v15 U15 D15 hU15 ⟨rfl,rfl,rfl⟩
  rw [List.nil_append]
  repeat (first|refine Qd ?_|refine Qc fun _=>?_|refine w_al fun _=>?_)
  refine Qm rfl (fun h=>absurd rfl h) (fun _=>?_)
  repeat (first|refine Qd ?_|refine Qc fun _=>?_|refine w_al fun _=>?_)
  exact QD (E':=[(11,.int .i64 ((i:Int)+1)),(10,.int .i64 (s+Go.Rp.rp (bX D (a,b,c)) (bY D (a,b,c)) a b c N)),(8,.slice p (cls D).length cc),(0,.int .i64 (-(D:Int))),(1,.int .i64 (N:Int))]) (m:=(cls D).length - (i+1)) ⟨rfl,rfl,rfl,rfl,rfl,trivial⟩ (by omega) ⟨i+1,s+Go.Rp.rp (bX D (a,b,c)) (bY D (a,b,c)) a b c N,by omega,hsn.symm,rfl,rfl,uc,rfl,rfl⟩
 obtain rfl:(cls D).length=i:=by omega
 rw [List.take_length] at hs
 rw [hs]
 repeat (first|refine Qd ?_|refine Qc fun _=>?_|refine w_al fun _=>?_)
 have hv0:((cls D).map vF)[0]?=some (vF f0):=by rw [hc0]; rfl
 have hok:=Qfi hD (show f0 ∈ cls D by rw [hc0]; exact List.mem_cons_self ..)
 obtain ⟨a,b,c⟩:=f0
 unfold okF at hok
 simp only [Bool.and_eq_true,Bool.or_eq_true,decide_eq_true_eq] at hok
 obtain ⟨o1,o2,o3,o4,o5,o6,o7,o8,o9⟩:=hok
 have hv0:((cls D).map vF)[0]?=some (.agg #[.int .i64 a,.int .i64 b,.int .i64 c]):=hv0
 have hC0:∀ {M:MH},Ct Tryz.prog 62 [.agg #[.int .i64 a,.int .i64 b,.int .i64 c]] G U14 M fun v U' _=>U'=U14∧v = .int .i64 1:=hC0
 refine sl_y (Vl sym rfl rfl rfl rfl rfl rfl ((rw1.up uc sb).lt hv0) ((rw1.up uc sb).get _ _ hv0).1) rfl rfl rfl rfl ?_; refine sl_y (jq sym rfl rfl rfl rfl rfl (rw1.up uc sb) hv0) rfl rfl rfl rfl ?_
 repeat (first|refine Qd ?_|refine Qc fun _=>?_|refine w_al fun _=>?_)
 refine Qv rfl rfl rfl rfl rfl rfl (fun _=>QeY (D:=D) o1 (by omega) (by omega) o7 hD1 hD2 hC0) ?_
 rintro v16 U16 D16 hU16 ⟨rfl,hU16',rfl⟩
 rw [List.nil_append]
 repeat (first|refine Qd ?_|refine Qc fun _=>?_|refine w_al fun _=>?_)
 refine Qv rfl rfl rfl rfl rfl rfl (fun _=>Qbu (TabOK.more hQ uc) hN1 hN2) ?_
 rintro v17 U17 D17 hU17 ⟨p2,c2,rfl,hpc2,rw2,rfl⟩
 rw [List.nil_append]
 have hQ17:TabOK Tryz.prog tys tb U17:=TabOK.more hQ uc
 obtain ⟨w0,w6⟩:=Qfo D
 have hdl:=QcQ (n:=N)
 repeat (first|refine Qd ?_|refine Qc fun _=>?_|refine w_al fun _=>?_)
 refine QB rfl rfl (fun h8=>absurd rfl h8) (fun _=>?_)
 repeat (first|refine Qd ?_|refine Qc fun _=>?_|refine w_al fun _=>?_)
 refine Qm rfl (fun h8=>absurd rfl h8) (fun _=>?_)
 repeat (first|refine Qd ?_|refine Qc fun _=>?_|refine w_al fun _=>?_)
 try refine Yp (M':=M) (ULe.refl _) sbk ?_
 refine JS (fun z E U' M'=>∃ (i:Nat) (s:Int),i≤(divs 400 N).length∧s=wN D*skr D ((divs 400 N).take i)∧U17=U'∧E=[(19,.int .i64 (i:Int)),(18,.int .i64 s),(16,.slice p2 (divs 400 N).length c2),(14,.int .i64 (wN D)),(10,.int .i64 (rps D N (cls D))),(0,.int .i64 (-(D:Int)))]∧ULe U17 U'∧M'=M∧z=(divs 400 N).length - i) (n0:=(divs 400 N).length - 0) (E0:=[(19,.int .i64 ((0:Nat):Int)),(18,.int .i64 0),(16,.slice p2 (divs 400 N).length c2),(14,.int .i64 (wN D)),(10,.int .i64 (rps D N (cls D))),(0,.int .i64 (-(D:Int)))]) ⟨rfl,rfl,rfl,rfl,rfl,rfl,trivial⟩ ⟨0,0,by omega,(Int.mul_zero _).symm,rfl,rfl,uc,rfl,rfl⟩ ?_
 rintro z E U1 M' ⟨i,s,hi,hs,rfl,rfl,hU1,hMM,rfl⟩
 obtain rfl:M=M':=hMM.symm
 try refine JV ?_
 refine Qm rfl (fun h9=>?_) (fun h9=>?_)
 ·have hin:i < (divs 400 N).length:=by omega
  obtain ⟨m,hm⟩:∃ m,(divs 400 N)[i]?=some m:=⟨_,List.getElem?_eq_getElem hin⟩
  have hv1:((divs 400 N).map fun m:Nat=>Value.int .i64 (m:Int))[i]?=some (.int .i64 (m:Int)):=by rw [List.getElem?_map,hm]; rfl
  obtain ⟨hm1,hm2⟩:=QcD (List.mem_of_getElem? hm)
  have kb:=Qci D m
  have k1:=mulb (show -6≤wN D∧wN D≤6 by omega) (show -1≤kr D m∧kr D m≤1 by omega)
  have k2:=Qdm (D:=D) (l:=(divs 400 N).take i)
  rw [List.length_take] at k2
  have k3:=mulb (show -6≤wN D∧wN D≤6 by omega) (show -400≤skr D ((divs 400 N).take i)∧skr D ((divs 400 N).take i)≤400 by omega)
  have hsn:wN D*skr D ((divs 400 N).take (i+1))=s+wN D*kr D m:=by
   rw [jH hm,vt,Int.mul_add,hs]
  repeat (first|refine Qd ?_|refine Qc fun _=>?_|refine w_al fun _=>?_)
  refine sl_y (Vl sym rfl rfl rfl rfl rfl rfl ((rw2.up uc sb).lt hv1) ((rw2.up uc sb).get _ _ hv1).1) rfl rfl rfl rfl ?_; refine sl_y (Qbi sym rfl rfl rfl rfl (rw2.up uc sb) hv1 rfl) rfl rfl rfl rfl ?_
  repeat (first|refine Qd ?_|refine Qc fun _=>?_|refine w_al fun _=>?_)
  refine Qv rfl rfl rfl rfl rfl rfl (fun _=>QeE (TabOK.more hQ17 uc) hD1 hD2 hm1 hm2) ?_
  rintro v18 U18 D18 hU18 ⟨rfl,rfl,rfl⟩
  rw [List.nil_append]
  repeat (first|refine Qd ?_|refine Qc fun _=>?_|refine w_al fun _=>?_)
  exact QD (E':=[(19,.int .i64 ((i:Int)+1)),(18,.int .i64 (s+wN D*kr D m)),(16,.slice p2 (divs 400 N).length c2),(14,.int .i64 (wN D)),(10,.int .i64 (rps D N (cls D))),(0,.int .i64 (-(D:Int)))]) (m:=(divs 400 N).length - (i+1)) ⟨rfl,rfl,rfl,rfl,rfl,rfl,trivial⟩ (by omega) ⟨i+1,s+wN D*kr D m,by omega,hsn.symm,rfl,rfl,uc,rfl,rfl⟩
 obtain rfl:(divs 400 N).length=i:=by omega
 rw [List.take_length] at hs
 have hlaw:=QfW hD hN1 hN2
 rw [QaI,← hs] at hlaw
 rw [hlaw]
 repeat (first|refine Qd ?_|refine Qc fun _=>?_|refine w_al fun _=>?_)
 exact Qp [] sym rfl (.cons (.tmp rfl) .nil) uc sb (.inl rfl) (by rw [Qdf rfl]; rfl)
end Go.Proofs.YtnjpkncacddplaaGreatDoor
