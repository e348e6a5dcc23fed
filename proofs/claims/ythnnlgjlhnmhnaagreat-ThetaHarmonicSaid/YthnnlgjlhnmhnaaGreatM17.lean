/- Texts of this seat's own, merged: each begins with its own remark. -/
import Derived.Test.YthnnlgjlhnmhnaaGreatM16
import Derived.Test.YthnnlgjlhnmhnaaGreatM2
import Derived.Test.YthnnlgjlhnmhnaaGreatM15
/- Walks of the statements' helpers: small integers and fractions. -/
namespace Go.Proofs.YthnnlgjlhnmhnaaGreat
open Go.Hp
variable {G:World} {U:UH} {M:MH}
theorem Own.bd {D:MH} {p:Option Addr} {n c:Nat} {l:List Nat} (h:Own D p n c l):Bd l:=by
 cases h with
 | nil=>intro d hd; cases hd
 | arr hn hc hm hb ht=>exact hb
theorem Qaw {z:Int} (h0 : -9223372036854775808≤z) (h1:z≤9223372036854775807) :
  Ct Tryz.prog 79 [.int .i64 z] G U M fun v U' D=>∃ r:IV,v=r.v∧r.own D z∧ULe U U':=by
 refine Qh Tryz.func79 rfl rfl rfl rfl ?_
 repeat (first|refine Ji ?_|refine Qa fun _=>?_|refine w_al fun _=>?_)
 refine QE ?_
 repeat (first|refine Ji ?_|refine Qa fun _=>?_|refine w_al fun _=>?_)
 rename_i b2
 refine QE ?_
 repeat (first|refine Ji ?_|refine Qa fun _=>?_|refine w_al fun _=>?_)
 refine Qo (fun E U' M'=>E=[(0,.int .i64 z),(2,.pointer (some ⟨b2,0,none⟩)),(3,.int .u64 (z.natAbs:Int))]∧U=U'∧M'=(b2,.var (.agg #[.bool false,.slice none 0 0]),46)::M) ?_ ?_
 ·repeat (first|refine Qc ?_|refine Qa fun _=>?_|refine w_al fun _=>?_)
  refine Qi rfl (fun h2=>?_) (fun h2=>?_)
  ·repeat (first|refine Qc ?_|refine Qa fun _=>?_|refine w_al fun _=>?_)
   rw [show IntKind.u64.wrap (0 - IntKind.u64.wrap z)=(z.natAbs:Int) by rw [wrap_u64,wrap_u64]; omega]
   exact Qn (E':=[(0,.int .i64 z),(2,.pointer (some ⟨b2,0,none⟩)),(3,.int .u64 (z.natAbs:Int))]) ⟨rfl,rfl,rfl,trivial⟩ ⟨rfl,rfl,rfl⟩
  ·rw [show IntKind.u64.wrap z=(z.natAbs:Int) by rw [wrap_u64]; omega]
   repeat (first|refine Qc ?_|refine Qa fun _=>?_|refine w_al fun _=>?_)
   exact Qn (E':=[(0,.int .i64 z),(2,.pointer (some ⟨b2,0,none⟩)),(3,.int .u64 (z.natAbs:Int))]) ⟨rfl,rfl,rfl,trivial⟩ ⟨rfl,rfl,rfl⟩
 ·rintro E U' M' ⟨rfl,rfl,rfl⟩
  have hm:z.natAbs < 18446744073709551616:=by omega
  repeat (first|refine Qc ?_|refine Qa fun _=>?_|refine w_al fun _=>?_)
  rename_i b4
  refine Ql (fun m E U' M'=>∃ (p:Option Addr) (n c:Nat) (l:List Nat) (D:MH),Own D p n c l∧n≤10∧z.natAbs=val l+4294967296 ^ n*m∧m*4294967296 ^ n < 18446744073709551616∧(m=0→Cn l) ∧
    E=[(3,.int .u64 (m:Int)),(4,.pointer (some ⟨b4,0,none⟩)),(2,.pointer (some ⟨b2,0,none⟩))]∧U=U' ∧
    M'=(b4,.var (.agg #[.bool (dec (z < 0)),.slice p n c]),46)::(b2,.var (.agg #[.bool false,.slice none 0 0]),46)::(D++M)) (n0:=z.natAbs)
   (E0:=[(3,.int .u64 (z.natAbs:Int)),(4,.pointer (some ⟨b4,0,none⟩)),(2,.pointer (some ⟨b2,0,none⟩))]) ⟨rfl,rfl,rfl,trivial⟩
   ⟨none,0,0,[],[],Own.nil,by omega,by simp [val],by omega,fun _=>Cn.nil,rfl,rfl,rfl⟩ ?_
  rintro m E U' M' ⟨p,n,c,l,D,ho,hn,hv,hb,hc,rfl,rfl,rfl⟩
  have hol:=ho.len
  try refine Qb ?_
  refine Qi rfl (fun h5=>?_) (fun h5=>?_)
  ·have hn2:n≤1:=by
    rcases Nat.lt_or_ge 1 n with h | h
    ·exfalso
     have h6:(4294967296:Nat) ^ 2≤4294967296 ^ n:=Nat.pow_le_pow_right (by decide) (by omega)
     have h7:1*4294967296 ^ n≤m*4294967296 ^ n:=Nat.mul_le_mul_right _ (by omega)
     omega
    ·exact h
   have hm64:m < 18446744073709551616:=by
    have:m*1≤m*4294967296 ^ n:=Nat.mul_le_mul_left _ (Nat.pow_pos (by decide))
    omega
   try refine Qb ?_
   have e1:((m:Int) % 4294967296)=((m % 4294967296:Nat):Int):=by omega
   have e2:((m:Int) / 2 ^ 32)=((m / 4294967296:Nat):Int):=by rw [show (2:Int) ^ 32=4294967296 by decide]; omega
   rw [e1]
   refine QJ (vs:=[m % 4294967296].map dg) sym rfl rfl rfl rfl rfl rfl (JG _) rfl rfl rfl rfl rfl rfl (fun bo=>?_)
   refine Qj ?_ (perm3 (D:=D)).symm
   have hdc:Dig U (D++((bo,.arr ([m % 4294967296].map dg),TU32)::(b4,.var (.agg #[.bool (dec (z < 0)),.slice p n c]),46)::(b2,.var (.agg #[.bool false,.slice none 0 0]),46)::M)) (some ⟨bo,0,none⟩) 1 1 [m % 4294967296] :=
    (QdF (U:=U) (M:=(bo,.arr ([m % 4294967296].map dg++[]),TU32)::(b4,.var (.agg #[.bool (dec (z < 0)),.slice p n c]),46)::(b2,.var (.agg #[.bool false,.slice none 0 0]),46)::M) (i:=0) (b:=bo) (r:=[m % 4294967296]) (t:=[]) (n:=1) (c:=1) rfl rfl rfl (by omega) (fun d hd=>by rw [List.mem_singleton.1 hd]; omega)).up (ULe.refl _) (List.sublist_append_right ..)
   refine Yt (D:=D) sym rfl rfl rfl rfl rfl ho rfl hdc (by omega) rfl rfl rfl rfl (fun p' cc D' hD'=>?_)
   refine Qj ?_ (perm3 (D:=D'))
   try refine Qb ?_
   refine Vx 1 sym rfl rfl rfl rfl rfl rfl rfl rfl rfl rfl rfl ?_
   try refine Qb ?_
   rw [e2]
   refine QU (ULe.refl _) (List.sublist_cons_self ..) ?_
   refine Qg (E':=[(3,.int .u64 ((m / 4294967296:Nat):Int)),(4,.pointer (some ⟨b4,0,none⟩)),(2,.pointer (some ⟨b2,0,none⟩))]) (m:=m / 4294967296) ⟨rfl,rfl,rfl,trivial⟩ (by omega)
    ⟨p',n+1,cc,l++[m % 4294967296],D',hD',by omega,?_,?_,fun h=>?_,rfl,rfl,rfl⟩
   ·rw [QH,hol.1,hv,Nat.pow_succ,Nat.add_assoc]
    congr 1
    rw [Nat.mul_assoc,← Nat.mul_add]
    congr 1
    omega
   ·rw [Nat.pow_succ]
    have:m / 4294967296*4294967296≤m:=Nat.div_mul_le_self _ _
    have h9:=Nat.mul_le_mul_right (4294967296 ^ n) this
    rw [show m / 4294967296*(4294967296 ^ n*4294967296)=m / 4294967296*4294967296*4294967296 ^ n by rw [Nat.mul_assoc,Nat.mul_comm 4294967296]]
    omega
   ·exact ⟨hD'.bd,yF l (by omega)⟩
  ·have hm0:m=0:=by omega
   subst hm0
   rw [Nat.mul_zero,Nat.add_zero] at hv
   repeat (first|refine Qc ?_|refine Qa fun _=>?_|refine w_al fun _=>?_)
   have hs:dec (z < 0)=decide (z < 0):=Jj _
   exact Qe D sym rfl (.cons (.cell 1 rfl rfl rfl) .nil) uc sb (.inl rfl) ⟨⟨dec (z < 0),p,n,c⟩,rfl,⟨l,ho,hc rfl,hv.symm,hs⟩,uc⟩
theorem vO {z:Int} (h0 : -9223372036854775808≤z) (h1:z≤9223372036854775807) :
  Ct Tryz.prog 51 [.int .i64 z] G U M fun v U' D=>∃ r:QV,v=r.v∧r.own D (z:Rat)∧ULe U U':=by
 refine Qh Tryz.func51 rfl rfl rfl rfl ?_
 repeat (first|refine Qc ?_|refine Qa fun _=>?_|refine w_al fun _=>?_)
 refine Qd rfl rfl rfl rfl rfl rfl (fun _=>Qaw h0 h1) ?_
 rintro v Uh2 Dh2 hU ⟨xh2,rfl,h2,-⟩
 refine Qj ?_ (perm1 (D:=Dh2))
 repeat (first|refine Qc ?_|refine Qa fun _=>?_|refine w_al fun _=>?_)
 refine Qd rfl rfl rfl rfl rfl rfl (fun _=>Qaw (z:=1) (by decide) (by decide)) ?_
 rintro v Uh3 Dh3 hU ⟨xh3,rfl,h3,-⟩
 refine Qj ?_ (perm1 (D:=Dh3))
 repeat (first|refine Qc ?_|refine Qa fun _=>?_|refine w_al fun _=>?_)
 exact Qe (Dh3++Dh2) sym rfl (.cons (.cell 0 rfl rfl rfl) .nil) uc sb (.inl rfl) ⟨⟨xh2,xh3⟩,rfl,QaB h2 h3,uc⟩
end Go.Proofs.YthnnlgjlhnmhnaaGreat

/- Walks of the helpers of layer 2's statements: awake, long, none. -/
namespace Go.Proofs.YthnnlgjlhnmhnaaGreat
open Go.Hp
variable {G:World} {U:UH} {M:MH}
structure Qvs (U:UH) (M:MH) (b:Nat) (xs:List QV):Prop where
 num:∀ (k:Nat) (x:QV),xs[k]?=some x→∀ (G:World) (w:World),Mem G U M w→w.cell? ⟨b,k*4+1,none⟩=some (.slice x.num.p x.num.n x.num.c)
 den:∀ (k:Nat) (x:QV),xs[k]?=some x→∀ (G:World) (w:World),Mem G U M w→w.cell? ⟨b,k*4+3,none⟩=some (.slice x.den.p x.den.n x.den.c)
end Go.Proofs.YthnnlgjlhnmhnaaGreat
