/- The law of layer 9 on memory: what the calls hand over. -/
import Derived.Test.YtahcddpdgpjbnaaB307
import Derived.Test.YtahcddpdgpjbnaaM97
namespace Go.Proofs.Ytahcddpdgpjbnaa
open Go.Hp
variable {G:World} {U U':UH} {M M':MH}
def RM (U:UH) (v:Value):Prop:=∃ (r c:Int) (p:Option Addr) (n cc:Nat) (vs:List Value) (f:Nat→Rat),v = .agg #[.int .i64 r,.int .i64 c,.slice p n cc]∧n≤1000000∧RowAt U [] 4 p n vs∧El Vq U vs f
theorem RM.up {v:Value} (h:RM U v) (hU:ULe U U'):RM U' v:=by
 obtain ⟨r,c,p,n,cc,vs,f,h1,h2,h3,h4⟩:=h
 exact ⟨r,c,p,n,cc,vs,f,h1,h2,h3.up hU (List.Sublist.refl _),h4.up QA hU⟩
theorem RM.zero:RM U (.agg #[.int .i64 0,.int .i64 0,.slice none 0 0]):=⟨0,0,none,0,0,[],fun _=>0,rfl,by decide,RowAt.nil,El.nil⟩
theorem RM.of {r c:Nat} {v:Value} {A:Nat→Nat→Rat} (h:Vm Vq r c U v A) (hr:r≤1000) (hc:c≤1000):RM U v:=by
 obtain ⟨a,h1,p,cc,vs,h2,h0,h3,h4⟩:=h
 have hrc:r*c≤1000*1000:=Nat.mul_le_mul hr hc
 subst h2
 exact ⟨_,_,p,_,cc,vs,_,h1,by omega,h3,h4⟩
def LitX (M:MH) (U:UH) (v:Value) (r c:Int) (n:Nat) (f:Nat→Rat):Prop :=
 n≤5*5∧(Vld r c n→r≤5∧c≤5)∧∃ a,v = .agg #[.int .i64 r,.int .i64 c,a]∧Ls (Wm M 1) 4 n U M a f
theorem LitX.up {v:Value} {r c:Int} {n:Nat} {f:Nat→Rat} (h:LitX M U v r c n f) (hU:ULe U U') (hM:M.Sublist M'):LitX M' U' v r c n f:=by
 obtain ⟨h1,h2,a,h3,p,cc,vs,h4,h0,h5,h6⟩:=h
 exact ⟨h1,h2,a,h3,p,cc,vs,h4,h0,h5.up hU hM,fun k x hk=>(h6 k x hk).up hU hM⟩
theorem LitX.vm {n:Nat} {v:Value} {r c:Int} {f:Nat→Rat} (h:LitX M U v r c n f) (hV:Vld r c n):∃ R C:Nat,r=(R:Int)∧c=(C:Int)∧R≤5∧C≤5∧Vx M 1 R C U v (fun i j=>f (i*C+j)):=by
 obtain ⟨h1,h2,a,rfl,h3⟩:=h
 obtain ⟨h4,h5⟩:=h2 hV
 obtain ⟨v1,v2,v3,v4,v5⟩:=hV
 obtain ⟨R,rfl⟩:=Int.eq_ofNat_of_zero_le v1
 obtain ⟨C,rfl⟩:=Int.eq_ofNat_of_zero_le v3
 have hn:n=R*C:=by rw [← Int.natCast_mul] at v5; omega
 subst hn
 refine ⟨R,C,rfl,rfl,by omega,by omega,a,rfl,h3.congr fun k hk=>?_⟩
 obtain ⟨-,hC⟩:=qF hk
 show f k=f (k / C*C+k % C)
 rw [Nat.div_add_mod']
theorem LitX.hd {n:Nat} {v:Value} {r c:Int} {f:Nat→Rat} (h:LitX M U v r c n f):n≤9223372036854775807∧∃ p cc,v = .agg #[.int .i64 r,.int .i64 c,.slice p n cc]:=by
 obtain ⟨h1,-,a,rfl,p,cc,vs,rfl,-⟩:=h
 exact ⟨by omega,p,cc,rfl⟩
theorem gro5 {m:Nat} (hm:m≤5):1+m*La.gro 1 m≤1000000000∧La.gro 1 m≤1000000000:=by
 have h1:La.gro 1 m≤La.gro 1 5:=La.gro_le hm
 have h2:La.gro 1 5≤100000000:=by decide
 have h3:m*La.gro 1 m≤5*100000000:=Nat.mul_le_mul hm (by omega)
 omega
def Out2 (v:Value) (U:UH):Prop:=∃ vC e,v = .tuple #[vC,.int .i64 e]∧RM U vC
theorem QdG {va vb:Value} {ra ca rb cb:Int} {na nb:Nat} {fa fb:Nat→Rat} (ha:LitX M U va ra ca na fa) (hb:LitX M U vb rb cb nb fb) :
  Ct Try.prog 7 [va,vb] G U M fun v U' D=>Out2 v U'∧D=[]:=by
 by_cases hV:Vld ra ca na∧Vld rb cb nb∧ra=rb∧ca=cb
 ·obtain ⟨h1,h2,h3,h4⟩:=hV
  obtain ⟨R,C,rfl,rfl,hR,hC,hv⟩:=ha.vm h1
  obtain ⟨R2,C2,e1,e2,-,-,hw⟩:=hb.vm h2
  obtain rfl:R=R2:=by omega
  obtain rfl:C=C2:=by omega
  exact (Qdu hv hw (by decide) (by omega) (by omega)).settle.mono fun _ _ _ _ ⟨h1,_,_,⟨vC,h2,⟨a,h3,h9⟩,_⟩,_,h7,h8⟩=>⟨⟨vC,0,h2,RM.of ⟨a,h3,h9.sett QA h7 h8⟩ (by omega) (by omega)⟩,h1⟩
 ·obtain ⟨hn,p,cc,rfl⟩:=ha.hd
  obtain ⟨hn2,p2,cc2,rfl⟩:=hb.hd
  exact (Qem hn hn2 hV).mono fun _ _ _ _ ⟨h1,h2⟩=>⟨⟨_,4,h2,RM.zero⟩,h1⟩
theorem Qdm {va vb:Value} {ra ca rb cb:Int} {na nb:Nat} {fa fb:Nat→Rat} (ha:LitX M U va ra ca na fa) (hb:LitX M U vb rb cb nb fb) :
  Ct Try.prog 8 [va,vb] G U M fun v U' D=>Out2 v U'∧D=[]:=by
 by_cases hV:Vld ra ca na∧Vld rb cb nb∧ca=rb
 ·obtain ⟨h1,h2,h3⟩:=hV
  obtain ⟨R,C,rfl,rfl,hR,hC,hv⟩:=ha.vm h1
  obtain ⟨R2,C2,e1,rfl,-,hC2,hw⟩:=hb.vm h2
  obtain rfl:C=R2:=by omega
  exact (QaJ hv hw (by decide) (by omega) (by omega) (by omega) (by omega)).mono fun _ _ _ _ ⟨vC,h2,h3,h4⟩=>⟨⟨vC,0,h2,RM.of h3 (by omega) (by omega)⟩,h4⟩
 ·obtain ⟨hn,p,cc,rfl⟩:=ha.hd
  obtain ⟨hn2,p2,cc2,rfl⟩:=hb.hd
  exact (Qeu hn hn2 hV).mono fun _ _ _ _ ⟨h1,h2⟩=>⟨⟨_,4,h2,RM.zero⟩,h1⟩
theorem jF {va:Value} {r c:Int} {n:Nat} {f:Nat→Rat} (ha:LitX M U va r c n f) :
  Ct Try.prog 9 [va] G U M fun v U' D=>Out2 v U'∧D=[]:=by
 by_cases hV:Vld r c n
 ·obtain ⟨R,C,rfl,rfl,hR,hC,hv⟩:=ha.vm hV
  exact (jH hv (by decide) (by omega) (by omega)).settle.mono fun _ _ _ _ ⟨h1,_,_,⟨vC,h2,⟨a,h3,h9⟩,_⟩,_,h7,h8⟩=>⟨⟨vC,0,h2,RM.of ⟨a,h3,h9.sett QA h7 h8⟩ (by omega) (by omega)⟩,h1⟩
 ·obtain ⟨hn,p,cc,rfl⟩:=ha.hd
  exact (yR hn hV).mono fun _ _ _ _ ⟨h1,h2⟩=>⟨⟨_,4,h2,RM.zero⟩,h1⟩
theorem Qai {va:Value} {r c:Int} {n:Nat} {f:Nat→Rat} (ha:LitX M U va r c n f) :
  Ct Try.prog 10 [va] G U M fun v U' D=>(∃ vC vp e,v = .tuple #[vC,vp,.int .i64 e]∧RM U' vC)∧D=[]:=by
 by_cases hV:Vld r c n
 ·obtain ⟨R,C,rfl,rfl,hR,hC,hv⟩:=ha.vm hV
  obtain ⟨g1,g2⟩:=gro5 hR
  exact (yk hv (by decide) (.inl (Nat.le_refl R)) g1 g2 (by omega) (by omega)).mono fun _ _ _ _ ⟨s,_,_,vR,vp,h2,h3,_,h4,h5,_⟩=>⟨⟨vR,vp,0,h2,RM.of h3 (by have:=h5.le; omega) (by omega)⟩,h4⟩
 ·obtain ⟨hn,p,cc,rfl⟩:=ha.hd
  exact (Qaq hn hV).mono fun _ _ _ _ ⟨h1,h2⟩=>⟨⟨_,_,4,h2,RM.zero⟩,h1⟩
theorem QaD {va:Value} {r c:Int} {n:Nat} {f:Nat→Rat} (ha:LitX M U va r c n f) :
  Ct Try.prog 11 [va] G U M fun v U' D=>Out2 v U'∧D=[]:=by
 by_cases hV:Vld r c n
 ·obtain ⟨R,C,rfl,rfl,hR,hC,hv⟩:=ha.vm hV
  obtain ⟨g1,g2⟩:=gro5 hR
  exact (vW hv (by decide) g1 g2 (by omega) (by omega)).mono fun _ _ _ _ ⟨s,_,_,vK,h2,h3,h4,_,_,_,_,_,_,h5⟩=>⟨⟨vK,0,h2,RM.of h3 (by omega) (by omega)⟩,h4⟩
 ·obtain ⟨hn,p,cc,rfl⟩:=ha.hd
  exact (QbE hn hV).mono fun _ _ _ _ ⟨h1,h2⟩=>⟨⟨_,4,h2,RM.zero⟩,h1⟩
theorem Qac {va:Value} {r c:Int} {n:Nat} {f:Nat→Rat} (ha:LitX M U va r c n f) :
  Ct Try.prog 12 [va] G U M fun v U' D=>Out2 v U'∧D=[]:=by
 by_cases hV:Vld r c n∧r=c
 ·obtain ⟨hV,rfl⟩:=hV
  obtain ⟨R,C,rfl,e,hR,hC,hv⟩:=ha.vm hV
  obtain rfl:R=C:=by omega
  obtain ⟨g1,g2⟩:=gro5 hR
  exact (vD hv (by decide) g1 g2 (by omega)).mono fun _ _ _ _ ⟨s,_,_,vX,e,h2,h3,h4,h5,h6⟩=>⟨⟨vX,e,h2,by
   rcases Nat.lt_or_ge s R with h7 | h7
   ·rw [(h4 h7).2]; exact RM.zero
   ·obtain ⟨-,X,h8,-⟩:=h5 (Nat.le_antisymm h3.le h7)
    exact RM.of h8 (by omega) (by omega)⟩,h6⟩
 ·obtain ⟨hn,p,cc,rfl⟩:=ha.hd
  exact (Qau hn hV).mono fun _ _ _ _ ⟨h1,h2⟩=>⟨⟨_,4,h2,RM.zero⟩,h1⟩
theorem Qbt {va:Value} {r c:Int} {n:Nat} {f:Nat→Rat} (ha:LitX M U va r c n f) :
  Ct Try.prog 13 [va,.int .i64 1] G U M fun v U' D=>Out2 v U'∧D=[]:=by
 by_cases hV:Vld r c n∧r=c
 ·obtain ⟨hV,rfl⟩:=hV
  obtain ⟨R,C,rfl,e,hR,hC,hv⟩:=ha.vm hV
  obtain rfl:R=C:=by omega
  exact (QbD hv hR).mono fun _ _ _ _ ⟨vP,B,h2,h3,h4⟩=>⟨⟨vP,0,h2,RM.of h3 (by omega) (by omega)⟩,h4⟩
 ·obtain ⟨hn,p,cc,rfl⟩:=ha.hd
  exact (Qdf hn hV).mono fun _ _ _ _ ⟨h1,h2⟩=>⟨⟨_,4,h2,RM.zero⟩,h1⟩
end Go.Proofs.Ytahcddpdgpjbnaa
