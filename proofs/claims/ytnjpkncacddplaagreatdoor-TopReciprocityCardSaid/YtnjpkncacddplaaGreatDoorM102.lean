/- Texts of this seat's own, merged: each begins with its own remark. -/
import Derived.Test.YtnjpkncacddplaaGreatDoorM100
import Derived.Test.YtnjpkncacddplaaGreatDoorM14
import Derived.Test.YtnjpkncacddplaaGreatDoorM22
import Derived.Test.YtnjpkncacddplaaGreatDoorM56
import Derived.Test.YtnjpkncacddplaaGreatDoorM51
import Derived.Test.YtnjpkncacddplaaGreatDoorM96
/- Walks of qpoly: trimmed, Normal, zero. -/
namespace Go.Proofs.YtnjpkncacddplaaGreatDoor
open Go.Hp Go.Pl
variable {G:World} {U U':UH} {M:MH}
theorem Qfv {x:IV} {z:Int} (h:x.nrm U M z):x.n=0↔z=0:=by
 obtain ⟨l,hd,hc,hv,-⟩:=h
 have hl:l.length=x.n:=hd.1
 have h2:=hc.zero
 constructor
 ·intro h
  have:val l=0:=h2.2 (List.eq_nil_of_length_eq_zero (by omega))
  omega
 ·intro h
  have h3:=h2.1 (by omega)
  rw [h3] at hl
  simpa using hl.symm
def Vp (U:UH) (v:Value) (z:Int):Prop:=Vq U v ((z:Int):Rat)
theorem Jr:Kept Vp:=fun _ _ _ _ hU h=>ql _ _ _ _ hU h
instance:KeptC Vp:=⟨Jr⟩
def Pz (U:UH) (M:MH) (v:Value) (L:List Int):Prop:=Ls Vp 4 L.length U M v (co L)
def Po (U:UH) (D:MH) (v:Value) (L:List Int):Prop:=∃ p c vs,v = .slice p L.length c∧L.length≤c∧c≤1000000000∧RowW TR 4 D p L.length vs∧El Vp U vs (co L)
theorem Pz.up {M':MH} {v:Value} {L:List Int} (h:Pz U M v L) (hU:ULe U U') (hM:M.Sublist M'):Pz U' M' v L:=Ls.up h Jr hU hM
theorem Po.sett {U0:UH} {D:MH} {v:Value} {L:List Int} (h:Po U D v L) (hU:ULe U U') (hs:Sett U0 U' D):Pz U' [] v L:=by
 obtain ⟨p,c,vs,h1,h2,_,h3,h4⟩:=h
 exact ⟨p,c,vs,h1,h2,h3.sett hs,h4.up Jr hU⟩
theorem QdC {e s n m:Nat} {D:MH} {p:Option Addr} {vs:List Value} (h:RowW e s D p n vs) (hm:m≤n):RowW e s D p m (vs.take m):=by
 have h1:=h.part (lo:=0) (hi:=m) (c:=n+1) (Nat.zero_le _) hm (by omega)
 rw [if_neg (by omega),Nat.zero_mul,Nat.sub_zero,List.drop_zero] at h1
 have e:p.map (fun a=>a.add 0)=p:=qH p
 rwa [e] at h1
theorem QhN {vs:List Value} {g:Nat→Int} {m:Nat} {L:List Int} (h:El Vp U vs g) (hg:∀ k,k < m→co L k=g k):El Vp U (vs.take m) (co L):=fun k x hk=>by
 rw [List.getElem?_take] at hk
 split at hk
 ·rename_i hkm
  rw [hg k hkm]; exact h k x hk
 ·cases hk
theorem JW {n c:Nat} {p:Option Addr} {vs:List Value} {g:Nat→Int} (rw1:RowAt U M 4 p n vs) (el:El Vp U vs g) (hc:n≤c) (hn:n≤1000000000) :
  Ct Tryz.prog 202 [.slice p n c] G U M fun v U' D=>v = .slice p (trn g n) c∧U=U'∧D=[]:=by
 refine Qi Tryz.func202 rfl rfl rfl rfl ?_
 repeat (first|refine Qb ?_|refine Qa fun _=>?_|refine w_al fun _=>?_)
 try refine Jo (M':=M) (ULe.refl _) sbk ?_
 refine Qx (fun z E U' M'=>∃ (m:Nat),m≤n∧trn g m=trn g n∧U=U'∧E=[(0,.slice p m c)]∧ULe U U'∧M'=M∧z=m) (n0:=n) (E0:=[(0,.slice p n c)]) ⟨rfl,trivial⟩ ⟨n,Nat.le_refl n,rfl,rfl,rfl,uc,rfl,rfl⟩ ?_
 rintro z E U1 M' ⟨m,hm,ht,rfl,rfl,hU1,rfl,hzL⟩
 try refine Qc ?_
 refine QL rfl rfl (fun h=>?_) (fun h=>?_)
 ·obtain ⟨k,rfl⟩:∃ k,m=k+1:=⟨m - 1,by omega⟩
  obtain ⟨v1,hv1⟩:=rw1.at (show k < n by omega)
  obtain ⟨x1,rfl,hx1⟩:=el _ _ hv1
  have h0:=Qfv hx1.1
  rw [Rat.num_intCast] at h0
  repeat (first|refine Qb ?_|refine Qa fun _=>?_|refine w_al fun _=>?_)
  refine sl_y (QC sym rfl rfl rfl rfl rfl (show (((k+1:Nat):Int) - 1)=(k:Int) by omega) (show k < k+1 by omega) ((rw1.up uc sb).get _ _ hv1).1) rfl rfl rfl rfl ?_
  repeat (first|refine Qb ?_|refine Qa fun _=>?_|refine w_al fun _=>?_)
  refine sl_y (vx (j:=1) (u := .slice x1.num.p x1.num.n x1.num.c) sym rfl rfl (by rw [jD,jD]) rfl rfl (rw1.up uc sb) hv1 rfl) rfl rfl rfl rfl ?_
  repeat (first|refine Qb ?_|refine Qa fun _=>?_|refine w_al fun _=>?_)
  refine Ql rfl (fun h1=>?_) (fun h1=>?_)
  ·have hg:g k=0:=h0.1 (by omega)
   repeat (first|refine Qb ?_|refine Qa fun _=>?_|refine w_al fun _=>?_)
   refine sl_y (Vs (h:=k) sym rfl rfl rfl rfl rfl (show (((k+1:Nat):Int) - 1)=(k:Int) by omega) (by omega)) rfl rfl rfl rfl ?_
   repeat (first|refine Qb ?_|refine Qa fun _=>?_|refine w_al fun _=>?_)
   exact Qo (E':=[(0,.slice p k c)]) (m:=k) ⟨rfl,trivial⟩ (by omega) ⟨k,(by omega),(by rw [← ht]; show trn g k=if g k=0 then trn g k else k+1; rw [if_pos hg]),rfl,rfl,uc,rfl,rfl⟩
  ·have hg:g k≠0:=fun e=>h1 (by rw [h0.2 e]; rfl)
   have ht2:trn g n=k+1:=by rw [← ht]; show (if g k=0 then trn g k else k+1)=k+1; rw [if_neg hg]
   repeat (first|refine Qb ?_|refine Qa fun _=>?_|refine w_al fun _=>?_)
   exact Qg [] sym rfl (.cons (.tmp rfl) .nil) uc sb (.inl rfl) ⟨by rw [ht2]; rfl,rfl,rfl⟩
 ·obtain rfl:m=0:=by omega
  have ht2:trn g n=0:=ht.symm
  repeat (first|refine Qb ?_|refine Qa fun _=>?_|refine w_al fun _=>?_)
  exact Qg [] sym rfl (.cons (.tmp rfl) .nil) uc sb (.inl rfl) ⟨by rw [ht2]; rfl,rfl,rfl⟩
end Go.Proofs.YtnjpkncacddplaaGreatDoor

/- Walks of qpoly: Normal, zero. -/
namespace Go.Proofs.YtnjpkncacddplaaGreatDoor
open Go.Hp Go.Pl
variable {G:World} {U U':UH} {M:MH}
theorem vp_w {v:Value} {z:Int} {b:Nat} (h:Vp U v z) (hz:z.natAbs < 4294967296 ^ b) (hb:1≤b):∃ x:QV,v=x.v∧x.nrm U [] ((z:Int):Rat)∧Szq ((z:Int):Rat) b:=by
 obtain ⟨x,h1,h2⟩:=h
 exact ⟨x,h1,h2,Ve hz hb⟩
theorem yO {x:QV} {z:Int} {b:Nat} (hx:x.nrm U M ((z:Int):Rat)) (hz:z.natAbs < 4294967296 ^ b) (h1:1≤b) (hb:b≤1000000) :
  Ct Tryz.prog 208 [x.v] G U M fun v U' D=>∃ t:Bool,v = .bool t∧(t=true↔z=0)∧U=U'∧D=[]:=by
 refine Qi Tryz.func208 rfl rfl rfl rfl ?_
 repeat (first|refine Qb ?_|refine Qa fun _=>?_|refine w_al fun _=>?_)
 rename_i b1
 refine Qd rfl rfl rfl rfl rfl rfl (fun _=>yi (hx.rep.up uc sb) (hx.le (Ve hz h1) (by omega))) ?_
 rintro v U' D hU ⟨rfl,rfl,rfl⟩
 repeat (first|refine Qb ?_|refine Qa fun _=>?_|refine w_al fun _=>?_)
 refine Qg [] sym rfl (.cons (.tmp rfl) .nil) uc sb (.inl rfl) ⟨_,rfl,?_,rfl,rfl⟩
 rw [JJ,decide_eq_true_eq,Rat.num_intCast,Int.sign_eq_zero_iff_zero]
theorem QaI {n c m:Nat} {D:MH} {p:Option Addr} {us:List Value} {g:Nat→Int} {L:List Int} (hr:RowW TR 4 D p n us) (hc:n≤c) (hcb:c≤1000000000) (hel:El Vp U us g) (hm:L.length=m) (hmn:m≤n) (hL:∀ k,k < m→co L k=g k):Po U D (.slice p m c) L :=
 ⟨p,c,us.take m,by rw [hm],by omega,hcb,by rw [hm]; exact QdC hr hmn,QhN hel hL⟩
set_option maxHeartbeats 4000000 in
theorem jA {v:Value} {L:List Int} {b:Nat} (h:Pz U M v L) (hb:BL b L) (hb1:1≤b) (hb2:b≤1000000) (hn:L.length≤1000000) :
  Ct Tryz.prog 204 [v] G U M fun v U' D=>Po U' D v (trimL L):=by
 obtain ⟨p,c,vs,rfl,hc,rw1,el⟩:=h
 obtain ⟨n,hln⟩:∃ n,n=L.length:=⟨_,rfl⟩
 rw [← hln] at rw1 hc hn ⊢
 refine Qi Tryz.func204 rfl rfl rfl rfl ?_
 repeat (first|refine Qb ?_|refine Qa fun _=>?_|refine w_al fun _=>?_)
 refine JA (m:=n) (n:=n) sym rfl rfl rfl rfl rfl rfl rfl rfl rfl (Nat.le_refl n) (by omega) (by omega) rfl rfl rfl rfl (fun b8=>?_)
 have hrow:=Yj (e:=TR) (s:=4) (b:=b8) (n:=n) (z:=zeroQV.v) rfl (by omega)
 refine Qm (M':=[(b8,Blk.arr (List.replicate n zeroQV.v),TR)]++M) ?_ (List.Perm.refl _)
 generalize List.replicate n zeroQV.v=us0 at hrow ⊢
 generalize [(b8,Blk.arr us0,TR)]=D0 at hrow ⊢
 repeat (first|refine Qb ?_|refine Qa fun _=>?_|refine w_al fun _=>?_)
 try refine Jo (M':=D0++M) (ULe.refl _) sbk ?_
 refine Qx (fun z E U' M'=>∃ (i:Nat) (us:List Value) (D:MH),i≤n∧RowO TR 4 D (some ⟨b8,0,none⟩) n n us∧ElTo Vp U' i us (co L)∧E=[(11,.int .i64 (i:Int)),(10,.int .i64 (n:Int)),(9,.slice p n c),(3,.slice (some ⟨b8,0,none⟩) n n)]∧ULe U U'∧M'=D++M∧z=n - i) (n0:=n - 0) (E0:=[(11,.int .i64 ((0:Nat):Int)),(10,.int .i64 (n:Int)),(9,.slice p n c),(3,.slice (some ⟨b8,0,none⟩) n n)]) ⟨rfl,rfl,rfl,rfl,trivial⟩ ⟨0,us0,D0,by omega,hrow,(fun k x hk=>absurd hk (Nat.not_lt_zero k)),rfl,uc,rfl,rfl⟩ ?_
 clear hrow
 rintro z E U1 M' ⟨i,us,D,hi,hrow,hel,rfl,hU1,rfl,rfl⟩
 try refine Qc ?_
 refine Ql rfl (fun h=>?_) (fun h=>?_)
 ·have hin:i < n:=by omega
  obtain ⟨v1,hv1⟩:=rw1.at hin
  obtain ⟨x1,rfl,hx1,sx1⟩:=vp_w (el _ _ hv1) (hb i) hb1
  repeat (first|refine Qb ?_|refine Qa fun _=>?_|refine w_al fun _=>?_)
  refine sl_y (QC sym rfl rfl rfl rfl rfl rfl ((rw1.up uc sb).lt hv1) ((rw1.up uc sb).get _ _ hv1).1) rfl rfl rfl rfl ?_; refine sl_y (QQ sym rfl rfl rfl rfl rfl (rw1.up uc sb) hv1) rfl rfl rfl rfl ?_
  repeat (first|refine Qb ?_|refine Qa fun _=>?_|refine w_al fun _=>?_)
  rename_i b5
  refine Qd rfl rfl rfl rfl rfl rfl (fun _=>(Vn (hx1.rep.up uc (List.nil_sublist _)) (hx1.le sx1 (by omega))).settle) ?_
  rintro v Uh19 D hU ⟨rfl,_,_,⟨xh19,rfl,h19,-⟩,-,-,hs⟩
  replace h19:=h19.sett hs
  clear hs
  repeat (first|refine Qb ?_|refine Qa fun _=>?_|refine w_al fun _=>?_)
  refine Vk (j:=i) hin rfl ?_
  refine Yr (v:=xh19.v) (X:=(b5,.var x1.v,TR)::M) hrow pgj hin (fun D4 hr4=>?_)
  try refine Qc ?_
  refine JG (M':=D4++M) (ULe.refl _) sbk ?_
  exact Qo (E':=[(11,.int .i64 ((i:Int)+1)),(10,.int .i64 (n:Int)),(9,.slice p n c),(3,.slice (some ⟨b8,0,none⟩) n n)]) (m:=n - (i+1)) ⟨rfl,rfl,rfl,rfl,trivial⟩ (by omega) ⟨i+1,us.set i xh19.v,D4,by omega,hr4,(hel.up Jr uc).next ⟨xh19,rfl,h19⟩,rfl,uc,rfl,rfl⟩
 obtain rfl:n=i:=by omega
 have hel2:=hel.all hrow.len.1
 repeat (first|refine Qb ?_|refine Qa fun _=>?_|refine w_al fun _=>?_)
 refine Qd rfl rfl rfl rfl rfl rfl (fun _=>JW (hrow.at sb) hel2 (Nat.le_refl n) (by omega)) ?_
 rintro v23 U23 D23 hU23 ⟨rfl,rfl,rfl⟩
 rw [List.nil_append]
 repeat (first|refine Qb ?_|refine Qa fun _=>?_|refine w_al fun _=>?_)
 refine Qg D sym rfl (.cons (.tmp rfl) .nil) uc sb (.inl rfl) ?_
 exact (QaI hrow.w (Nat.le_refl n) (by omega) hel2 (by rw [QS,← hln]) (JK _ _) fun k _=>Yp L k)
end Go.Proofs.YtnjpkncacddplaaGreatDoor

/- Walk of qpoly.Mul. -/
namespace Go.Proofs.YtnjpkncacddplaaGreatDoor
open Go.Hp Go.Pl
variable {G:World} {U U':UH} {M:MH}
def pj (a b:List Int) (i j k:Nat):Int:=pcv a b i k+(if i≤k∧k < i+j then co a i*co b (k - i) else 0)
theorem Qhi {a b:List Int} {i k:Nat}:pj a b i 0 k=pcv a b i k:=by
 unfold pj; rw [if_neg (by omega),Int.add_zero]
theorem Qfy {a b:List Int} {i k:Nat}:pj a b i b.length k=pcv a b (i+1) k:=by
 show pcv a b i k+_=pcv a b i k+_
 by_cases h:i≤k
 ·by_cases h2:k < i+b.length
  ·rw [if_pos ⟨h,h2⟩,if_pos h]
  ·rw [if_neg (by omega),if_pos h,Ym (L:=b) (by omega),Int.mul_zero]
 ·rw [if_neg (by omega),if_neg h]
theorem QhW {a b:List Int} {i j k:Nat} (h:k≠i+j):pj a b i (j+1) k=pj a b i j k:=by
 unfold pj
 by_cases h2:i≤k∧k < i+j
 ·rw [if_pos h2,if_pos ⟨h2.1,by omega⟩]
 ·rw [if_neg h2,if_neg (by omega)]
theorem Qia {a b:List Int} {i j:Nat}:pj a b i (j+1) (i+j)=pj a b i j (i+j)+co a i*co b j:=by
 unfold pj
 rw [if_pos ⟨by omega,by omega⟩,if_neg (by omega),show i+j - i=j by omega,Int.add_zero]
theorem QhE {a b:List Int} {i j k:Nat} (h:co a i*co b j=0):pj a b i (j+1) k=pj a b i j k:=by
 by_cases e:k=i+j
 ·rw [e,Qia,h,Int.add_zero]
 ·exact QhW e
theorem QeJ {a b:List Int} {i j k:Nat} (h:co a i=0):pj a b i j k=pcv a b i k:=by
 unfold pj; rw [h,Int.zero_mul]; split<;>omega
theorem QfB {a b:List Int} {i k:Nat} (h:co a i=0):pcv a b (i+1) k=pcv a b i k:=by rw [← Qfy,QeJ h]
theorem qx {vs:List Value} {g g':Nat→Int} (h:El Vp U vs g) (he:∀ k,g' k=g k):El Vp U vs g':=fun k x hk=>by rw [he k]; exact h k x hk
set_option maxHeartbeats 8000000 in
theorem QeF {v w:Value} {a b:List Int} {s t:Nat} (ha:Pz U M v a) (hb:Pz U M w b) (sa:BL s a) (sb':BL t b) (h1s:1≤s) (h1t:1≤t) (hs:s≤1000000) (ht:t≤1000000) (hna:a.length≤1000000) (hnb:b.length≤1000000) :
  Ct Tryz.prog 149 [v,w] G U M fun v U' D=>Po U' D v (mulL a b):=by
 obtain ⟨p,c,vs,rfl,hc,rw1,el⟩:=ha
 obtain ⟨q,d,ws,rfl,hd,rw2,el2⟩:=hb
 obtain ⟨n,hln⟩:∃ n,n=a.length:=⟨_,rfl⟩
 obtain ⟨m,hlm⟩:∃ m,m=b.length:=⟨_,rfl⟩
 rw [← hln] at rw1 hc hna ⊢
 rw [← hlm] at rw2 hd hnb ⊢
 have bpc:∀ i k,i≤1000000→(pcv a b i k).natAbs < 4294967296 ^ (s+t+1):=fun i k hi=>QfJ sa sb' hi k
 have nil:n=0∨m=0→Po U [] (.slice none 0 0) (mulL a b):=fun h=>by
  have e:mulL a b=[]:=by unfold mulL; rw [← hln,← hlm,if_pos h]
  rw [e]
  exact ⟨none,0,[],rfl,Nat.le_refl 0,by decide,.nil,El.nil⟩
 refine Qi Tryz.func149 rfl rfl rfl rfl ?_
 repeat (first|refine Qb ?_|refine Qa fun _=>?_|refine w_al fun _=>?_)
 refine QL rfl rfl (fun h0=>?_) (fun h0=>?_)
 ·repeat (first|refine Qb ?_|refine Qa fun _=>?_|refine w_al fun _=>?_)
  refine Qg [] sym rfl (.cons (.tmp rfl) .nil) uc sb (.inl rfl) ?_
  exact nil (.inl (by omega))
 repeat (first|refine Qb ?_|refine Qa fun _=>?_|refine w_al fun _=>?_)
 refine Ql rfl (fun h1=>?_) (fun h1=>?_)
 ·repeat (first|refine Qb ?_|refine Qa fun _=>?_|refine w_al fun _=>?_)
  refine Qg [] sym rfl (.cons (.tmp rfl) .nil) uc sb (.inl rfl) ?_
  exact nil (.inr (by omega))
 obtain ⟨N,hN⟩:∃ N,N=n+m - 1:=⟨_,rfl⟩
 have hNi:(n:Int)+(m:Int) - 1=(N:Int):=by omega
 have hml:mulL a b=trimL ((List.range N).map (pcv a b n)):=by unfold mulL; rw [← hln,← hlm,if_neg (by omega),← hN]
 repeat (first|refine Qb ?_|refine Qa fun _=>?_|refine w_al fun _=>?_)
 rw [hNi]
 refine JA (m:=N) (n:=N) sym rfl rfl rfl rfl rfl rfl rfl rfl rfl (Nat.le_refl N) (by omega) (by omega) rfl rfl rfl rfl (fun b8=>?_)
 have hrow:=Yj (e:=TR) (s:=4) (b:=b8) (n:=N) (z:=zeroQV.v) rfl (by omega)
 refine Qm (M':=[(b8,Blk.arr (List.replicate N zeroQV.v),TR)]++M) ?_ (List.Perm.refl _)
 generalize List.replicate N zeroQV.v=us0 at hrow ⊢
 generalize [(b8,Blk.arr us0,TR)]=D0 at hrow ⊢
 repeat (first|refine Qb ?_|refine Qa fun _=>?_|refine w_al fun _=>?_)
 try refine Jo (M':=D0++M) (ULe.refl _) sbk ?_
 refine Qx (fun z E U' M'=>∃ (i:Nat) (us:List Value) (D:MH),i≤N∧RowO TR 4 D (some ⟨b8,0,none⟩) N N us∧ElTo Vp U' i us (pcv a b 0)∧E=[(28,.int .i64 (i:Int)),(27,.int .i64 (N:Int)),(5,.slice (some ⟨b8,0,none⟩) N N),(0,.slice p n c),(1,.slice q m d)]∧ULe U U'∧M'=D++M∧z=N - i) (n0:=N - 0) (E0:=[(28,.int .i64 ((0:Nat):Int)),(27,.int .i64 (N:Int)),(5,.slice (some ⟨b8,0,none⟩) N N),(0,.slice p n c),(1,.slice q m d)]) ⟨rfl,rfl,rfl,rfl,rfl,trivial⟩ ⟨0,us0,D0,by omega,hrow,(fun k x hk=>absurd hk (Nat.not_lt_zero k)),rfl,uc,rfl,rfl⟩ ?_
 clear hrow
 rintro z E U1 M' ⟨i,us,D,hi,hrow,hel,rfl,hU1,rfl,rfl⟩
 try refine Qc ?_
 refine Ql rfl (fun h=>?_) (fun h=>?_)
 ·have hin:i < N:=by omega
  repeat (first|refine Qb ?_|refine Qa fun _=>?_|refine w_al fun _=>?_)
  refine Qd rfl rfl rfl rfl rfl rfl (fun _=>(QbS (z:=0) (by omega) (by omega)).settle) ?_
  rintro v Uh33 D hU ⟨rfl,_,_,⟨xh33,rfl,h33,-⟩,-,-,hs⟩
  replace h33:=h33.sett hs
  clear hs
  repeat (first|refine Qb ?_|refine Qa fun _=>?_|refine w_al fun _=>?_)
  refine Vk (j:=i) hin rfl ?_
  refine Yr (v:=xh33.v) (X:=M) hrow (List.Perm.refl _) hin (fun D4 hr4=>?_)
  try refine Qc ?_
  exact Qo (E':=[(28,.int .i64 ((i:Int)+1)),(27,.int .i64 (N:Int)),(5,.slice (some ⟨b8,0,none⟩) N N),(0,.slice p n c),(1,.slice q m d)]) (m:=N - (i+1)) ⟨rfl,rfl,rfl,rfl,rfl,trivial⟩ (by omega) ⟨i+1,us.set i xh33.v,D4,by omega,hr4,(hel.up Jr uc).next ⟨xh33,rfl,h33⟩,rfl,uc,rfl,rfl⟩
 obtain rfl:N=i:=by omega
 have hel:=hel.all hrow.len.1
 repeat (first|refine Qb ?_|refine Qa fun _=>?_|refine w_al fun _=>?_)
 try refine Jo (M':=D++M) (ULe.refl _) sbk ?_
 refine Qx (fun z E U' M'=>∃ (i:Nat) (us:List Value) (D:MH),i≤n∧RowO TR 4 D (some ⟨b8,0,none⟩) N N us∧El Vp U' us (pcv a b i)∧E=[(38,.int .i64 (i:Int)),(37,.int .i64 (n:Int)),(36,.slice p n c),(5,.slice (some ⟨b8,0,none⟩) N N),(1,.slice q m d)]∧ULe U1 U'∧M'=D++M∧z=n - i) (n0:=n - 0) (E0:=[(38,.int .i64 ((0:Nat):Int)),(37,.int .i64 (n:Int)),(36,.slice p n c),(5,.slice (some ⟨b8,0,none⟩) N N),(1,.slice q m d)]) ⟨rfl,rfl,rfl,rfl,rfl,trivial⟩ ⟨0,us,D,by omega,hrow,hel.up Jr uc,rfl,uc,rfl,rfl⟩ ?_
 clear hrow hel
 rintro z E U2 M' ⟨i,us,D,hi,hrow,hel,rfl,hU2,rfl,rfl⟩
 try refine Qc ?_
 refine Ql rfl (fun h=>?_) (fun h=>?_)
 ·have hin:i < n:=by omega
  obtain ⟨v1,hv1⟩:=rw1.at hin
  obtain ⟨x1,rfl,hx1,sx1⟩:=vp_w (el _ _ hv1) (sa i) h1s
  repeat (first|refine Qb ?_|refine Qa fun _=>?_|refine w_al fun _=>?_)
  refine sl_y (QC sym rfl rfl rfl rfl rfl rfl ((rw1.up uc sb).lt hv1) ((rw1.up uc sb).get _ _ hv1).1) rfl rfl rfl rfl ?_; refine sl_y (QQ sym rfl rfl rfl rfl rfl (rw1.up uc sb) hv1) rfl rfl rfl rfl ?_
  repeat (first|refine Qb ?_|refine Qa fun _=>?_|refine w_al fun _=>?_)
  rename_i b9
  refine Qd rfl rfl rfl rfl rfl rfl (fun _=>yO (z:=co a i) (hx1.up uc (List.nil_sublist _)) (sa i) h1s (by omega)) ?_
  rintro v44 U44 D44 hU44 ⟨t44,rfl,h44,rfl,rfl⟩
  rw [List.nil_append]
  cases t44
  ·repeat (first|refine Qb ?_|refine Qa fun _=>?_|refine w_al fun _=>?_)
   try refine Jo (M':=(b9,.var x1.v,TR)::(D++M)) (ULe.refl _) sbk ?_
   refine Qx (fun z E U' M'=>∃ (j:Nat) (us:List Value) (D:MH),j≤m∧RowO TR 4 D (some ⟨b8,0,none⟩) N N us∧El Vp U' us (pj a b i j)∧E=[(47,.int .i64 (j:Int)),(46,.int .i64 (m:Int)),(45,.slice q m d),(8,.pointer (some ⟨b9,0,none⟩)),(7,.int .i64 (i:Int)),(38,.int .i64 (i:Int)),(37,.int .i64 (n:Int)),(36,.slice p n c),(5,.slice (some ⟨b8,0,none⟩) N N),(1,.slice q m d)]∧ULe U2 U'∧M'=(b9,.var x1.v,TR)::(D++M)∧z=m - j) (n0:=m - 0) (E0:=[(47,.int .i64 ((0:Nat):Int)),(46,.int .i64 (m:Int)),(45,.slice q m d),(8,.pointer (some ⟨b9,0,none⟩)),(7,.int .i64 (i:Int)),(38,.int .i64 (i:Int)),(37,.int .i64 (n:Int)),(36,.slice p n c),(5,.slice (some ⟨b8,0,none⟩) N N),(1,.slice q m d)]) ⟨rfl,rfl,rfl,rfl,rfl,rfl,rfl,rfl,rfl,rfl,trivial⟩ ⟨0,us,D,by omega,hrow,qx (hel.up Jr uc) (fun k=>Qhi),rfl,uc,rfl,rfl⟩ ?_
   clear hrow hel
   rintro z E U3 M' ⟨j,us,D,hj,hrow,hel,rfl,hU3,rfl,rfl⟩
   try refine Qc ?_
   refine Ql rfl (fun h=>?_) (fun h=>?_)
   ·have hjm:j < m:=by omega
    obtain ⟨v2,hv2⟩:=rw2.at hjm
    obtain ⟨x2,rfl,hx2,sx2⟩:=vp_w (el2 _ _ hv2) (sb' j) h1t
    repeat (first|refine Qb ?_|refine Qa fun _=>?_|refine w_al fun _=>?_)
    refine sl_y (QC sym rfl rfl rfl rfl rfl rfl ((rw2.up uc sb).lt hv2) ((rw2.up uc sb).get _ _ hv2).1) rfl rfl rfl rfl ?_; refine sl_y (QQ sym rfl rfl rfl rfl rfl (rw2.up uc sb) hv2) rfl rfl rfl rfl ?_
    repeat (first|refine Qb ?_|refine Qa fun _=>?_|refine w_al fun _=>?_)
    rename_i b10
    refine Qd rfl rfl rfl rfl rfl rfl (fun _=>yO (z:=co b j) (hx2.up uc (List.nil_sublist _)) (sb' j) h1t (by omega)) ?_
    rintro v53 U53 D53 hU53 ⟨t53,rfl,h53,rfl,rfl⟩
    rw [List.nil_append]
    cases t53
    ·have hijN:i+j < N:=by omega
     obtain ⟨v3,hv3⟩:=(hrow.at (U:=U3) (M:=D) (List.Sublist.refl _)).at hijN
     have spj:(pj a b i j (i+j)).natAbs < 4294967296 ^ (s+t+1):=by
      unfold pj
      rw [if_neg (by omega),Int.add_zero]
      exact bpc i (i+j) (by omega)
     obtain ⟨x3,rfl,hx3,sx3⟩:=vp_w (hel _ _ hv3) spj (by omega)
     repeat (first|refine Qb ?_|refine Qa fun _=>?_|refine w_al fun _=>?_)
     refine Yf [14,15] [0,1,2,3,4,5,6,7,8,9,10,11,12,13,14,15] sym (by kernel_rfl) ?_
     try refine Qc ?_
     have hA:=hrow.at (U:=U3) (M:=(b10,.var x2.v,TR)::(b9,.var x1.v,TR)::(D++M)) sb
     refine sl_y (QC sym rfl rfl rfl rfl rfl rfl (hA.lt hv3) (hA.get _ _ hv3).1) rfl rfl rfl rfl ?_; refine sl_y (QQ sym rfl rfl rfl rfl rfl hA hv3) rfl rfl rfl rfl ?_
     try refine Qc ?_
     refine Qd rfl rfl rfl rfl rfl rfl (fun _=>(QcJ (hx1.rep.up uc (List.nil_sublist _)) (hx1.le sx1 (by omega)) (hx2.rep.up uc (List.nil_sublist _)) (hx2.le sx2 (by omega))).settle) ?_
     rintro v Uh67 D hU ⟨rfl,_,_,⟨xh67,rfl,h67,-⟩,-,-,hs⟩
     replace h67:=h67.sett hs
     clear hs
     repeat (first|refine Qb ?_|refine Qa fun _=>?_|refine w_al fun _=>?_)
     have s67:=sx1.mul sx2
     refine Qd rfl rfl rfl rfl rfl rfl (fun _=>(Qdl (hx3.rep.up uc (List.nil_sublist _)) (hx3.le sx3 (by omega)) (h67.rep.up uc (List.nil_sublist _)) (h67.le s67 (by omega))).settle) ?_
     rintro v Uh68 D hU ⟨rfl,_,_,⟨xh68,rfl,h68,-⟩,-,-,hs⟩
     replace h68:=h68.sett hs
     clear hs
     repeat (first|refine Qb ?_|refine Qa fun _=>?_|refine w_al fun _=>?_)
     rw [← Rat.intCast_mul,← Rat.intCast_add,← Qia] at h68
     refine Vk (j:=i+j) hijN rfl ?_
     refine Yr (v:=xh68.v) (X:=(b10,.var x2.v,TR)::(b9,.var x1.v,TR)::M) hrow pgj hijN (fun D4 hr4=>?_)
     refine Qm (M':=(b10,.var x2.v,TR)::(b9,.var x1.v,TR)::(D4++M)) ?_ pgj
     try refine Qc ?_
     refine JG (M':=(b9,.var x1.v,TR)::(D4++M)) (ULe.refl _) sbk ?_
     exact Qo (E':=[(47,.int .i64 ((j:Int)+1)),(46,.int .i64 (m:Int)),(45,.slice q m d),(8,.pointer (some ⟨b9,0,none⟩)),(7,.int .i64 (i:Int)),(38,.int .i64 (i:Int)),(37,.int .i64 (n:Int)),(36,.slice p n c),(5,.slice (some ⟨b8,0,none⟩) N N),(1,.slice q m d)]) (m:=m - (j+1)) ⟨rfl,rfl,rfl,rfl,rfl,rfl,rfl,rfl,rfl,rfl,trivial⟩ (by omega) ⟨j+1,us.set (i+j) xh68.v,D4,by omega,hr4,Qce (fun k x hk hne=>by rw [QhW hne]; exact Jr _ _ _ _ uc (hel k x hk)) ⟨xh68,rfl,h68⟩,rfl,uc,rfl,rfl⟩
    ·have hbz:co b j=0:=h53.1 rfl
     repeat (first|refine Qb ?_|refine Qa fun _=>?_|refine w_al fun _=>?_)
     refine JG (M':=(b9,.var x1.v,TR)::(D++M)) (ULe.refl _) sbk ?_
     exact Qo (E':=[(47,.int .i64 ((j:Int)+1)),(46,.int .i64 (m:Int)),(45,.slice q m d),(8,.pointer (some ⟨b9,0,none⟩)),(7,.int .i64 (i:Int)),(38,.int .i64 (i:Int)),(37,.int .i64 (n:Int)),(36,.slice p n c),(5,.slice (some ⟨b8,0,none⟩) N N),(1,.slice q m d)]) (m:=m - (j+1)) ⟨rfl,rfl,rfl,rfl,rfl,rfl,rfl,rfl,rfl,rfl,trivial⟩ (by omega) ⟨j+1,us,D,by omega,hrow,qx (hel.up Jr uc) (fun k=>QhE (by rw [hbz,Int.mul_zero])),rfl,uc,rfl,rfl⟩
   ·obtain rfl:m=j:=by omega
    repeat (first|refine Qb ?_|refine Qa fun _=>?_|refine w_al fun _=>?_)
    refine JG (M':=D++M) (ULe.refl _) sbk ?_
    exact Qo (E':=[(38,.int .i64 ((i:Int)+1)),(37,.int .i64 (n:Int)),(36,.slice p n c),(5,.slice (some ⟨b8,0,none⟩) N N),(1,.slice q m d)]) (m:=n - (i+1)) ⟨rfl,rfl,rfl,rfl,rfl,trivial⟩ (by omega) ⟨i+1,us,D,by omega,hrow,qx (hel.up Jr uc) (fun k=>by rw [hlm]; exact Qfy.symm),rfl,uc,rfl,rfl⟩
  ·have haz:co a i=0:=h44.1 rfl
   repeat (first|refine Qb ?_|refine Qa fun _=>?_|refine w_al fun _=>?_)
   refine JG (M':=D++M) (ULe.refl _) sbk ?_
   exact Qo (E':=[(38,.int .i64 ((i:Int)+1)),(37,.int .i64 (n:Int)),(36,.slice p n c),(5,.slice (some ⟨b8,0,none⟩) N N),(1,.slice q m d)]) (m:=n - (i+1)) ⟨rfl,rfl,rfl,rfl,rfl,trivial⟩ (by omega) ⟨i+1,us,D,by omega,hrow,qx (hel.up Jr uc) (fun k=>QfB haz),rfl,uc,rfl,rfl⟩
 obtain rfl:n=i:=by omega
 repeat (first|refine Qb ?_|refine Qa fun _=>?_|refine w_al fun _=>?_)
 refine Qd rfl rfl rfl rfl rfl rfl (fun _=>JW (hrow.at sb) hel (Nat.le_refl N) (by omega)) ?_
 rintro v73 U73 D73 hU73 ⟨rfl,rfl,rfl⟩
 rw [List.nil_append]
 repeat (first|refine Qb ?_|refine Qa fun _=>?_|refine w_al fun _=>?_)
 refine Qg D sym rfl (.cons (.tmp rfl) .nil) uc sb (.inl rfl) ?_
 have e1:∀ k,k < N→co ((List.range N).map (pcv a b n)) k=pcv a b n k:=fun k hk=>by rw [Ys,if_pos hk]
 rw [hml]
 exact QaI hrow.w (Nat.le_refl N) (by omega) hel (by rw [QS]; simp only [List.length_map,List.length_range]; exact jc e1) (JK _ _) fun k hk=>by
  have:=JK (pcv a b n) N
  rw [Yp,e1 k (by omega)]
end Go.Proofs.YtnjpkncacddplaaGreatDoor

/- Walk of qpoly.divide, DivMod. -/
namespace Go.Proofs.YtnjpkncacddplaaGreatDoor
open Go.Hp Go.Pl
variable {G:World} {U U':UH} {M:MH}
theorem Qen {e s n:Nat} {D:MH} {p:Option Addr} {vs:List Value} (h:RowW e s D p n vs) (hn:0 < n):p.isSome=true:=by
 cases h with
 | nil=>omega
 | row h hr=>rfl
theorem jx {v:Value} {L:List Int} {b:Nat} (h:Pz U M v L) (hb:BL b L) (hb1:1≤b) (hb2:b≤1000000) (hn:L.length≤1000000) :
  Ct Tryz.prog 204 [v] G U M fun v U' D=>Pz U' [] v (trimL L)∧D=[] :=
 (jA h hb hb1 hb2 hn).settle.mono fun _ _ _ _ ⟨h1,_,_,h2,_,h3,h4⟩=>⟨h2.sett h3 h4,h1⟩
theorem Qfh {v w:Value} {a b:List Int} {s t:Nat} (ha:Pz U M v a) (hb:Pz U M w b) (sa:BL s a) (sb':BL t b) (h1s:1≤s) (h1t:1≤t) (hs:s≤1000000) (ht:t≤1000000) (hna:a.length≤1000000) (hnb:b.length≤1000000) :
  Ct Tryz.prog 149 [v,w] G U M fun v U' D=>Pz U' [] v (mulL a b)∧D=[] :=
 (QeF ha hb sa sb' h1s h1t hs ht hna hnb).settle.mono fun _ _ _ _ ⟨h1,_,_,h2,_,h3,h4⟩=>⟨h2.sett h3 h4,h1⟩
def sj (F R:List Int) (i j k:Nat):Int:=co R k - (if i≤k∧k < i+j then co R (i+(F.length - 1))*co F (k - i) else 0)
theorem QgI {F R:List Int} {i k:Nat}:sj F R i 0 k=co R k:=by unfold sj; rw [if_neg (by omega)]; omega
theorem Qie {F R:List Int} {i k:Nat} (hk:k < R.length):sj F R i F.length k=co (stp F i R) k:=by
 unfold sj stp
 rw [Ys,if_pos hk]
 by_cases h:i≤k
 ·rw [if_pos h]
  by_cases h2:k < i+F.length
  ·rw [if_pos ⟨h,h2⟩]
  ·rw [if_neg (by omega),Ym (L:=F) (by omega)]; omega
 ·rw [if_neg h,if_neg (by omega)]
theorem QiU {F R:List Int} {i j k:Nat} (h:k≠i+j):sj F R i (j+1) k=sj F R i j k:=by
 unfold sj
 by_cases h2:i≤k∧k < i+j
 ·rw [if_pos h2,if_pos ⟨h2.1,by omega⟩]
 ·rw [if_neg h2,if_neg (by omega)]
theorem QiV {F R:List Int} {i j:Nat}:sj F R i (j+1) (i+j)=sj F R i j (i+j) - co R (i+(F.length - 1))*co F j:=by
 unfold sj
 rw [if_pos ⟨by omega,by omega⟩,if_neg (by omega),show i+j - i=j by omega]; omega
theorem Qcu {vs:List Value} {g g':Nat→Int} {n:Nat} (h:El Vp U vs g) (hn:vs.length=n) (he:∀ k,k < n→g' k=g k):El Vp U vs g':=fun k x hk=>by
 rw [he k (by rw [← hn]; exact (List.getElem?_eq_some_iff.1 hk).1)]; exact h k x hk
theorem div1 (x:Rat):x / ((1:Int):Rat)=x:=by
 show x / 1=x
 have h:=Rat.mul_inv_cancel (1:Rat) (by decide)
 rw [Rat.one_mul] at h
 rw [Rat.div_def,h,Rat.mul_one]
theorem one_ne:((1:Int):Rat)≠0:=by decide
set_option maxHeartbeats 8000000 in
theorem Qbo {v w:Value} {a F:List Int} {s:Nat} (ha:Pz U [] v a) (hF:Pz U [] w F) (sa:BL s a) (h1s:1≤s) (hs:s≤100000) (hta:trimL a=a) (hl1:1≤F.length) (hlead:co F (F.length - 1)=1) (hsm:∀ k,(co F k).natAbs≤1) (hna:a.length≤1000000) (hnF:F.length≤1000000) (hK:a.length - F.length+1≤31) :
  Ct Tryz.prog 206 [v,w] G U M fun v U' D=>∃ (pq:Option Addr) (nq cq:Nat) (vr:Value),v = .tuple #[.slice pq nq cq,vr]∧Pz U' [] vr (remL F a)∧D=[]:=by
 refine Ct.mono (Ct.settle (R:=fun v U' D=>∃ (pq:Option Addr) (nq cq:Nat) (vr:Value),v = .tuple #[.slice pq nq cq,vr]∧Po U' D vr (remL F a)) ?_) (fun _ _ _ _ ⟨h1,_,_,⟨pq,nq,cq,vr,h2,h3⟩,_,h5,h6⟩=>⟨pq,nq,cq,vr,h2,h3.sett h5 h6,h1⟩)
 have ha0:=ha
 have hF0:=hF
 obtain ⟨p,c,vs,rfl,hc,rw1,el⟩:=ha
 obtain ⟨q,d,ws,rfl,hd,rw2,el2⟩:=hF
 have sF:BL 1 F:=fun k=>by have:=hsm k; omega
 obtain ⟨n,hln⟩:∃ n,n=a.length:=⟨_,rfl⟩
 obtain ⟨m,hlm⟩:∃ m,m=F.length:=⟨_,rfl⟩
 rw [← hln] at rw1 hc hna hK ⊢
 rw [← hlm] at rw2 hd hnF hlead hl1 hK ⊢
 refine Qi Tryz.func206 rfl rfl rfl rfl ?_
 repeat (first|refine Qb ?_|refine Qa fun _=>?_|refine w_al fun _=>?_)
 rw [hln] 
 refine Qd rfl rfl rfl rfl rfl rfl (fun _=>jA (ha0.up uc (List.nil_sublist _)) sa h1s (by omega) (by omega)) ?_
 rintro v10 U10 D hU10 hpo
 rw [hta] at hpo
 obtain ⟨pr,cr,us,rfl,hcr,hcr2,hrow,hel⟩:=hpo
 rw [← hln] at hcr hrow ⊢
 repeat (first|refine Qb ?_|refine Qa fun _=>?_|refine w_al fun _=>?_)
 refine Ql rfl (fun h=>?_) (fun h=>?_)
 ·repeat (first|refine Qb ?_|refine Qa fun _=>?_|refine w_al fun _=>?_)
  refine Qg D sym rfl (.cons (.tmp rfl) (.cons (.tmp rfl) .nil)) uc sb (.inl rfl) ⟨none,0,0,_,rfl,?_⟩
  have e:remL F a=a:=by unfold remL; rw [hta,if_pos (by omega)]
  rw [e]
  exact ⟨pr,cr,us,by rw [← hln],by omega,hcr2,by rw [← hln]; exact hrow,hel⟩
 have hmn:m≤n:=by omega
 obtain ⟨K,hKK⟩:∃ K,K=n - m+1:=⟨_,rfl⟩
 have hKi:(n:Int) - (m:Int)+1=(K:Int):=by omega
 have hrem:remL F a=trimL (rdl F K a):=by unfold remL; rw [hta,if_neg (by omega),← hln,← hlm,← hKK]
 repeat (first|refine Qb ?_|refine Qa fun _=>?_|refine w_al fun _=>?_)
 rw [hKi]
 refine JA (m:=K) (n:=K) sym rfl rfl rfl rfl rfl rfl rfl rfl rfl (Nat.le_refl K) (by omega) (by omega) rfl rfl rfl rfl (fun b23=>?_)
 have hrq:=Yj (e:=TR) (s:=4) (b:=b23) (n:=K) (z:=zeroQV.v) rfl (by omega)
 refine Qm (M':=D++([(b23,Blk.arr (List.replicate K zeroQV.v),TR)]++M)) ?_ pgj
 generalize List.replicate K zeroQV.v=uq0 at hrq ⊢
 generalize [(b23,Blk.arr uq0,TR)]=Dq0 at hrq ⊢
 repeat (first|refine Qb ?_|refine Qa fun _=>?_|refine w_al fun _=>?_)
 have hq0:∀ (k:Nat) (x:Value),K≤k→uq0[k]?=some x→Vp U10 x ((fun _=>(0:Int)) k):=fun k x hk hx=>by
  have:=(List.getElem?_eq_some_iff.1 hx).1
  have:=hrq.len.1
  omega
 try refine Jo (M':=D++(Dq0++M)) (ULe.refl _) sbk ?_
 refine Qx (fun z E U' M'=>∃ (i:Nat) (us uq:List Value) (D Dq:MH) (R:List Int) (gq:Nat→Int),i≤K∧RowW TR 4 D pr n us∧El Vp U' us (co R)∧RowO TR 4 Dq (some ⟨b23,0,none⟩) K K uq∧(∀ k x,i≤k→uq[k]?=some x→Vp U' x (gq k))∧R.length=n∧rdl F i R=rdl F K a∧(∀ k,(co R k).natAbs≤2 ^ (K - i)*4294967296 ^ s)∧E=[(6,.int .i64 ((i:Int) - 1)),(5,.slice pr n cr),(4,.slice (some ⟨b23,0,none⟩) K K),(1,.slice q m d)]∧ULe U10 U'∧M'=D++(Dq++M)∧z=i) (n0:=K) (E0:=[(6,.int .i64 (((K:Nat):Int) - 1)),(5,.slice pr n cr),(4,.slice (some ⟨b23,0,none⟩) K K),(1,.slice q m d)]) ⟨rfl,rfl,rfl,rfl,trivial⟩ ⟨K,us,uq0,D,Dq0,a,(fun _=>0),Nat.le_refl K,hrow,hel,hrq,hq0,hln.symm,rfl,(fun k=>by rw [Nat.sub_self,Nat.pow_zero,Nat.one_mul]; exact Nat.le_of_lt (sa k)),rfl,uc,rfl,rfl⟩ ?_
 clear hrow hel hrq hq0
 rintro z E U1 M' ⟨i,us,uq,D,Dq,R,gq,hi,hrow,hel,hrq,hgq,hRl,hrd,hbd,rfl,hU1,rfl,hzL⟩
 try refine Qc ?_
 refine Ql rfl (fun h=>?_) (fun h=>?_)
 ·obtain ⟨i,rfl⟩:∃ k,i=k+1:=⟨i - 1,by omega⟩
  have hi1:(((i+1:Nat):Int) - 1)=(i:Int):=by omega
  rw [hi1]
  have hiK:i < K:=by omega
  have htop:i+(m - 1) < n:=by omega
  have hbR:BL (s+1) R:=fun k=>by
   have h2:2 ^ (K - (i+1))≤2 ^ 31:=Nat.pow_le_pow_right (by decide) (by omega)
   have hp:0 < 4294967296 ^ s:=Nat.pow_pos (by decide)
   rw [Nat.pow_succ]
   calc (co R k).natAbs≤2 ^ (K - (i+1))*4294967296 ^ s:=hbd k
    _≤2 ^ 31*4294967296 ^ s:=Nat.mul_le_mul_right _ h2
    _ < 4294967296 ^ s*4294967296:=by rw [Nat.mul_comm]; exact Nat.mul_lt_mul_of_pos_left (by decide) hp
  have hA:=hrow.at (U:=U1) (M:=D++(Dq++M)) sb
  obtain ⟨v3,hv3⟩:=hA.at htop
  obtain ⟨x3,rfl,hx3,sx3⟩:=vp_w (hel _ _ hv3) (hbR _) (by omega)
  obtain ⟨v4,hv4⟩:=rw2.at (show m - 1 < m by omega)
  obtain ⟨x4,rfl,hx4,sx4⟩:=vp_w (el2 _ _ hv4) (sF _) (by omega)
  rw [hlead] at hx4 sx4
  repeat (first|refine Qb ?_|refine Qa fun _=>?_|refine w_al fun _=>?_)
  refine Yf [16,20,21] [0,1,2,3,4,5,6,7,8,9,10,11,12,13,14,15,16,17,18,19,20,21] sym (by kernel_rfl) ?_
  try refine Qc ?_
  refine sl_y (QC sym rfl rfl rfl rfl rfl ( (show (i:Int)+(m:Int) - 1=((i+(m - 1):Nat):Int) by omega)) (hA.lt hv3) (hA.get _ _ hv3).1) rfl rfl rfl rfl ?_; refine sl_y (QQ sym rfl rfl rfl rfl rfl hA hv3) rfl rfl rfl rfl ?_
  try refine Qc ?_
  refine sl_y (QC sym rfl rfl rfl rfl rfl ( (show (m:Int) - 1=((m - 1:Nat):Int) by omega)) ((rw2.up uc sb).lt hv4) ((rw2.up uc sb).get _ _ hv4).1) rfl rfl rfl rfl ?_; refine sl_y (QQ sym rfl rfl rfl rfl rfl (rw2.up uc sb) hv4) rfl rfl rfl rfl ?_
  try refine Qc ?_
  refine Qd rfl rfl rfl rfl rfl rfl (fun _=>Qcz (hx3.rep.up uc (List.nil_sublist _)) (hx3.le sx3 (by omega)) (hx4.rep.up uc (List.nil_sublist _)) (hx4.le sx4 (by omega)) one_ne) ?_
  rintro v48 U48 D48 hU48 ⟨xq,rfl,h48,rfl⟩
  try rw [List.nil_append]
  try refine Qc ?_
  rw [div1] at h48
  refine Vk (j:=i) hiK rfl ?_
  refine Yr (v:=xq.v) (X:=D++M) hrq pgj hiK (fun Dq4 hrq4=>?_)
  refine Qm (M':=D++(Dq4++M)) ?_ pgj
  have hv5:(uq.set i xq.v)[i]?=some xq.v:=List.getElem?_set_self (by rw [hrq.len.1]; exact hiK)
  have hB:=hrq4.at (U:=U48) (M:=D++(Dq4++M)) sb
  have hgq2:∀ (k:Nat) (x:Value),i≤k→(uq.set i xq.v)[k]?=some x→Vp U48 x ((fun k=>if k=i then co R (i+(m - 1)) else gq k) k):=fun k x hk hx=>by
   by_cases e:k=i
   ·subst e
    rw [hv5] at hx
    cases hx
    show Vp _ _ (if k=k then _ else _)
    rw [if_pos rfl]
    exact ⟨xq,rfl,h48⟩
   ·show Vp _ _ (if k=i then _ else _)
    rw [if_neg e]
    rw [List.getElem?_set_ne (by omega)] at hx
    exact Jr _ _ _ _ uc (hgq k x (by omega) hx)
  have hbd2:∀ k,(co (stp F i R) k).natAbs≤2 ^ (K - i)*4294967296 ^ s:=fun k=>by
   have h1:=QeU (i:=i) hsm hbd k
   rw [show K - i=(K - (i+1))+1 by omega,Nat.pow_succ,Nat.mul_comm (2 ^ (K - (i+1))) 2,Nat.mul_assoc]
   exact h1
  try refine Qc ?_
  refine sl_y (QC sym rfl rfl rfl rfl rfl rfl (hB.lt hv5) (hB.get _ _ hv5).1) rfl rfl rfl rfl ?_; refine sl_y (QQ sym rfl rfl rfl rfl rfl hB hv5) rfl rfl rfl rfl ?_
  try refine Qc ?_
  refine Qd rfl rfl rfl rfl rfl rfl (fun _=>yO (z:=co R (i+(m - 1))) (h48.up uc (List.nil_sublist _)) (hbR _) (by omega) (by omega)) ?_
  rintro v56 U56 D56 hU56 ⟨t56,rfl,h56,rfl,rfl⟩
  rw [List.nil_append]
  cases t56
  ·repeat (first|refine Qb ?_|refine Qa fun _=>?_|refine w_al fun _=>?_)
   try refine Jo (M':=D++(Dq4++M)) (ULe.refl _) sbk ?_
   refine Qx (fun z E U' M'=>∃ (j:Nat) (us:List Value) (D:MH),j≤m∧RowW TR 4 D pr n us∧El Vp U' us (sj F R i j)∧E=[(59,.int .i64 (j:Int)),(58,.int .i64 (m:Int)),(57,.slice q m d),(6,.int .i64 (i:Int)),(5,.slice pr n cr),(4,.slice (some ⟨b23,0,none⟩) K K),(1,.slice q m d)]∧ULe U48 U'∧M'=D++(Dq4++M)∧z=m - j) (n0:=m - 0) (E0:=[(59,.int .i64 ((0:Nat):Int)),(58,.int .i64 (m:Int)),(57,.slice q m d),(6,.int .i64 (i:Int)),(5,.slice pr n cr),(4,.slice (some ⟨b23,0,none⟩) K K),(1,.slice q m d)]) ⟨rfl,rfl,rfl,rfl,rfl,rfl,rfl,trivial⟩ ⟨0,us,D,by omega,hrow,qx (hel.up Jr uc) (fun k=>QgI),rfl,uc,rfl,rfl⟩ ?_
   clear hrow hel hA hB hv3
   rintro z E U3 M' ⟨j,us,D,hj,hrow,hel,rfl,hU3,rfl,rfl⟩
   try refine Qc ?_
   refine Ql rfl (fun h=>?_) (fun h=>?_)
   ·have hjm:j < m:=by omega
    obtain ⟨v2,hv2⟩:=rw2.at hjm
    obtain ⟨x2,rfl,hx2,sx2⟩:=vp_w (el2 _ _ hv2) (sF j) (by omega)
    have hijn:i+j < n:=by omega
    obtain ⟨v6,hv6⟩:=(hrow.at (U:=U3) (M:=D) (List.Sublist.refl _)).at hijn
    have ssj:(sj F R i j (i+j)).natAbs < 4294967296 ^ (s+1):=by
     have e:sj F R i j (i+j)=co R (i+j):=by unfold sj; rw [if_neg (by omega)]; omega
     rw [e]; exact hbR _
    obtain ⟨x6,rfl,hx6,sx6⟩:=vp_w (hel _ _ hv6) ssj (by omega)
    repeat (first|refine Qb ?_|refine Qa fun _=>?_|refine w_al fun _=>?_)
    refine sl_y (QC sym rfl rfl rfl rfl rfl rfl ((rw2.up uc sb).lt hv2) ((rw2.up uc sb).get _ _ hv2).1) rfl rfl rfl rfl ?_; refine sl_y (QQ sym rfl rfl rfl rfl rfl (rw2.up uc sb) hv2) rfl rfl rfl rfl ?_
    repeat (first|refine Qb ?_|refine Qa fun _=>?_|refine w_al fun _=>?_)
    rename_i b8
    refine Yf [17,18] [0,1,2,3,4,5,6,7,8,9,10,11,12,13,14,15,16,17,18] sym (by kernel_rfl) ?_
    try refine Qc ?_
    have hA:=hrow.at (U:=U3) (M:=(b8,.var x2.v,TR)::(D++(Dq4++M))) sb
    have hB:=hrq4.at (U:=U3) (M:=(b8,.var x2.v,TR)::(D++(Dq4++M))) sb
    refine sl_y (QC sym rfl rfl rfl rfl rfl rfl (hA.lt hv6) (hA.get _ _ hv6).1) rfl rfl rfl rfl ?_; refine sl_y (QQ sym rfl rfl rfl rfl rfl hA hv6) rfl rfl rfl rfl ?_
    try refine Qc ?_
    refine sl_y (QC sym rfl rfl rfl rfl rfl rfl (hB.lt hv5) (hB.get _ _ hv5).1) rfl rfl rfl rfl ?_; refine sl_y (QQ sym rfl rfl rfl rfl rfl hB hv5) rfl rfl rfl rfl ?_
    try refine Qc ?_
    refine Qd rfl rfl rfl rfl rfl rfl (fun _=>(QcJ (h48.rep.up uc (List.nil_sublist _)) (h48.le (Ve (hbR _) (by omega)) (by omega)) (hx2.rep.up uc (List.nil_sublist _)) (hx2.le sx2 (by omega))).settle) ?_
    rintro v Uh79 D hU ⟨rfl,_,_,⟨xh79,rfl,h79,-⟩,-,-,hs⟩
    replace h79:=h79.sett hs
    clear hs
    repeat (first|refine Qb ?_|refine Qa fun _=>?_|refine w_al fun _=>?_)
    have s79:=(Ve (hbR (i+(m - 1))) (by omega)).mul sx2
    refine Qd rfl rfl rfl rfl rfl rfl (fun _=>(QaE (hx6.rep.up uc (List.nil_sublist _)) (hx6.le sx6 (by omega)) (h79.rep.up uc (List.nil_sublist _)) (h79.le s79 (by omega))).settle) ?_
    rintro v Uh80 D hU ⟨rfl,_,_,⟨xh80,rfl,h80,-⟩,-,-,hs⟩
    replace h80:=h80.sett hs
    clear hs
    repeat (first|refine Qb ?_|refine Qa fun _=>?_|refine w_al fun _=>?_)
    rw [← Rat.intCast_mul,← Rat.intCast_sub,show co R (i+(m - 1))=co R (i+(F.length - 1)) by rw [hlm],← QiV] at h80
    refine Vk (j:=i+j) hijn (Qen hrow (by omega)) ?_
    refine QfC (v:=xh80.v) (X:=(b8,.var x2.v,TR)::(Dq4++M)) hrow pgj hijn (fun D4 hr4=>?_)
    refine Qm (M':=(b8,.var x2.v,TR)::(D4++(Dq4++M))) ?_ pgj
    try refine Qc ?_
    refine JG (M':=D4++(Dq4++M)) (ULe.refl _) sbk ?_
    exact Qo (E':=[(59,.int .i64 ((j:Int)+1)),(58,.int .i64 (m:Int)),(57,.slice q m d),(6,.int .i64 (i:Int)),(5,.slice pr n cr),(4,.slice (some ⟨b23,0,none⟩) K K),(1,.slice q m d)]) (m:=m - (j+1)) ⟨rfl,rfl,rfl,rfl,rfl,rfl,rfl,trivial⟩ (by omega) ⟨j+1,us.set (i+j) xh80.v,D4,by omega,hr4,Qce (fun k x hk hne=>by rw [QiU hne]; exact Jr _ _ _ _ uc (hel k x hk)) ⟨xh80,rfl,h80⟩,rfl,uc,rfl,rfl⟩
   ·obtain rfl:m=j:=by omega
    have hUL:=hrow.len
    repeat (first|refine Qb ?_|refine Qa fun _=>?_|refine w_al fun _=>?_)
    exact Qo (E':=[(6,.int .i64 ((i:Int) - 1)),(5,.slice pr n cr),(4,.slice (some ⟨b23,0,none⟩) K K),(1,.slice q m d)]) (m:=i) ⟨rfl,rfl,rfl,rfl,trivial⟩ (by omega) ⟨i,us,uq.set i xq.v,D,Dq4,stp F i R,(fun k=>if k=i then co R (i+(m - 1)) else gq k),by omega,hrow,Qcu hel hUL (fun k hk=>by rw [hlm]; exact (Qie (by omega)).symm),hrq4,(fun k x hk hx=>Jr _ _ _ _ uc (hgq2 k x hk hx)),by rw [jU]; exact hRl,hrd,hbd2,rfl,uc,rfl,rfl⟩
  ·have hz:co R (i+(m - 1))=0:=h56.1 rfl
   have hUL:=hrow.len
   repeat (first|refine Qb ?_|refine Qa fun _=>?_|refine w_al fun _=>?_)
   exact Qo (E':=[(6,.int .i64 ((i:Int) - 1)),(5,.slice pr n cr),(4,.slice (some ⟨b23,0,none⟩) K K),(1,.slice q m d)]) (m:=i) ⟨rfl,rfl,rfl,rfl,trivial⟩ (by omega) ⟨i,us,uq.set i xq.v,D,Dq4,stp F i R,(fun k=>if k=i then co R (i+(m - 1)) else gq k),by omega,hrow,Qcu (hel.up Jr uc) hUL (fun k hk=>by
    unfold stp
    rw [Ys,if_pos (by omega),← hlm,hz,Int.zero_mul]
    split<;>omega),hrq4,(fun k x hk hx=>Jr _ _ _ _ uc (hgq2 k x hk hx)),by rw [jU]; exact hRl,hrd,hbd2,rfl,uc,rfl,rfl⟩
 obtain rfl:i=0:=by omega
 obtain rfl:R=rdl F K a:=hrd
 have hq1:El Vp U1 uq gq:=fun k x hk=>hgq k x (Nat.zero_le k) hk
 repeat (first|refine Qb ?_|refine Qa fun _=>?_|refine w_al fun _=>?_)
 refine Qd rfl rfl rfl rfl rfl rfl (fun _=>JW (hrq.at sb) hq1 (Nat.le_refl K) (by omega)) ?_
 rintro v84 U84 D84 hU84 ⟨rfl,rfl,rfl⟩
 rw [List.nil_append]
 repeat (first|refine Qb ?_|refine Qa fun _=>?_|refine w_al fun _=>?_)
 refine Qd rfl rfl rfl rfl rfl rfl (fun _=>JW (hrow.at sb) hel hcr (by omega)) ?_
 rintro v86 U86 D86 hU86 ⟨rfl,rfl,rfl⟩
 rw [List.nil_append]
 repeat (first|refine Qb ?_|refine Qa fun _=>?_|refine w_al fun _=>?_)
 refine Qg D sym rfl (.cons (.tmp rfl) (.cons (.tmp rfl) .nil)) uc sb (.inl rfl) ⟨_,_,_,_,rfl,?_⟩
 rw [hrem]
 exact QaI hrow hcr hcr2 hel (by rw [QS,hRl]) (JK _ _) fun k _=>Yp _ k
set_option maxHeartbeats 4000000 in
theorem QbH {v w:Value} {a F:List Int} {s:Nat} (ha:Pz U M v a) (hF:Pz U [] w F) (sa:BL s a) (h1s:1≤s) (hs:s≤100000) (hl1:1≤F.length) (hlead:co F (F.length - 1)=1) (hsm:∀ k,(co F k).natAbs≤1) (hna:a.length≤1000000) (hnF:F.length≤1000000) (hK:a.length - F.length+1≤31) :
  Ct Tryz.prog 150 [v,w] G U M fun v U' D=>∃ (pq:Option Addr) (nq cq:Nat) (vr:Value),v = .tuple #[.slice pq nq cq,vr,.int .i64 0]∧Pz U' [] vr (remL F a)∧D=[]:=by
 have hFid:trimL F=F:=Qbf (.inr (by rw [hlead]; decide))
 have sF:BL 1 F:=fun k=>by have:=hsm k; omega
 have hla:(trimL a).length≤a.length:=by rw [QS]; exact JK _ _
 have e:remL F (trimL a)=remL F a:=by unfold remL; rw [jp]
 have ha0:=ha
 have hF0:=hF
 obtain ⟨p,c,vs,rfl,hc,rw1,el⟩:=ha
 obtain ⟨q,d,ws,rfl,hd,rw2,el2⟩:=hF
 refine Qi Tryz.func150 rfl rfl rfl rfl ?_
 repeat (first|refine Qb ?_|refine Qa fun _=>?_|refine w_al fun _=>?_)
 refine Qd rfl rfl rfl rfl rfl rfl (fun _=>jx (hF0.up uc (List.nil_sublist _)) sF (by decide) (by decide) hnF) ?_
 rintro v8 U8 D8 hU8 ⟨hF1,rfl⟩
 rw [List.nil_append]
 rw [hFid] at hF1
 obtain ⟨q1,d1,ws1,rfl,hd1,rw21,el21⟩:=id hF1
 repeat (first|refine Qb ?_|refine Qa fun _=>?_|refine w_al fun _=>?_)
 refine Ql rfl (fun h=>absurd h (by omega)) (fun _=>?_)
 repeat (first|refine Qb ?_|refine Qa fun _=>?_|refine w_al fun _=>?_)
 refine Qd rfl rfl rfl rfl rfl rfl (fun _=>jx (ha0.up uc sb) sa h1s (by omega) hna) ?_
 rintro v14 U14 D14 hU14 ⟨ha1,rfl⟩
 rw [List.nil_append]
 obtain ⟨p1,c1,vs1,rfl,hc1,rw11,el11⟩:=id ha1
 repeat (first|refine Qb ?_|refine Qa fun _=>?_|refine w_al fun _=>?_)
 refine Qd rfl rfl rfl rfl rfl rfl (fun _=>Qbo (ha1.up uc (List.nil_sublist _)) (hF1.up uc (List.nil_sublist _)) sa.trim h1s hs (jp a) hl1 hlead hsm (by omega) hnF (by omega)) ?_
 rintro v16 U16 D16 hU16 ⟨pq,nq,cq,vr,rfl,hr,rfl⟩
 rw [List.nil_append]
 rw [e] at hr
 repeat (first|refine Qb ?_|refine Qa fun _=>?_|refine w_al fun _=>?_)
 exact Qg [] sym rfl (.cons (.tmp rfl) (.cons (.tmp rfl) (.cons (.tmp rfl) .nil))) uc sb (.inl rfl) ⟨pq,nq,cq,vr,rfl,hr,rfl⟩
end Go.Proofs.YtnjpkncacddplaaGreatDoor

/- Walks of qpoly.Sub, Of; zpoly.Normal; numfield.open. -/
namespace Go.Proofs.YtnjpkncacddplaaGreatDoor
open Go.Hp Go.Pl
variable {G:World} {U U':UH} {M:MH}
theorem Qfa:zeroQV.rep U M 0:=⟨0,0,⟨[],Dig.nil,rfl⟩,⟨[],Dig.nil,rfl⟩,rfl⟩
set_option maxHeartbeats 8000000 in
theorem Qfm {v w:Value} {a b:List Int} {s:Nat} (ha:Pz U [] v a) (hb:Pz U [] w b) (sa:BL s a) (sb':BL s b) (h1s:1≤s) (hs:s≤1000000) (hna:a.length≤1000000) (hnb:b.length≤1000000) :
  Ct Tryz.prog 151 [v,w,.func (.func 133) #[] #[]] G U M fun v U' D=>Po U' D v (subL a b):=by
 obtain ⟨p,c,vs,rfl,hc,rw1,el⟩:=ha
 obtain ⟨q,d,ws,rfl,hd,rw2,el2⟩:=hb
 obtain ⟨n,hln⟩:∃ n,n=a.length:=⟨_,rfl⟩
 obtain ⟨m,hlm⟩:∃ m,m=b.length:=⟨_,rfl⟩
 rw [← hln] at rw1 hc hna ⊢
 rw [← hlm] at rw2 hd hnb ⊢
 obtain ⟨N,hN⟩:∃ N,N=max n m:=⟨_,rfl⟩
 have hNi:(if (m:Int) > (n:Int) then (m:Int) else (n:Int))=(N:Int):=by split<;>omega
 have hsub:subL a b=trimL ((List.range N).map fun k=>co a k - co b k):=by unfold subL; rw [← hln,← hlm,← hN]
 refine Qi Tryz.func151 rfl rfl rfl rfl ?_
 repeat (first|refine Qb ?_|refine Qa fun _=>?_|refine w_al fun _=>?_)
 rw [hNi]
 refine JA (m:=N) (n:=N) sym rfl rfl rfl rfl rfl rfl rfl rfl rfl (Nat.le_refl N) (by omega) (by omega) rfl rfl rfl rfl (fun b8=>?_)
 have hrow:=Yj (e:=TR) (s:=4) (b:=b8) (n:=N) (z:=zeroQV.v) rfl (by omega)
 refine Qm (M':=[(b8,Blk.arr (List.replicate N zeroQV.v),TR)]++M) ?_ (List.Perm.refl _)
 generalize List.replicate N zeroQV.v=us0 at hrow ⊢
 generalize [(b8,Blk.arr us0,TR)]=D0 at hrow ⊢
 repeat (first|refine Qb ?_|refine Qa fun _=>?_|refine w_al fun _=>?_)
 try refine Jo (M':=D0++M) (ULe.refl _) sbk ?_
 refine Qx (fun z E U' M'=>∃ (i:Nat) (us:List Value) (D:MH),i≤N∧RowO TR 4 D (some ⟨b8,0,none⟩) N N us∧ElTo Vp U' i us (fun k=>co a k - co b k)∧E=[(19,.int .i64 (i:Int)),(18,.int .i64 (N:Int)),(7,.slice (some ⟨b8,0,none⟩) N N),(0,.slice p n c),(1,.slice q m d),(2,.func (.func 133) #[] #[])]∧ULe U U'∧M'=D++M∧z=N - i) (n0:=N - 0) (E0:=[(19,.int .i64 ((0:Nat):Int)),(18,.int .i64 (N:Int)),(7,.slice (some ⟨b8,0,none⟩) N N),(0,.slice p n c),(1,.slice q m d),(2,.func (.func 133) #[] #[])]) ⟨rfl,rfl,rfl,rfl,rfl,rfl,trivial⟩ ⟨0,us0,D0,by omega,hrow,(fun k x hk=>absurd hk (Nat.not_lt_zero k)),rfl,uc,rfl,rfl⟩ ?_
 clear hrow
 rintro z E U1 M' ⟨i,us,D,hi,hrow,hel,rfl,hU1,rfl,rfl⟩
 try refine Qc ?_
 refine Ql rfl (fun h=>?_) (fun h=>?_)
 ·have hin:i < N:=by omega
  repeat (first|refine Vw ?_|refine Qa fun _=>?_|refine w_al fun _=>?_)
  refine Jd ?_
  refine JQ ?_
  refine Jd ?_
  repeat (first|refine Vw ?_|refine Qa fun _=>?_|refine w_al fun _=>?_)
  refine Jd ?_
  repeat (first|refine Vw ?_|refine Qa fun _=>?_|refine w_al fun _=>?_)
  rename_i b9 b10
  refine Qt (fun E U' M'=>∃ (x:QV),x.rep U' [] ((co a i:Int):Rat)∧x.le s∧E=[(8,.int .i64 (i:Int)),(9,.pointer (some ⟨b9,0,none⟩)),(10,.pointer (some ⟨b10,0,none⟩)),(19,.int .i64 (i:Int)),(18,.int .i64 (N:Int)),(7,.slice (some ⟨b8,0,none⟩) N N),(0,.slice p n c),(1,.slice q m d),(2,.func (.func 133) #[] #[])]∧ULe U1 U'∧M'=(b10,.var zeroQV.v,TR)::(b9,.var x.v,TR)::(D++M)) ?_ ?_
  ·try refine Qc ?_
   refine Ql rfl (fun h1=>?_) (fun h1=>?_)
   ·obtain ⟨v1,hv1⟩:=rw1.at (show i < n by omega)
    obtain ⟨x1,rfl,hx1,sx1⟩:=vp_w (el _ _ hv1) (sa i) h1s
    repeat (first|refine Qb ?_|refine Qa fun _=>?_|refine w_al fun _=>?_)
    refine sl_y (QC sym rfl rfl rfl rfl rfl rfl ((rw1.up uc sb).lt hv1) ((rw1.up uc sb).get _ _ hv1).1) rfl rfl rfl rfl ?_; refine sl_y (QQ sym rfl rfl rfl rfl rfl (rw1.up uc sb) hv1) rfl rfl rfl rfl ?_
    repeat (first|refine Qb ?_|refine Qa fun _=>?_|refine w_al fun _=>?_)
    exact Qy (E':=[(8,.int .i64 (i:Int)),(9,.pointer (some ⟨b9,0,none⟩)),(10,.pointer (some ⟨b10,0,none⟩)),(19,.int .i64 (i:Int)),(18,.int .i64 (N:Int)),(7,.slice (some ⟨b8,0,none⟩) N N),(0,.slice p n c),(1,.slice q m d),(2,.func (.func 133) #[] #[])]) ⟨rfl,rfl,rfl,rfl,rfl,rfl,rfl,rfl,rfl,trivial⟩ ⟨x1,hx1.rep.up uc (List.Sublist.refl _),hx1.le sx1 (Nat.le_refl s),rfl,uc,rfl⟩
   ·have e0:co a i=0:=Ym (by omega)
    repeat (first|refine Qb ?_|refine Qa fun _=>?_|refine w_al fun _=>?_)
    exact Qy (E':=[(8,.int .i64 (i:Int)),(9,.pointer (some ⟨b9,0,none⟩)),(10,.pointer (some ⟨b10,0,none⟩)),(19,.int .i64 (i:Int)),(18,.int .i64 (N:Int)),(7,.slice (some ⟨b8,0,none⟩) N N),(0,.slice p n c),(1,.slice q m d),(2,.func (.func 133) #[] #[])]) ⟨rfl,rfl,rfl,rfl,rfl,rfl,rfl,rfl,rfl,trivial⟩ ⟨zeroQV,by rw [e0]; exact Qfa,⟨Nat.zero_le _,Nat.zero_le _⟩,rfl,uc,rfl⟩
  rintro E U2 M' ⟨x,hx,hl,rfl,hU2,rfl⟩
  refine Qt (fun E U' M'=>∃ (y:QV),y.rep U' [] ((co b i:Int):Rat)∧y.le s∧E=[(8,.int .i64 (i:Int)),(9,.pointer (some ⟨b9,0,none⟩)),(10,.pointer (some ⟨b10,0,none⟩)),(19,.int .i64 (i:Int)),(18,.int .i64 (N:Int)),(7,.slice (some ⟨b8,0,none⟩) N N),(0,.slice p n c),(1,.slice q m d),(2,.func (.func 133) #[] #[])]∧ULe U2 U'∧M'=(b10,.var y.v,TR)::(b9,.var x.v,TR)::(D++M)) ?_ ?_
  ·try refine Qc ?_
   refine Ql rfl (fun h1=>?_) (fun h1=>?_)
   ·obtain ⟨v1,hv1⟩:=rw2.at (show i < m by omega)
    obtain ⟨x1,rfl,hx1,sx1⟩:=vp_w (el2 _ _ hv1) (sb' i) h1s
    repeat (first|refine Qb ?_|refine Qa fun _=>?_|refine w_al fun _=>?_)
    refine sl_y (QC sym rfl rfl rfl rfl rfl rfl ((rw2.up uc sb).lt hv1) ((rw2.up uc sb).get _ _ hv1).1) rfl rfl rfl rfl ?_; refine sl_y (QQ sym rfl rfl rfl rfl rfl (rw2.up uc sb) hv1) rfl rfl rfl rfl ?_
    repeat (first|refine Qb ?_|refine Qa fun _=>?_|refine w_al fun _=>?_)
    exact Qy (E':=[(8,.int .i64 (i:Int)),(9,.pointer (some ⟨b9,0,none⟩)),(10,.pointer (some ⟨b10,0,none⟩)),(19,.int .i64 (i:Int)),(18,.int .i64 (N:Int)),(7,.slice (some ⟨b8,0,none⟩) N N),(0,.slice p n c),(1,.slice q m d),(2,.func (.func 133) #[] #[])]) ⟨rfl,rfl,rfl,rfl,rfl,rfl,rfl,rfl,rfl,trivial⟩ ⟨x1,hx1.rep.up uc (List.Sublist.refl _),hx1.le sx1 (Nat.le_refl s),rfl,uc,rfl⟩
   ·have e0:co b i=0:=Ym (by omega)
    repeat (first|refine Qb ?_|refine Qa fun _=>?_|refine w_al fun _=>?_)
    exact Qy (E':=[(8,.int .i64 (i:Int)),(9,.pointer (some ⟨b9,0,none⟩)),(10,.pointer (some ⟨b10,0,none⟩)),(19,.int .i64 (i:Int)),(18,.int .i64 (N:Int)),(7,.slice (some ⟨b8,0,none⟩) N N),(0,.slice p n c),(1,.slice q m d),(2,.func (.func 133) #[] #[])]) ⟨rfl,rfl,rfl,rfl,rfl,rfl,rfl,rfl,rfl,trivial⟩ ⟨zeroQV,by rw [e0]; exact Qfa,⟨Nat.zero_le _,Nat.zero_le _⟩,rfl,uc,rfl⟩
  rintro E U3 M' ⟨y,hy,hl2,rfl,hU3,rfl⟩
  repeat (first|refine Qb ?_|refine Qa fun _=>?_|refine w_al fun _=>?_)
  refine Qfj rfl rfl rfl rfl rfl rfl rfl (fun M2=>(QaE (hx.up uc (List.nil_sublist _)) ⟨by have:=hl.1; omega,by have:=hl.2; omega⟩ (hy.up uc (List.nil_sublist _)) ⟨by have:=hl2.1; omega,by have:=hl2.2; omega⟩).settle) ?_
  rintro v4 U4 D4 hU4 ⟨rfl,_,_,⟨x4,rfl,h4,-⟩,-,-,hs4⟩
  replace h4:=h4.sett hs4
  clear hs4
  rw [List.nil_append]
  rw [← Rat.intCast_sub] at h4
  repeat (first|refine Qb ?_|refine Qa fun _=>?_|refine w_al fun _=>?_)
  refine Vk (j:=i) hin rfl ?_
  refine Yr (v:=x4.v) (X:=(b10,.var y.v,TR)::(b9,.var x.v,TR)::M) hrow pgj hin (fun D5 hr5=>?_)
  refine Qm (M':=(b10,.var y.v,TR)::(b9,.var x.v,TR)::(D5++M)) ?_ pgj
  try refine Qc ?_
  refine JG (M':=D5++M) (ULe.refl _) sbk ?_
  exact Qo (E':=[(19,.int .i64 ((i:Int)+1)),(18,.int .i64 (N:Int)),(7,.slice (some ⟨b8,0,none⟩) N N),(0,.slice p n c),(1,.slice q m d),(2,.func (.func 133) #[] #[])]) (m:=N - (i+1)) ⟨rfl,rfl,rfl,rfl,rfl,rfl,trivial⟩ (by omega) ⟨i+1,us.set i x4.v,D5,by omega,hr5,(hel.up Jr uc).next ⟨x4,rfl,h4⟩,rfl,uc,rfl,rfl⟩
 obtain rfl:N=i:=by omega
 have hel:=hel.all hrow.len.1
 repeat (first|refine Qb ?_|refine Qa fun _=>?_|refine w_al fun _=>?_)
 refine Qd rfl rfl rfl rfl rfl rfl (fun _=>JW (hrow.at sb) hel (Nat.le_refl N) (by omega)) ?_
 rintro v47 U47 D47 hU47 ⟨rfl,rfl,rfl⟩
 rw [List.nil_append]
 repeat (first|refine Qb ?_|refine Qa fun _=>?_|refine w_al fun _=>?_)
 refine Qg D sym rfl (.cons (.tmp rfl) .nil) uc sb (.inl rfl) ?_
 have e1:∀ k,k < N→co ((List.range N).map fun k=>co a k - co b k) k=co a k - co b k:=fun k hk=>by rw [Ys,if_pos hk]
 rw [hsub]
 exact QaI hrow.w (Nat.le_refl N) (by omega) hel (by rw [QS]; simp only [List.length_map,List.length_range]; exact jc e1) (JK _ _) fun k hk=>by
  have:=JK (fun k=>co a k - co b k) N
  rw [Yp,e1 k (by omega)]
theorem QeX {v w:Value} {a b:List Int} {s:Nat} (ha:Pz U [] v a) (hb:Pz U [] w b) (sa:BL s a) (sb':BL s b) (h1s:1≤s) (hs:s≤1000000) (hna:a.length≤1000000) (hnb:b.length≤1000000) :
  Ct Tryz.prog 95 [v,w] G U M fun v U' D=>Pz U' [] v (subL a b)∧D=[]:=by
 have ha0:=ha
 have hb0:=hb
 obtain ⟨p,c,vs,rfl,hc,rw1,el⟩:=ha
 obtain ⟨q,d,ws,rfl,hd,rw2,el2⟩:=hb
 refine Ct.mono (Ct.settle (R:=fun v U' D=>Po U' D v (subL a b)) ?_) (fun _ _ _ _ ⟨h1,_,_,h2,_,h3,h4⟩=>⟨h2.sett h3 h4,h1⟩)
 refine Qi Tryz.func95 rfl rfl rfl rfl ?_
 repeat (first|refine Qb ?_|refine Qa fun _=>?_|refine w_al fun _=>?_)
 refine Qd rfl rfl rfl rfl rfl rfl (fun _=>Qfm (ha0.up uc (List.nil_sublist _)) (hb0.up uc (List.nil_sublist _)) sa sb' h1s hs hna hnb) ?_
 rintro v7 U7 D7 hU7 hpo
 repeat (first|refine Qb ?_|refine Qa fun _=>?_|refine w_al fun _=>?_)
 refine Qg D7 sym rfl (.cons (.tmp rfl) .nil) uc sb (.inl rfl) ?_
 exact hpo
end Go.Proofs.YtnjpkncacddplaaGreatDoor

/- Walks of zpoly.Normal, qpoly.Of, numfield.open. -/
namespace Go.Proofs.YtnjpkncacddplaaGreatDoor
open Go.Hp Go.Pl
variable {G:World} {U U':UH} {M:MH}
theorem Qbs {n c:Nat} {p:Option Addr} {vs:List Value} {g:Nat→Int} (rw1:RowAt U M 2 p n vs) (el:El Zn U vs g) (hc:n≤c) (hn:n≤1000000000) :
  Ct Tryz.prog 203 [.slice p n c] G U M fun v U' D=>v = .slice p (trn g n) c∧U=U'∧D=[]:=by
 refine Qi Tryz.func203 rfl rfl rfl rfl ?_
 repeat (first|refine Qb ?_|refine Qa fun _=>?_|refine w_al fun _=>?_)
 try refine Jo (M':=M) (ULe.refl _) sbk ?_
 refine Qx (fun z E U' M'=>∃ (m:Nat),m≤n∧trn g m=trn g n∧U=U'∧E=[(0,.slice p m c)]∧ULe U U'∧M'=M∧z=m) (n0:=n) (E0:=[(0,.slice p n c)]) ⟨rfl,trivial⟩ ⟨n,Nat.le_refl n,rfl,rfl,rfl,uc,rfl,rfl⟩ ?_
 rintro z E U1 M' ⟨m,hm,ht,rfl,rfl,hU1,rfl,hzL⟩
 try refine Qc ?_
 refine QL rfl rfl (fun h=>?_) (fun h=>?_)
 ·obtain ⟨k,rfl⟩:∃ k,m=k+1:=⟨m - 1,by omega⟩
  obtain ⟨v1,hv1⟩:=rw1.at (show k < n by omega)
  obtain ⟨x1,rfl,hx1⟩:=el _ _ hv1
  have h0:=Qfv hx1
  repeat (first|refine Qb ?_|refine Qa fun _=>?_|refine w_al fun _=>?_)
  refine sl_y (QC sym rfl rfl rfl rfl rfl (show (((k+1:Nat):Int) - 1)=(k:Int) by omega) (show k < k+1 by omega) ((rw1.up uc sb).get _ _ hv1).1) rfl rfl rfl rfl ?_
  repeat (first|refine Qb ?_|refine Qa fun _=>?_|refine w_al fun _=>?_)
  refine sl_y (vx (j:=1) (u := .slice x1.p x1.n x1.c) sym rfl rfl (by rw [jD]) rfl rfl (rw1.up uc sb) hv1 rfl) rfl rfl rfl rfl ?_
  repeat (first|refine Qb ?_|refine Qa fun _=>?_|refine w_al fun _=>?_)
  refine Ql rfl (fun h1=>?_) (fun h1=>?_)
  ·have hg:g k=0:=h0.1 (by omega)
   repeat (first|refine Qb ?_|refine Qa fun _=>?_|refine w_al fun _=>?_)
   refine sl_y (Vs (h:=k) sym rfl rfl rfl rfl rfl (show (((k+1:Nat):Int) - 1)=(k:Int) by omega) (by omega)) rfl rfl rfl rfl ?_
   repeat (first|refine Qb ?_|refine Qa fun _=>?_|refine w_al fun _=>?_)
   exact Qo (E':=[(0,.slice p k c)]) (m:=k) ⟨rfl,trivial⟩ (by omega) ⟨k,(by omega),(by rw [← ht]; show trn g k=if g k=0 then trn g k else k+1; rw [if_pos hg]),rfl,rfl,uc,rfl,rfl⟩
  ·have hg:g k≠0:=fun e=>h1 (by rw [h0.2 e]; rfl)
   have ht2:trn g n=k+1:=by rw [← ht]; show (if g k=0 then trn g k else k+1)=k+1; rw [if_neg hg]
   repeat (first|refine Qb ?_|refine Qa fun _=>?_|refine w_al fun _=>?_)
   exact Qg [] sym rfl (.cons (.tmp rfl) .nil) uc sb (.inl rfl) ⟨by rw [ht2]; rfl,rfl,rfl⟩
 ·obtain rfl:m=0:=by omega
  have ht2:trn g n=0:=ht.symm
  repeat (first|refine Qb ?_|refine Qa fun _=>?_|refine w_al fun _=>?_)
  exact Qg [] sym rfl (.cons (.tmp rfl) .nil) uc sb (.inl rfl) ⟨by rw [ht2]; rfl,rfl,rfl⟩
set_option maxHeartbeats 4000000 in
theorem Qbm {v:Value} {L:List Int} {b:Nat} (h:Ls Zn 2 L.length U [] v (co L)) (hb:BL b L) (hb1:1≤b) (hb2:b≤1000000) (hn:L.length≤1000000) (htop:co L (L.length - 1)≠0) :
  Ct Tryz.prog 146 [v] G U M fun v U' D=>Lo Zn TJ 2 L.length U' D v (co L):=by
 obtain ⟨p,c,vs,rfl,hc,rw1,el⟩:=h
 obtain ⟨n,hln⟩:∃ n,n=L.length:=⟨_,rfl⟩
 rw [← hln] at rw1 hc hn htop ⊢
 refine Qi Tryz.func146 rfl rfl rfl rfl ?_
 repeat (first|refine Qb ?_|refine Qa fun _=>?_|refine w_al fun _=>?_)
 refine JA (m:=n) (n:=n) sym rfl rfl rfl rfl rfl rfl rfl rfl rfl (Nat.le_refl n) (by omega) (by omega) rfl rfl rfl rfl (fun b8=>?_)
 have hrow:=Yj (e:=TJ) (s:=2) (b:=b8) (n:=n) (z:=zeroIV0.v) rfl (by omega)
 refine Qm (M':=[(b8,Blk.arr (List.replicate n zeroIV0.v),TJ)]++M) ?_ (List.Perm.refl _)
 generalize List.replicate n zeroIV0.v=us0 at hrow ⊢
 generalize [(b8,Blk.arr us0,TJ)]=D0 at hrow ⊢
 repeat (first|refine Qb ?_|refine Qa fun _=>?_|refine w_al fun _=>?_)
 try refine Jo (M':=D0++M) (ULe.refl _) sbk ?_
 refine Qx (fun z E U' M'=>∃ (i:Nat) (us:List Value) (D:MH),i≤n∧RowO TJ 2 D (some ⟨b8,0,none⟩) n n us∧ElTo Zn U' i us (co L)∧E=[(11,.int .i64 (i:Int)),(10,.int .i64 (n:Int)),(9,.slice p n c),(3,.slice (some ⟨b8,0,none⟩) n n)]∧ULe U U'∧M'=D++M∧z=n - i) (n0:=n - 0) (E0:=[(11,.int .i64 ((0:Nat):Int)),(10,.int .i64 (n:Int)),(9,.slice p n c),(3,.slice (some ⟨b8,0,none⟩) n n)]) ⟨rfl,rfl,rfl,rfl,trivial⟩ ⟨0,us0,D0,by omega,hrow,(fun k x hk=>absurd hk (Nat.not_lt_zero k)),rfl,uc,rfl,rfl⟩ ?_
 clear hrow
 rintro z E U1 M' ⟨i,us,D,hi,hrow,hel,rfl,hU1,rfl,rfl⟩
 try refine Qc ?_
 refine Ql rfl (fun h=>?_) (fun h=>?_)
 ·have hin:i < n:=by omega
  obtain ⟨v1,hv1⟩:=rw1.at hin
  obtain ⟨x1,rfl,hx1⟩:=el _ _ hv1
  repeat (first|refine Qb ?_|refine Qa fun _=>?_|refine w_al fun _=>?_)
  refine sl_y (QC sym rfl rfl rfl rfl rfl rfl ((rw1.up uc sb).lt hv1) ((rw1.up uc sb).get _ _ hv1).1) rfl rfl rfl rfl ?_; refine sl_y (QQ sym rfl rfl rfl rfl rfl (rw1.up uc sb) hv1) rfl rfl rfl rfl ?_
  repeat (first|refine Qb ?_|refine Qa fun _=>?_|refine w_al fun _=>?_)
  rename_i b5
  refine Qd rfl rfl rfl rfl rfl rfl (fun _=>(VW (hx1.rep.up uc (List.nil_sublist _)) (hx1.le (k:=b) (hb i) (by omega))).settle) ?_
  rintro v Uh19 D hU ⟨rfl,_,_,⟨xh19,rfl,h19,-⟩,-,-,hs⟩
  replace h19:=h19.sett hs
  clear hs
  repeat (first|refine Qb ?_|refine Qa fun _=>?_|refine w_al fun _=>?_)
  refine Vk (j:=i) hin rfl ?_
  refine Yr (v:=xh19.v) (X:=(b5,.var (.agg #[.bool x1.neg,.slice x1.p x1.n x1.c]),TJ)::M) hrow pgj hin (fun D4 hr4=>?_)
  try refine Qc ?_
  refine JG (M':=D4++M) (ULe.refl _) sbk ?_
  exact Qo (E':=[(11,.int .i64 ((i:Int)+1)),(10,.int .i64 (n:Int)),(9,.slice p n c),(3,.slice (some ⟨b8,0,none⟩) n n)]) (m:=n - (i+1)) ⟨rfl,rfl,rfl,rfl,trivial⟩ (by omega) ⟨i+1,us.set i xh19.v,D4,by omega,hr4,(hel.up KeptC.out uc).next ⟨xh19,rfl,h19⟩,rfl,uc,rfl,rfl⟩
 obtain rfl:n=i:=by omega
 have hel2:=hel.all hrow.len.1
 repeat (first|refine Qb ?_|refine Qa fun _=>?_|refine w_al fun _=>?_)
 refine Qd rfl rfl rfl rfl rfl rfl (fun _=>Qbs (hrow.at sb) hel2 (Nat.le_refl n) (by omega)) ?_
 rintro v23 U23 D23 hU23 ⟨rfl,rfl,rfl⟩
 rw [List.nil_append,yp (.inr htop)]
 repeat (first|refine Qb ?_|refine Qa fun _=>?_|refine w_al fun _=>?_)
 refine Qg D sym rfl (.cons (.tmp rfl) .nil) uc sb (.inl rfl) ?_
 exact ⟨_,_,us,rfl,hrow,hel2⟩
theorem QaW {v:Value} {L:List Int} {b:Nat} (h:Ls Zn 2 L.length U [] v (co L)) (hb:BL b L) (hb1:1≤b) (hb2:b≤1000000) (hn:L.length≤1000000) (htop:co L (L.length - 1)≠0) :
  Ct Tryz.prog 146 [v] G U M fun v U' D=>Ls Zn 2 L.length U' [] v (co L)∧D=[] :=
 (Qbm h hb hb1 hb2 hn htop).settle.mono fun _ _ _ _ ⟨h1,_,_,h2,_,h3,h4⟩=>⟨h2.sett KeptC.out h3 h4,h1⟩
set_option maxHeartbeats 4000000 in
theorem Qhu {v:Value} {L:List Int} {b:Nat} (h:Ls Zn 2 L.length U [] v (co L)) (hb:BL b L) (hb1:1≤b) (hb2:b≤1000000) (hn:L.length≤1000000) (htop:co L (L.length - 1)≠0) :
  Ct Tryz.prog 145 [v] G U M fun v U' D=>Po U' D v L:=by
 obtain ⟨p,c,vs,rfl,hc,rw1,el⟩:=h
 obtain ⟨n,hln⟩:∃ n,n=L.length:=⟨_,rfl⟩
 rw [← hln] at rw1 hc hn htop ⊢
 refine Qi Tryz.func145 rfl rfl rfl rfl ?_
 repeat (first|refine Qb ?_|refine Qa fun _=>?_|refine w_al fun _=>?_)
 refine JA (m:=n) (n:=n) sym rfl rfl rfl rfl rfl rfl rfl rfl rfl (Nat.le_refl n) (by omega) (by omega) rfl rfl rfl rfl (fun b8=>?_)
 have hrow:=Yj (e:=TR) (s:=4) (b:=b8) (n:=n) (z:=zeroQV.v) rfl (by omega)
 refine Qm (M':=[(b8,Blk.arr (List.replicate n zeroQV.v),TR)]++M) ?_ (List.Perm.refl _)
 generalize List.replicate n zeroQV.v=us0 at hrow ⊢
 generalize [(b8,Blk.arr us0,TR)]=D0 at hrow ⊢
 repeat (first|refine Qb ?_|refine Qa fun _=>?_|refine w_al fun _=>?_)
 try refine Jo (M':=D0++M) (ULe.refl _) sbk ?_
 refine Qx (fun z E U' M'=>∃ (i:Nat) (us:List Value) (D:MH),i≤n∧RowO TR 4 D (some ⟨b8,0,none⟩) n n us∧ElTo Vp U' i us (co L)∧E=[(11,.int .i64 (i:Int)),(10,.int .i64 (n:Int)),(9,.slice p n c),(3,.slice (some ⟨b8,0,none⟩) n n)]∧ULe U U'∧M'=D++M∧z=n - i) (n0:=n - 0) (E0:=[(11,.int .i64 ((0:Nat):Int)),(10,.int .i64 (n:Int)),(9,.slice p n c),(3,.slice (some ⟨b8,0,none⟩) n n)]) ⟨rfl,rfl,rfl,rfl,trivial⟩ ⟨0,us0,D0,by omega,hrow,(fun k x hk=>absurd hk (Nat.not_lt_zero k)),rfl,uc,rfl,rfl⟩ ?_
 clear hrow
 rintro z E U1 M' ⟨i,us,D,hi,hrow,hel,rfl,hU1,rfl,rfl⟩
 try refine Qc ?_
 refine Ql rfl (fun h=>?_) (fun h=>?_)
 ·have hin:i < n:=by omega
  obtain ⟨v1,hv1⟩:=rw1.at hin
  obtain ⟨x1,rfl,hx1⟩:=el _ _ hv1
  repeat (first|refine Qb ?_|refine Qa fun _=>?_|refine w_al fun _=>?_)
  refine sl_y (QC sym rfl rfl rfl rfl rfl rfl ((rw1.up uc sb).lt hv1) ((rw1.up uc sb).get _ _ hv1).1) rfl rfl rfl rfl ?_; refine sl_y (QQ sym rfl rfl rfl rfl rfl (rw1.up uc sb) hv1) rfl rfl rfl rfl ?_
  repeat (first|refine Qb ?_|refine Qa fun _=>?_|refine w_al fun _=>?_)
  rename_i b5
  refine Qd rfl rfl rfl rfl rfl rfl (fun _=>(vf (hx1.rep.up uc (List.nil_sublist _)) (hx1.le (k:=b) (hb i) (by omega))).settle) ?_
  rintro v Uh19 D hU ⟨rfl,_,_,⟨xh19,rfl,h19,-⟩,-,-,hs⟩
  replace h19:=h19.sett hs
  clear hs
  repeat (first|refine Qb ?_|refine Qa fun _=>?_|refine w_al fun _=>?_)
  refine Vk (j:=i) hin rfl ?_
  refine Yr (v:=xh19.v) (X:=(b5,.var (.agg #[.bool x1.neg,.slice x1.p x1.n x1.c]),TJ)::M) hrow pgj hin (fun D4 hr4=>?_)
  try refine Qc ?_
  refine JG (M':=D4++M) (ULe.refl _) sbk ?_
  exact Qo (E':=[(11,.int .i64 ((i:Int)+1)),(10,.int .i64 (n:Int)),(9,.slice p n c),(3,.slice (some ⟨b8,0,none⟩) n n)]) (m:=n - (i+1)) ⟨rfl,rfl,rfl,rfl,trivial⟩ (by omega) ⟨i+1,us.set i xh19.v,D4,by omega,hr4,(hel.up Jr uc).next ⟨xh19,rfl,h19⟩,rfl,uc,rfl,rfl⟩
 obtain rfl:n=i:=by omega
 have hel2:=hel.all hrow.len.1
 repeat (first|refine Qb ?_|refine Qa fun _=>?_|refine w_al fun _=>?_)
 refine Qd rfl rfl rfl rfl rfl rfl (fun _=>JW (hrow.at sb) hel2 (Nat.le_refl n) (by omega)) ?_
 rintro v23 U23 D23 hU23 ⟨rfl,rfl,rfl⟩
 rw [List.nil_append,yp (.inr htop)]
 repeat (first|refine Qb ?_|refine Qa fun _=>?_|refine w_al fun _=>?_)
 refine Qg D sym rfl (.cons (.tmp rfl) .nil) uc sb (.inl rfl) ?_
 exact QaI hrow.w (Nat.le_refl n) (by omega) hel2 hln.symm (Nat.le_refl n) fun k _=>rfl
theorem Qhc {v:Value} {L:List Int} {b:Nat} (h:Ls Zn 2 L.length U [] v (co L)) (hb:BL b L) (hb1:1≤b) (hb2:b≤1000000) (hn:L.length≤1000000) (htop:co L (L.length - 1)≠0) :
  Ct Tryz.prog 145 [v] G U M fun v U' D=>Pz U' [] v L∧D=[] :=
 (Qhu h hb hb1 hb2 hn htop).settle.mono fun _ _ _ _ ⟨h1,_,_,h2,_,h3,h4⟩=>⟨h2.sett h3 h4,h1⟩
end Go.Proofs.YtnjpkncacddplaaGreatDoor

/- Walks of numfield: open, normal, mul. -/
namespace Go.Proofs.YtnjpkncacddplaaGreatDoor
open Go.Hp Go.Pl
variable {G:World} {U U':UH} {M:MH}
structure Mon1 (F:List Int):Prop where
 l1:2≤F.length
 l2:F.length≤13
 lead:co F (F.length - 1)=1
 small:∀ k,(co F k).natAbs≤1
theorem Mon1.bl {F:List Int} (h:Mon1 F):BL 1 F:=fun k=>by have:=h.small k; omega
def Rg (U:UH) (b:Nat) (F:List Int):Prop:=∃ p c,U.cell? ⟨b,0,none⟩=some (.slice p F.length c)∧Pz U [] (.slice p F.length c) F
theorem Rg.up {b:Nat} {F:List Int} (h:Rg U b F) (hU:ULe U U'):Rg U' b F:=by
 obtain ⟨p,c,h1,h2⟩:=h
 exact ⟨p,c,hU.cell h1,h2.up hU (List.Sublist.refl _)⟩
def Vfld (U:UH) (v:Value) (F:List Int):Prop:=∃ p c,v = .agg #[.slice p F.length c]∧Ls Zn 2 F.length U [] (.slice p F.length c) (co F)
set_option maxHeartbeats 4000000 in
theorem VT {v:Value} {F:List Int} (h:Vfld U v F) (hF:Mon1 F) :
  Ct Tryz.prog 90 [v] G U M fun v U' D=>∃ b,v = .tuple #[.pointer (some ⟨b,0,none⟩),.int .i64 0]∧Rg U' b F∧D=[]:=by
 have hl:=hF.l1
 have hl2:=hF.l2
 have htop:co F (F.length - 1)≠0:=by rw [hF.lead]; decide
 obtain ⟨p,c,rfl,h1⟩:=h
 refine Ct.mono (Ct.settle (R:=fun v U' D=>∃ b p c,v = .tuple #[.pointer (some ⟨b,0,none⟩),.int .i64 0]∧D=[(b,.var (.agg #[.slice p F.length c,.int .i64 ((F.length:Int) - 1)]),206)]∧Pz U' [] (.slice p F.length c) F) ?_) (fun _ _ _ _ h=>by
  obtain ⟨h1,_,_,⟨b,p,c,h2,h3,h4⟩,_,h5,h6⟩:=h
  subst h3
  refine ⟨b,h2,⟨p,c,?_,h4.up h5 (List.Sublist.refl _)⟩,h1⟩
  have:=(h6 _ (List.mem_singleton.2 rfl)).1
  simp only at this
  simp only [UH.cell?,this,Option.isSome_none,Bool.false_eq_true,if_false]
  rfl)
 refine Qi Tryz.func90 rfl rfl rfl rfl ?_
 repeat (first|refine Qb ?_|refine Qa fun _=>?_|refine w_al fun _=>?_)
 rename_i b1
 refine Qd rfl rfl rfl rfl rfl rfl (fun _=>QaW (h1.up KeptC.out uc (List.nil_sublist _)) hF.bl (by decide) (by decide) (by omega) htop) ?_
 rintro v8 U8 D8 hU8 ⟨h8,rfl⟩
 rw [List.nil_append]
 repeat (first|refine Qb ?_|refine Qa fun _=>?_|refine w_al fun _=>?_)
 refine Qd rfl rfl rfl rfl rfl rfl (fun _=>Qhc (h8.up KeptC.out uc (List.nil_sublist _)) hF.bl (by decide) (by decide) (by omega) htop) ?_
 rintro v9 U9 D9 hU9 ⟨h9,rfl⟩
 rw [List.nil_append]
 obtain ⟨p9,c9,vs9,rfl,hc9,rw9,el9⟩:=id h9
 repeat (first|refine Qb ?_|refine Qa fun _=>?_|refine w_al fun _=>?_)
 refine Yf [3,4,5,12,13,14] [0,1,2,3,4,5,6,7,8,9,10,11,12,13,14] sym (by kernel_rfl) ?_
 try refine Qc ?_
 refine QL rfl rfl (fun h=>absurd h (by omega)) (fun _=>?_)
 try refine Qc ?_
 refine QL rfl rfl (fun h=>absurd h (by omega)) (fun _=>?_)
 try refine Qc ?_
 obtain ⟨v4,hv4⟩:=rw9.at (show F.length - 1 < F.length by omega)
 obtain ⟨x4,rfl,hx4,sx4⟩:=vp_w (el9 _ _ hv4) (hF.bl _) (by omega)
 rw [hF.lead] at hx4 sx4
 refine sl_y (QC sym rfl rfl rfl rfl rfl ( (show (F.length:Int) - 1=((F.length - 1:Nat):Int) by omega)) ((rw9.up uc sb).lt hv4) ((rw9.up uc sb).get _ _ hv4).1) rfl rfl rfl rfl ?_; refine sl_y (QQ sym rfl rfl rfl rfl rfl (rw9.up uc sb) hv4) rfl rfl rfl rfl ?_
 try refine Qc ?_
 refine Qd rfl rfl rfl rfl rfl rfl (fun _=>(QbS (z:=1) (by omega) (by omega)).settle) ?_
 rintro v Uh24 D hU ⟨rfl,_,_,⟨xh24,rfl,h24,-⟩,-,-,hs⟩
 replace h24:=h24.sett hs
 clear hs
 repeat (first|refine Qb ?_|refine Qa fun _=>?_|refine w_al fun _=>?_)
 refine Qd rfl rfl rfl rfl rfl rfl (fun _=>Qha (hx4.rep.up uc (List.nil_sublist _)) (hx4.le sx4 (by omega)) (h24.rep.up uc (List.nil_sublist _)) (h24.le (Ve (z:=1) (k:=1) (by unfold Sz; decide) (by decide)) (by omega))) ?_
 rintro v25 U25 D25 hU25 ⟨rfl,-,rfl⟩
 rw [List.nil_append,Rat.sub_self]
 repeat (first|refine Qb ?_|refine Qa fun _=>?_|refine w_al fun _=>?_)
 refine Ql rfl (fun h=>absurd rfl h) (fun _=>?_)
 repeat (first|refine Qb ?_|refine Qa fun _=>?_|refine w_al fun _=>?_)
 rename_i b31
 exact Qg [(b31,.var (.agg #[.slice p9 F.length c9,.int .i64 ((F.length:Int) - 1)]),206)] sym rfl (.cons (.tmp rfl) (.cons (.tmp rfl) .nil)) uc (List.Sublist.cons_cons _ (List.Sublist.cons _ (List.Sublist.refl _))) (.inl rfl) ⟨b31,p9,c9,rfl,rfl,h9.up uc (List.Sublist.refl _)⟩
set_option maxHeartbeats 4000000 in
theorem YP {v:Value} {b s:Nat} {F a:List Int} (hr:Rg U b F) (hF:Mon1 F) (ha:Pz U M v a) (sa:BL s a) (h1s:1≤s) (hs:s≤100000) (hn:a.length≤F.length+30) :
  Ct Tryz.prog 94 [.pointer (some ⟨b,0,none⟩),v] G U M fun v U' D=>Pz U' [] v (remL F a)∧D=[]:=by
 have hl:=hF.l1
 have hl2:=hF.l2
 have ha0:=ha
 obtain ⟨p,c,vs,rfl,hc,rw1,el⟩:=ha
 obtain ⟨pF,cF,hcell,hPF⟩:=hr
 refine Qi Tryz.func94 rfl rfl rfl rfl ?_
 repeat (first|refine Qb ?_|refine Qa fun _=>?_|refine w_al fun _=>?_)
 refine sl_y (Qbz sym rfl rfl rfl rfl hcell) rfl rfl rfl rfl ?_
 repeat (first|refine Qb ?_|refine Qa fun _=>?_|refine w_al fun _=>?_)
 refine Qd rfl rfl rfl rfl rfl rfl (fun _=>QbH (ha0.up uc sb) (hPF.up uc (List.nil_sublist _)) sa h1s hs (by omega) hF.lead hF.small (by omega) (by omega) (by omega)) ?_
 rintro v14 U14 D14 hU14 ⟨pq,nq,cq,vr,rfl,hr,rfl⟩
 rw [List.nil_append]
 obtain ⟨pr,cr,us,rfl,-⟩:=id hr
 repeat (first|refine Qb ?_|refine Qa fun _=>?_|refine w_al fun _=>?_)
 refine Qg [] sym rfl (.cons (.tmp rfl) .nil) uc sb (.inl rfl) ⟨?_,rfl⟩
 exact hr
theorem yy {v w:Value} {b s t:Nat} {F x y:List Int} (hr:Rg U b F) (hF:Mon1 F) (hx:Pz U M v x) (hy:Pz U M w y) (sx:BL s x) (sy:BL t y) (h1s:1≤s) (h1t:1≤t) (hs:s+t≤90000) (hn:x.length+y.length≤F.length+30) :
  Ct Tryz.prog 93 [.pointer (some ⟨b,0,none⟩),v,w] G U M fun v U' D=>Pz U' [] v (remL F (mulL x y))∧D=[]:=by
 have hl2:=hF.l2
 have hlen := @qw x y
 obtain ⟨p,c,vs,rfl,-⟩:=id hx
 obtain ⟨q,d,ws,rfl,-⟩:=id hy
 refine Qi Tryz.func93 rfl rfl rfl rfl ?_
 repeat (first|refine Qb ?_|refine Qa fun _=>?_|refine w_al fun _=>?_)
 refine Qd rfl rfl rfl rfl rfl rfl (fun _=>Qfh (hx.up uc sb) (hy.up uc sb) sx sy h1s h1t (by omega) (by omega) (by omega) (by omega)) ?_
 rintro v10 U10 D10 hU10 ⟨h10,rfl⟩
 rw [List.nil_append]
 obtain ⟨pr,cr,us,rfl,-⟩:=id h10
 repeat (first|refine Qb ?_|refine Qa fun _=>?_|refine w_al fun _=>?_)
 refine Qd rfl rfl rfl rfl rfl rfl (fun _=>YP (hr.up uc) hF (h10.up uc (List.nil_sublist _)) (jG sx sy (by omega)) (by omega) (by omega) (by omega)) ?_
 rintro v11 U11 D11 hU11 ⟨h11,rfl⟩
 rw [List.nil_append]
 obtain ⟨pr,cr,us,rfl,-⟩:=id h11
 repeat (first|refine Qb ?_|refine Qa fun _=>?_|refine w_al fun _=>?_)
 refine Qg [] sym rfl (.cons (.tmp rfl) .nil) uc sb (.inl rfl) ⟨?_,rfl⟩
 exact h11
end Go.Proofs.YtnjpkncacddplaaGreatDoor
