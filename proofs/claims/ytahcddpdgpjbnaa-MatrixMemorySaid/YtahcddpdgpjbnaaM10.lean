/- Texts of this seat's own, merged: each begins with its own remark. -/
import Derived.Test.YtahcddpdgpjbnaaM1
import Derived.Test.YtahcddpdgpjbnaaM7
import Derived.Test.YtahcddpdgpjbnaaM4
import Derived.Test.YtahcddpdgpjbnaaM2
import Derived.Test.YtahcddpdgpjbnaaB38
/- A region that draws its order, of which several pairs of operations may come up in either order without being exchangeable: a tree of walks. Program in general; no condition. -/
namespace Go.Hp
variable {P:Program} {T:TT} {K:Kont} {N:Nat} {G:World} {E:Env} {U:UH} {M:MH} {L:List Oper}
inductive DT where
 | leaf (ord:List Nat)
 | node (x y:Nat) (l r:DT)
def pairC (T:TT) (N:Nat) (L:List Oper) (c:List (Nat × Nat)) (p q:Ent):Bool :=
 pairB T N L p q || c.any fun e=>(Nat.beq p.2.1 e.1 || reachB L p.2.1 (L.length+1) e.1) && (Nat.beq q.2.1 e.2 || reachB L e.2 (L.length+1) q.2.1)
def pairsC (T:TT) (N:Nat) (L:List Oper) (c:List (Nat × Nat)):List Ent→Bool
 | []=>true
 | p::r=>r.all (pairC T N L c p) && pairsC T N L c r
theorem qP {c:List (Nat × Nat)}:∀ {l:List Ent},pairsC T N L c l=true→l.Pairwise fun p q=>pairC T N L c p q=true
 | [],_=>List.Pairwise.nil
 | p::r,h=>by
  simp only [pairsC,Bool.and_eq_true,List.all_eq_true] at h
  exact List.pairwise_cons.2 ⟨h.1,qP h.2⟩
def okT (T:TT) (N:Nat) (L:List Oper):List (Nat × Nat)→DT→Bool
 | c,.leaf ord=>Nat.beq ord.length L.length && ord.all (fun i=>Nat.blt i L.length) && nodupB ord && coverB ord L.length && pairsC T N L c (pick L ord)
 | c,.node x y l r=>Nat.blt x L.length && Nat.blt y L.length && !Nat.beq x y && okT T N L ((x,y)::c) l && okT T N L ((y,x)::c) r
def slT (P:Program) (T:TT) (L:List Oper) (K:Kont) (N:Nat) (G:World) (E:Env) (U:UH) (M:MH):DT→Prop
 | .leaf ord=>SL P T L K N G (pick L ord) E U M
 | .node _ _ l r=>slT P T L K N G E U M l∧slT P T L K N G E U M r
theorem Qaa {ord:List Nat} (h:SL P T L K N G (pick L ord) E U M):slT P T L K N G E U M (.leaf ord):=h
theorem Qcz {x y:Nat} {l r:DT} (h1:slT P T L K N G E U M l) (h2:slT P T L K N G E U M r):slT P T L K N G E U M (.node x y l r):=⟨h1,h2⟩
theorem yN (hS:Sym P T) {σ:List Nat} (hσ:σ.Perm (List.range L.length))
  (hall:∀ q ∈ σ,∀ o,L[q]?=some o→∀ e ∈ o.after,Region.binds .any e=true→σ.idxOf e.on < σ.idxOf q) {a:Act} {w:World} (ha:Has a N E) (hm:Mem G U M w) :
  ∀ (t:DT) (c:List (Nat × Nat)),(∀ e ∈ c,σ.idxOf e.1 < σ.idxOf e.2)→okT T N L c t=true→slT P T L K N G E U M t→wpOps P L.toArray K σ a w
 | .leaf ord,c,hc,ht,h=>by
  simp only [okT,Bool.and_eq_true,List.all_eq_true] at ht
  obtain ⟨⟨⟨⟨h1,h2⟩,h3⟩,h6⟩,h5⟩:=ht
  have e1:=Nat.eq_of_beq_eq_true h1
  have h2':∀ i ∈ ord,i < L.length:=fun i hi=>Nat.le_of_ble_eq_true (h2 i hi)
  have hmap:=jd h2'
  have hnd:=JP h3
  have hσn:σ.Nodup:=hσ.nodup_iff.2 List.nodup_range
  refine Qca hS σ (pick L ord) E U M a w ?_ hσn VP ?_ h ha hm
  ·rw [hmap]
   refine List.Perm.trans ?_ hσ.symm
   refine (List.perm_ext_iff_of_nodup hnd List.nodup_range).2 fun i=>?_
   rw [List.mem_range]
   exact ⟨h2' i,JQ h6 i⟩
  ·refine (qP h5).imp_of_mem ?_
   intro p q hp hq hpq
   have hqm:q.2.1 ∈ σ:=by
    rw [hσ.mem_iff,List.mem_range]
    exact (List.getElem?_eq_some_iff.1 (VP _ hq).2).1
   simp only [pairC,pairB,Bool.or_eq_true,List.any_eq_true,Bool.and_eq_true] at hpq
   rcases hpq with (h | h) | ⟨e,he,h,h'⟩
   ·exact .inl h
   ·exact .inr (JK hall _ _ hqm h)
   ·have hx:=hc e he
    have k1:σ.idxOf p.2.1≤σ.idxOf e.1:=by
     rcases h with h | h
     ·rw [Nat.eq_of_beq_eq_true h]; exact Nat.le_refl _
     ·exact Nat.le_of_lt (JK hall _ _ (List.idxOf_lt_length_iff.1 (Nat.lt_of_lt_of_le hx (List.idxOf_le_length ..))) h)
    have k2:σ.idxOf e.2≤σ.idxOf q.2.1:=by
     rcases h' with h | h
     ·rw [Nat.eq_of_beq_eq_true h]; exact Nat.le_refl _
     ·exact Nat.le_of_lt (JK hall _ _ hqm h)
    refine .inr ?_
    omega
 | .node x y l r,c,hc,ht,h=>by
  simp only [okT,Bool.and_eq_true,Bool.not_eq_true'] at ht
  obtain ⟨⟨⟨⟨hx,hy⟩,hne⟩,hl⟩,hr⟩:=ht
  have hx:=Nat.le_of_ble_eq_true hx
  have hy:=Nat.le_of_ble_eq_true hy
  have hne:x≠y:=fun e=>by subst e; simp at hne
  have hxm:x ∈ σ:=hσ.mem_iff.2 (List.mem_range.2 hx)
  have hym:y ∈ σ:=hσ.mem_iff.2 (List.mem_range.2 hy)
  have hine:σ.idxOf x≠σ.idxOf y:=fun e=>by
   have e1:=List.getElem_idxOf (List.idxOf_lt_length_iff.2 hxm)
   have e2:=List.getElem_idxOf (List.idxOf_lt_length_iff.2 hym)
   simp only [e] at e1
   exact hne (e1.symm.trans e2)
  rcases Nat.lt_or_gt_of_ne hine with h' | h'
  ·refine yN hS hσ hall ha hm l ((x,y)::c) (fun e he=>?_) hl h.1
   rcases List.mem_cons.1 he with rfl | he
   ·exact h'
   ·exact hc e he
  ·refine yN hS hσ hall ha hm r ((y,x)::c) (fun e he=>?_) hr h.2
   rcases List.mem_cons.1 he with rfl | he
   ·exact h'
   ·exact hc e he
theorem QcQ {id:Nat} (t:DT) (hS:Sym P T) (hd:downB 0 L=true) (ht:okT T N L [] t=true) (h:slT P T L K N G E U M t):St P K N G (.region id L.toArray true) E U M:=by
 refine ⟨fun a w ha hm=>wp_region_draw fun n=>?_⟩
 simp only [Region.schedule,hS.mixed,Bool.true_or,if_true,Region.linearise,List.size_toArray]
 obtain ⟨hp,hall⟩:=Qad (L:=L) (fun i o hi e he hb=>by have:=Yi hd i o hi e he hb; omega) L.length n (List.range L.length) (Array.replicate L.length false) (by simp) List.nodup_range (by simp)
  (fun i hi=>List.mem_range.1 hi) (fun i hi=>by simp [hi])
 generalize Region.linearise.go .any L.toArray L.length n (Array.replicate L.length false) []=σ at *
 refine yN hS hp (fun q hq o ho e he hb=>?_) ha (hm.drawn _) t [] (fun e he=>by cases he) ht h
 rcases hall q (hp.mem_iff.1 hq) o ho e he hb with h | h
 ·simp [Array.getD_eq_getD_getElem?,Array.getElem?_replicate] at h
  split at h<;>simp at h
 ·exact h
end Go.Hp

/- The plain law of the extended Euclidean algorithm. -/
namespace Go.Proofs.Ytahcddpdgpjbnaa
open Go.Hp
def XS (a b u n r s:Int):Prop:=u.natAbs≤3*b.natAbs∧n.natAbs≤3*b.natAbs∧(∃ k,r=u*a+k*b)∧(∃ k,s=n*a+k*b)∧Int.gcd r s=Int.gcd a b ∧
 ((u=1∧n=0∧r=a∧s=b)∨(u=0∧n=1∧r=b∧0≤s∧s < b.natAbs)∨(0 < r∧0≤s∧n.natAbs*r.natAbs+u.natAbs*s.natAbs≤3*b.natAbs))
theorem XS.start {a b:Int} (hb:b≠0):XS a b 1 0 a b :=
 ⟨by omega,by omega,⟨0,by omega⟩,⟨1,by omega⟩,rfl,.inl ⟨rfl,rfl,rfl,rfl⟩⟩
theorem QaA (r s:Int):Int.gcd s (r % s)=Int.gcd r s:=by
 refine Nat.dvd_antisymm (Int.dvd_gcd ?_ (Int.gcd_dvd_left ..)) (Int.dvd_gcd (Int.gcd_dvd_right ..) ?_)
 ·have h:=Int.emod_add_mul_ediv r s
  have h2:=Int.dvd_add (Int.gcd_dvd_right s (r % s)) (Int.dvd_trans (Int.gcd_dvd_left s (r % s)) (Int.dvd_mul_right s (r / s)))
  rwa [h] at h2
 ·rw [Int.emod_def]
  exact Int.dvd_sub (Int.gcd_dvd_left ..) (Int.dvd_trans (Int.gcd_dvd_right ..) (Int.dvd_mul_right ..))
theorem XS.step {a b u n r s:Int} (h:XS a b u n r s) (hb:b≠0) (hs:s≠0):XS a b n (u - r / s*n) s (r % s):=by
 obtain ⟨h1,h2,⟨k,hk⟩,⟨k',hk'⟩,hg,hst⟩:=h
 have ht0:=Int.emod_nonneg r hs
 have ht1:=Int.emod_lt r hs
 have hrs:=Int.emod_add_mul_ediv r s
 have hc:∃ k,r % s=(u - r / s*n)*a+k*b:=by
  refine ⟨k - r / s*k',?_⟩
  have:r % s=r - s*(r / s):=by omega
  rw [this]
  generalize r / s=q
  subst hk hk'
  grind
 have hP:0 < s→(u - r / s*n).natAbs*s.natAbs+n.natAbs*(r % s).natAbs≤3*b.natAbs→(u - r / s*n).natAbs≤3*b.natAbs:=fun hs0 hp=>by
  have:=Nat.le_mul_of_pos_right (u - r / s*n).natAbs (show 0 < s.natAbs by omega)
  omega
 rcases hst with ⟨rfl,rfl,rfl,rfl⟩ | ⟨rfl,rfl,rfl,hs0,hs1⟩ | ⟨hr0,hs0,hp⟩
 ·refine ⟨h2,by rw [Int.mul_zero]; omega,⟨k',hk'⟩,hc,by rw [QaA],.inr (.inl ⟨rfl,by rw [Int.mul_zero]; rfl,rfl,ht0,ht1⟩)⟩
 ·have hp:(0 - r / s*1).natAbs*s.natAbs+(1:Int).natAbs*(r % s).natAbs≤3*r.natAbs:=by
   rw [← Int.natAbs_mul,show (0 - r / s*1)*s = -(s*(r / s)) by grind,Int.natAbs_neg]
   have:s*(r / s)=r - r % s:=by omega
   rw [this,show (1:Int).natAbs=1 from rfl,Nat.one_mul]
   omega
  refine ⟨h2,hP (by omega) hp,⟨k',hk'⟩,hc,by rw [QaA]; exact hg,.inr (.inr ⟨by omega,ht0,hp⟩)⟩
 ·have hq:0≤r / s:=Int.ediv_nonneg (by omega) hs0
  have hp2:(u - r / s*n).natAbs*s.natAbs+n.natAbs*(r % s).natAbs≤3*b.natAbs:=by
   have e1:(u - r / s*n).natAbs≤u.natAbs+(r / s).natAbs*n.natAbs:=by
    have:=Int.natAbs_sub_le u (r / s*n)
    rwa [Int.natAbs_mul] at this
   have e2:r.natAbs=(r % s).natAbs+s.natAbs*(r / s).natAbs:=by
    rw [← Int.natAbs_mul]
    have h0:0≤s*(r / s):=Int.mul_nonneg hs0 hq
    omega
   rw [e2] at hp
   have e3:=Nat.mul_le_mul_right s.natAbs e1
   generalize (u - r / s*n).natAbs=w at *
   generalize (r / s).natAbs=q at *
   generalize (r % s).natAbs=t at *
   generalize s.natAbs=S at *
   generalize n.natAbs=N at *
   generalize u.natAbs=V at *
   have e4:(V+q*N)*S+N*t=N*(t+S*q)+V*S:=by grind
   omega
  exact ⟨h2,hP (by omega) hp2,⟨k',hk'⟩,hc,by rw [QaA]; exact hg,.inr (.inr ⟨by omega,ht0,hp2⟩)⟩
theorem XS.last {a b u r:Int} {n:Int} (h:XS a b u n r 0):∃ k,(if r < 0 then -r else r)=(Int.gcd a b:Int)∧(Int.gcd a b:Int)=(if r < 0 then -u else u)*a+k*b:=by
 obtain ⟨h1,h2,⟨k,hk⟩,-,hg,-⟩:=h
 rw [Int.gcd_zero_right] at hg
 by_cases hr:r < 0
 ·refine ⟨-k,?_,?_⟩
  ·rw [if_pos hr]; omega
  ·rw [if_pos hr,← hg]
   have:(r.natAbs:Int) = -r:=by omega
   rw [this,hk]; grind
 ·refine ⟨k,?_,?_⟩
  ·rw [if_neg hr]; omega
  ·rw [if_neg hr,← hg]
   have:(r.natAbs:Int)=r:=by omega
   rw [this]; exact hk
end Go.Proofs.Ytahcddpdgpjbnaa

/- Walks of bigint: the extended Euclidean algorithm. -/
namespace Go.Proofs.Ytahcddpdgpjbnaa
open Go.Hp
variable {G:World} {U:UH} {M:MH}
end Go.Proofs.Ytahcddpdgpjbnaa

/- Walks of the reference of layer 1: greatest common divisors, quotients. -/
namespace Go.Proofs.Ytahcddpdgpjbnaa
open Go.Hp
variable {G:World} {U:UH} {M:MH}
end Go.Proofs.Ytahcddpdgpjbnaa
