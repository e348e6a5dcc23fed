/- Texts of this seat's own, merged: each begins with its own remark. -/
import Derived.Test.YtnjpkncacddplaaGreatDoorM19
import Derived.Laws.CopyRow
import Derived.Test.YtnjpkncacddplaaGreatDoorM56
import Derived.Test.YtnjpkncacddplaaGreatDoorM53
import Derived.Test.YtnjpkncacddplaaGreatDoorM15
import Derived.Test.YtnjpkncacddplaaGreatDoorHl
import Derived.Test.YtnjpkncacddplaaGreatDoorM26
/- The builtin copy into a part of an own row of elements of one cell. Program in general; no condition. -/
namespace Go.Hp
variable {P:Program} {T:TT} {K:Kont} {N:Nat} {G:World} {E:Env} {U:UH} {M:MH} {L:List Oper} {l:List Ent} {f:Bool} {i:Nat} {o:Oper}
theorem Qda (a b:List Value):flat (a++b)=flat a++flat b:=List.flatMap_append ..
def spl (vs us:List Value) (lo:Nat):List Value:=vs.take lo++us++vs.drop (lo+us.length)
theorem Qlt {vs us:List Value} {lo:Nat} (h:lo+us.length≤vs.length):(spl vs us lo).length=vs.length:=by
 unfold spl
 rw [List.length_append,List.length_append,List.length_take,List.length_drop]
 omega
theorem Qlz {vs us:List Value} {lo:Nat} {v:Value} (h:v ∈ spl vs us lo):v ∈ vs∨v ∈ us:=by
 unfold spl at h
 rcases List.mem_append.1 h with h | h
 ·rcases List.mem_append.1 h with h | h
  ·exact .inl (List.mem_of_mem_take h)
  ·exact .inr h
 ·exact .inl (List.mem_of_mem_drop h)
theorem Qfm {vs us:List Value} {lo:Nat} (h:lo+us.length≤vs.length) (k:Nat):(spl vs us lo)[k]?=if lo≤k∧k < lo+us.length then us[k - lo]? else vs[k]?:=by
 unfold spl
 by_cases e1:k < lo
 ·rw [if_neg (by omega),List.append_assoc,List.getElem?_append_left (by rw [List.length_take]; omega),List.getElem?_take_of_lt e1]
 ·by_cases e2:k < lo+us.length
  ·rw [if_pos ⟨by omega,e2⟩,List.getElem?_append_left (by rw [List.length_append,List.length_take]; omega),List.getElem?_append_right (by rw [List.length_take]; omega),List.length_take,Nat.min_eq_left (by omega)]
  ·rw [if_neg (by omega),List.getElem?_append_right (by rw [List.length_append,List.length_take]; omega),List.length_append,List.length_take,Nat.min_eq_left (by omega),List.getElem?_drop]
   congr 1
   omega
theorem Qex {d t e bs bt bt' lo n c m c':Nat} {x y:Operand} {z z':Value} {ek:TK} {D X:MH} {p q:Option Addr} {vs us:List Value} (hS:Sym P T) (ho:o.op = .call { callee := .builtin .copy,args := #[x,y],argTypes := #[t,t] })
  (hx:ev E x=some (.slice (if c=lo then p else p.map (·.add (lo*1))) (n - lo) (c - lo))) (hy:ev E y=some (.slice q m c')) (hT:lkT T t=some ⟨.slice e,bt,bt',z'⟩) (he:lkT T e=some ⟨ek,1,bs,z⟩)
  (hrow:RowO e 1 D p n c vs) (hM:M.Perm (D++X)) (hu:RowAt U M 1 q m us) (h1:∀ v ∈ us,v.cells.toList.all Value.oneCell'=true) (hm0:0 < m) (hfit:lo+m≤n)
  (hg:gok L E o.guard=some true) (hk:xB f T o=true) (hd:o.dst=some d) (hN:Nat.blt d N=true)
  (h:∀ D',RowO e 1 D' p n c (spl vs us lo)→SL P T L K N G l ((d,.int .i64 (m:Int))::E) U (D'++X)):SL P T L K N G ((f,i,o)::l) E U M:=by
 refine Qm ?_ hM
 have hu2:=hu.perm hM
 have hul:=hu.len
 obtain ⟨hw,hvs,hr⟩:=hrow
 cases hw with
 | nil=>omega
 | @row b _ _ r hn hc hm =>
  have hrl:=hr _ (List.mem_singleton.2 rfl) r rfl
  obtain ⟨dd,hdd,hkk⟩:=(hS.at hT).und
  have:=QU hkk
  subst this
  have hspl:=Qlt (vs:=r) (us:=us) (lo:=lo) (by omega)
  have hone:∀ v ∈ spl r us lo,v.cells.toList.length=1:=fun v hv=>by
   rcases Qlz hv with hv | hv
   ·exact hrl v hv
   ·exact hu.size v hv
  have htake:(spl r us lo).take n=spl (r.take n) us lo:=by
   refine List.ext_getElem? fun k=>?_
   rw [List.getElem?_take,Qfm (by omega),Qfm (by rw [List.length_take]; omega),List.getElem?_take]
   by_cases e1:k < n
   ·rw [if_pos e1,if_pos e1]
   ·rw [if_neg e1,if_neg e1,if_neg (by omega)]
  have hrow':RowO e 1 [(b,.arr (spl r us lo),e)] (some ⟨b,0,none⟩) n c (spl (r.take n) us lo):=by
   have h2:=RowE.row (e:=e) (b:=b) (n:=n) (c:=c) (r:=spl r us lo) hn (by rw [hspl]; exact hc) hm
   rw [htake] at h2
   refine ⟨h2,fun u hu3=>?_,fun zz hzz r' hr'=>?_⟩
   ·rw [← htake] at hu3; exact hone u (List.mem_of_mem_take hu3)
   ·simp only [List.mem_singleton] at hzz
    subst hzz
    simp only [Blk.arr.injEq] at hr'
    subst hr'
    exact hone
  refine Qfy (R:=fun v U' M'=>v = .int .i64 (m:Int)∧U'=U∧M'=[(b,.arr (spl r us lo),e)]++X) hg hk hd hN (fun a w ha hw=>?_) (fun v U' M' ⟨h1,h2,h3⟩=>by subst h1 h2 h3; exact h _ hrow')
  have hb:=hw.own_at (i:=0) rfl
  obtain ⟨a0,ha0,hsrc⟩:=hu2.news (G:=G) (by omega) (by omega)
  subst ha0
  obtain ⟨inf,hi0,hi,hiz,hsz,hby⟩:=(hS.at he).run_info w
  have hfl:=Jl hu.size
  rw [Nat.mul_one,hul] at hfl
  have hrun:=run_copy_row P w t t o.type e b (0+lo*1) (n - lo) (c - lo) a0 m c' (Blk.arr r).cells e (flat us) hdd (by rw [hi]; exact congrArg some hsz) hb (by rw [hfl]; exact (Nat.min_eq_left (by omega)).symm) (fun j v hj=>hsrc w hw j v hj) (by
   simp only [Blk.cells,List.size_toArray]
   rw [Jl hrl,hfl]; omega) (yk h1)
  have hset:=hw.setRow (i:=0) rfl (k' := .arr (spl r us lo)) (cs:=((Blk.arr r).cells.toList.take (0+lo*1)++flat us++(Blk.arr r).cells.toList.drop (0+lo*1+(flat us).length)).toArray) (by
   simp only [Blk.cells]
   refine congrArg List.toArray ?_
   have e1:=VC (s:=1) lo hrl
   have e2:=Vp (s:=1) (lo+m) hrl
   rw [Nat.mul_one] at e1 e2
   rw [Nat.zero_add,Nat.mul_one,hfl]
   unfold spl
   rw [hul]
   show _=flat _
   rw [Qda,Qda]
   exact congr (congrArg _ (congrArg (· ++ flat us) e1)) e2)
  rw [if_neg (by omega:¬ c=lo),Option.map_some,QO] at hx
  rw [show (flat us).length=m from hfl] at hrun
  refine ⟨_,_,U,_,?_,hset,rfl,rfl,rfl⟩
  rw [hfl]
  simp only [execOp,ho,resolve,List.map_toArray,List.map_cons,List.map_nil,ha.eval hx,ha.eval hy,Sem.run_bind,Sem.run_pure,Result.andThen_ok,invoke,builtin,hrun]
  rfl
end Go.Hp

/- Walks of layer 36: Sum. -/
namespace Go.Proofs.YtnjpkncacddplaaGreatDoor
open Go.Hp
variable {G:World} {U U':UH} {M:MH}
def GrO (e:Int) (n:Nat) (g:Nat→Int) (U':UH) (v:Value):Prop :=
 (e≠0→v = .tuple #[.agg #[.int .i64 0,.slice none 0 0],.int .i64 e])∧(e=0→∃ s,v = .tuple #[.agg #[.int .i64 (n:Int),s],.int .i64 0]∧Ls Vz 1 (n*n) U' [] s g)
def GrC (e:Int) (n:Nat) (g:Nat→Int) (U':UH) (D:MH) (v:Value):Prop :=
 (e≠0→v = .tuple #[.agg #[.int .i64 0,.slice none 0 0],.int .i64 e])∧(e=0→∃ s,v = .tuple #[.agg #[.int .i64 (n:Int),s],.int .i64 0]∧Lo Vz TInt 1 (n*n) U' D s g)
theorem Qhv {e:Int} {n:Nat} {g:Nat→Int} {f:Nat} {args:List Value} (h:Ct Tryz.prog f args G U M fun v U' D=>GrC e n g U' D v):Ct Tryz.prog f args G U M fun v U' D=>GrO e n g U' v∧D=[] :=
 h.settle.mono fun _ _ _ _ ⟨h1,_,_,⟨k1,k2⟩,_,h5,h6⟩=>⟨⟨k1,fun e1=>by
  obtain ⟨s,e3,e4⟩:=k2 e1
  exact ⟨s,e3,e4.sett KeptC.out h5 h6⟩⟩,h1⟩
def sgc (n n1 n2:Nat) (f1 f2:Nat→Int) (a b:Nat) (k:Nat):Int :=
 if k / n < a∧k % n < n1 then f1 (k / n*n1+k % n) else if n1≤k / n∧k / n < n1+b∧n1≤k % n then f2 ((k / n - n1)*n2+(k % n - n1)) else 0
theorem QgC {n m lo q i s:Nat} (hs:s < n) (hm:lo+m≤n):(i*n+lo≤q*n+s∧q*n+s < i*n+lo+m)↔q=i∧lo≤s∧s < lo+m:=by
 constructor
 ·rintro ⟨h1,h2⟩
  rcases Nat.lt_trichotomy q i with e | e | e
  ·have:=Nat.mul_le_mul_right n (show q+1≤i by omega)
   rw [Nat.add_mul] at this
   omega
  ·subst e; exact ⟨rfl,by omega,by omega⟩
  ·have:=Nat.mul_le_mul_right n (show i+1≤q by omega)
   rw [Nat.add_mul] at this
   omega
 ·rintro ⟨rfl,h1,h2⟩
  omega
theorem Qlj {n n1 n2 i k:Nat} {f1 f2:Nat→Int} (hn:n=n1+n2) (h1:1≤n1) (hi:i < n1) :
  sgc n n1 n2 f1 f2 (i+1) 0 k=if i*n≤k∧k < i*n+n1 then f1 (i*n1+(k - i*n)) else sgc n n1 n2 f1 f2 i 0 k:=by
 have hk:=Nat.div_add_mod k n
 rw [Nat.mul_comm] at hk
 have hs:=Nat.mod_lt k (show n > 0 by omega)
 unfold sgc
 generalize k / n=q at hk ⊢
 generalize k % n=s at hk hs ⊢
 subst hk
 have hb:=QgC (i:=i) (q:=q) (lo:=0) (m:=n1) hs (by omega)
 simp only [Nat.add_zero,Nat.zero_le,true_and,Nat.zero_add] at hb
 simp only [hb]
 by_cases e:q=i
 ·subst e
  by_cases e2:s < n1
  ·rw [if_pos ⟨by omega,e2⟩,if_pos ⟨rfl,e2⟩]
   congr 1
   omega
  ·rw [if_neg (by omega),if_neg (by omega),if_neg (by omega:¬ (q=q∧s < n1)),if_neg (by omega)]
 ·rw [if_neg (by omega:¬ (q=i∧s < n1))]
  have e3:(q < i+1∧s < n1)↔(q < i∧s < n1):=by omega
  simp only [e3]
theorem Qmd {n n1 n2 i k:Nat} {f1 f2:Nat→Int} (hn:n=n1+n2) (h1:1≤n1) (_hi:i < n2) :
  sgc n n1 n2 f1 f2 n1 (i+1) k=if (n1+i)*n+n1≤k∧k < (n1+i)*n+n1+n2 then f2 (i*n2+(k - ((n1+i)*n+n1))) else sgc n n1 n2 f1 f2 n1 i k:=by
 have hk:=Nat.div_add_mod k n
 rw [Nat.mul_comm] at hk
 have hs:=Nat.mod_lt k (show n > 0 by omega)
 unfold sgc
 generalize k / n=q at hk ⊢
 generalize k % n=s at hk hs ⊢
 subst hk
 have hb:=QgC (i:=n1+i) (q:=q) (lo:=n1) (m:=n2) hs (by omega)
 simp only [hb]
 by_cases e:q=n1+i
 ·subst e
  by_cases e2:n1≤s
  ·rw [if_neg (by omega),if_pos ⟨by omega,by omega,e2⟩,if_pos ⟨rfl,e2,by omega⟩]
   congr 1
   rw [show n1+i - n1=i by omega]
   omega
  ·rw [if_neg (by omega),if_neg (by omega),if_neg (by omega:¬ (n1+i=n1+i∧n1≤s∧s < n1+n2)),if_neg (by omega),if_neg (by omega)]
 ·rw [if_neg (by omega:¬ (q=n1+i∧n1≤s∧s < n1+n2))]
  have e3:(n1≤q∧q < n1+(i+1)∧n1≤s)↔(n1≤q∧q < n1+i∧n1≤s):=by omega
  simp only [e3]
theorem Qif {n n1 n2 k:Nat} {f1 f2:Nat→Int}:sgc n n1 n2 f1 f2 0 0 k=0:=by
 unfold sgc
 generalize k / n=q
 generalize k % n=s
 rw [if_neg (by omega),if_neg (by omega)]
theorem Qdq {xs us:List Value} {lo m n':Nat} {g g' F:Nat→Int} (hl:lo+m≤xs.length) (hus:us.length=m) (hF:∀ j,j < m→us[j]?=some (.int .i64 (F j))) (hx:∀ k,k < n'→xs[k]?=some (.int .i64 (g k))) (hg:∀ k,g' k=if lo≤k∧k < lo+m then F (k - lo) else g k):∀ k,k < n'→(spl xs us lo)[k]?=some (.int .i64 (g' k)):=fun k hk=>by
 rw [Qfm (by omega),hg,hus]
 by_cases e:lo≤k∧k < lo+m
 ·rw [if_pos e,if_pos e]; exact hF _ (by omega)
 ·rw [if_neg e,if_neg e]; exact hx k hk
theorem Qgi {p:Option Addr} {vs:List Value} {f:Nat→Int} {N i m:Nat} (rw1:RowAt U M 1 p N vs) (el:El Vz U vs f) (h:i*m+m≤N):∀ j,j < m→((vs.drop (i*m)).take m)[j]?=some (.int .i64 (f (i*m+j))):=fun j hj=>by
 rw [List.getElem?_take_of_lt hj,List.getElem?_drop]
 obtain ⟨v,hv⟩:=rw1.at (k:=i*m+j) (by omega)
 obtain ⟨rfl,-⟩:=el _ _ hv
 exact hv
theorem QcH {n i m:Nat} (hi:i < n):i*m+m≤n*m:=by
 have:=Nat.mul_le_mul_right m (show i+1≤n by omega)
 rw [Nat.add_mul] at this
 omega
theorem Qna {n n1 n2 k:Nat} {f1 f2:Nat→Int} (hn:n=n1+n2) (h1:∀ k,k < n1*n1 → -1000≤f1 k∧f1 k≤1000) (h2:∀ k,k < n2*n2 → -1000≤f2 k∧f2 k≤1000) (hk:k < n*n) : -1000≤sgc n n1 n2 f1 f2 n1 n2 k∧sgc n n1 n2 f1 f2 n1 n2 k≤1000:=by
 obtain ⟨h3,h4⟩:=jW hk
 unfold sgc
 generalize k / n=q at h3 ⊢
 generalize k % n=s at h4 ⊢
 split
 ·rename_i h; exact h1 _ (Vt h.1 h.2)
 ·split
  ·exact h2 _ (Vt (by omega) (by omega))
  ·exact ⟨by decide,by decide⟩
noncomputable def esum (r1:Int) (N1:Nat) (f1:Nat→Int) (r2:Int) (N2:Nat) (f2:Nat→Int):Int :=
 if chk r1 N1 f1≠0 then chk r1 N1 f1 else if chk r2 N2 f2≠0 then chk r2 N2 f2 else if r1+r2 > 8 then 2 else 0
set_option maxHeartbeats 4000000 in
theorem Qlu {r1 r2:Int} {N1 N2 c1 c2:Nat} {p1 p2:Option Addr} {vs1 vs2:List Value} {f1 f2:Nat→Int} (rw1:RowAt U [] 1 p1 N1 vs1) (el1:El Vz U vs1 f1) (hN1:N1≤9223372036854775807) (hc1:N1≤c1) (rw2:RowAt U [] 1 p2 N2 vs2) (el2:El Vz U vs2 f2) (hN2:N2≤9223372036854775807) (hc2:N2≤c2) :
  Ct Tryz.prog 21 [.agg #[.int .i64 r1,.slice p1 N1 c1],.agg #[.int .i64 r2,.slice p2 N2 c2]] G U M fun v U' D=>GrO (esum r1 N1 f1 r2 N2 f2) (r1+r2).toNat (sgc (r1+r2).toNat r1.toNat r2.toNat f1 f2 r1.toNat r2.toNat) U' v∧D=[]:=by
 refine Qhv ?_
 refine Qi Tryz.func21 rfl rfl rfl rfl ?_
 repeat (first|refine Qc ?_|refine Qb fun _=>?_|refine w_al fun _=>?_)
 rename_i b2 b3 b4
 refine Qd rfl rfl rfl rfl rfl rfl (fun _=>yi (rw1.up uc (List.nil_sublist _)) (el1.up KeptC.out uc) hN1) ?_
 rintro v1 U1 D hU1 ⟨rfl,-,rfl⟩
 rw [List.nil_append]
 repeat (first|refine Qc ?_|refine Qb fun _=>?_|refine w_al fun _=>?_)
 refine JX rfl (fun h=>?_) (fun h=>?_)
 ·repeat (first|refine Qc ?_|refine Qb fun _=>?_|refine w_al fun _=>?_)
  exact Qf [] sym rfl (.cons (.cell 0 rfl rfl rfl) (.cons (.tmp rfl) .nil)) uc sb (.inl rfl) (by
   unfold esum
   rw [if_pos h]
   exact ⟨fun _=>rfl,fun h2=>absurd h2 h⟩)
 repeat (first|refine Qc ?_|refine Qb fun _=>?_|refine w_al fun _=>?_)
 refine Qd rfl rfl rfl rfl rfl rfl (fun _=>yi (rw2.up uc (List.nil_sublist _)) (el2.up KeptC.out uc) hN2) ?_
 rintro v1 U2 D hU2 ⟨rfl,-,rfl⟩
 rw [List.nil_append]
 repeat (first|refine Qc ?_|refine Qb fun _=>?_|refine w_al fun _=>?_)
 refine JX rfl (fun h2=>?_) (fun h2=>?_)
 ·repeat (first|refine Qc ?_|refine Qb fun _=>?_|refine w_al fun _=>?_)
  exact Qf [] sym rfl (.cons (.cell 0 rfl rfl rfl) (.cons (.tmp rfl) .nil)) uc sb (.inl rfl) (by
   unfold esum
   rw [if_neg (Classical.not_not.2 h),if_pos h2]
   exact ⟨fun _=>rfl,fun h3=>absurd h3 h2⟩)
 unfold esum
 rw [if_neg (Classical.not_not.2 h),if_neg (Classical.not_not.2 h2)]
 obtain ⟨n1,rfl,h11,h18,rfl,hb1,-⟩:=jP h
 obtain ⟨n2,rfl,h21,h28,rfl,hb2,-⟩:=jP h2
 rw [h,h2]
 obtain ⟨n,hn⟩:∃ n,n=n1+n2:=⟨_,rfl⟩
 have hni:(n1:Int)+(n2:Int)=(n:Int):=by omega
 repeat (first|refine Qc ?_|refine Qb fun _=>?_|refine w_al fun _=>?_)
 rw [hni]
 refine Qk rfl (fun h3=>?_) (fun h3=>?_)
 ·repeat (first|refine Qc ?_|refine Qb fun _=>?_|refine w_al fun _=>?_)
  exact Qf [] sym rfl (.cons (.cell 0 rfl rfl rfl) (.cons (.tmp rfl) .nil)) uc sb (.inl rfl) (by
   rw [if_pos (by omega)]
   exact ⟨fun _=>rfl,fun h3=>absurd h3 (by decide)⟩)
 rw [if_neg (by omega)]
 have hnn:n*n≤8*8:=Nat.mul_le_mul (by omega) (by omega)
 have hnn2:(n:Int)*(n:Int)=((n*n:Nat):Int):=(Int.natCast_mul n n).symm
 have h0n:1≤n:=by omega
 rw [show ((n:Nat):Int).toNat=n from rfl,show ((n1:Nat):Int).toNat=n1 from rfl,show ((n2:Nat):Int).toNat=n2 from rfl]
 repeat (first|refine Qc ?_|refine Qb fun _=>?_|refine w_al fun _=>?_)
 refine Jd (m:=n*n) (n:=n*n) sym rfl rfl rfl rfl rfl hnn2 hnn2 rfl rfl (Nat.le_refl _) (by omega) (by omega) rfl rfl rfl rfl (fun bm=>?_)
 have hrow:=JK (e:=TInt) (s:=1) (b:=bm) (n:=n*n) (z := .int .i64 0) rfl (by omega)
 repeat (first|refine Qc ?_|refine Qb fun _=>?_|refine w_al fun _=>?_)
 rename_i b9
 have hx0:∀ k,k < n*n→(List.replicate (n*n) (Value.int .i64 0))[k]?=some (.int .i64 (sgc n n1 n2 f1 f2 0 0 k)):=fun k hk=>by
  rw [List.getElem?_replicate,if_pos hk,Qif]
 refine Yv (M':=(b9,.var (.agg #[.int .i64 (n:Int),.slice (some ⟨bm,0,none⟩) (n*n) (n*n)]),56)::(([(bm,Blk.arr (List.replicate (n*n) (.int .i64 0)),TInt)]:MH)++((b4,.var (.agg #[.int .i64 0,.slice none 0 0]),56)::(b3,.var (.agg #[.int .i64 (n2:Int),.slice p2 (n2*n2) c2]),56)::(b2,.var (.agg #[.int .i64 (n1:Int),.slice p1 (n1*n1) c1]),56)::M))) (List.Perm.refl _) ?_
 refine Yv (M':=(b9,.var (.agg #[.int .i64 (n:Int),.slice (some ⟨bm,0,none⟩) (n*n) (n*n)]),56)::(b4,.var (.agg #[.int .i64 0,.slice none 0 0]),56)::(b3,.var (.agg #[.int .i64 (n2:Int),.slice p2 (n2*n2) c2]),56)::(b2,.var (.agg #[.int .i64 (n1:Int),.slice p1 (n1*n1) c1]),56)::(([(bm,Blk.arr (List.replicate (n*n) (.int .i64 0)),TInt)]:MH)++M)) pgs ?_
 generalize List.replicate (n*n) (Value.int .i64 0)=xs0 at hrow hx0 ⊢
 generalize [(bm,Blk.arr xs0,TInt)]=D0 at hrow ⊢
 try refine Jh (M':=(b9,.var (.agg #[.int .i64 (n:Int),.slice (some ⟨bm,0,none⟩) (n*n) (n*n)]),56)::(b4,.var (.agg #[.int .i64 0,.slice none 0 0]),56)::(b3,.var (.agg #[.int .i64 (n2:Int),.slice p2 (n2*n2) c2]),56)::(b2,.var (.agg #[.int .i64 (n1:Int),.slice p1 (n1*n1) c1]),56)::(D0++M)) (ULe.refl _) sbk ?_
 refine Qp (fun z E U' M'=>∃ (i:Nat) (xs:List Value) (Dx:MH),i≤n1∧RowO TInt 1 Dx (some ⟨bm,0,none⟩) (n*n) (n*n) xs∧(∀ k,k < n*n→xs[k]?=some (.int .i64 (sgc n n1 n2 f1 f2 i 0 k)))∧E=[(40,.int .i64 (i:Int)),(39,.int .i64 (n1:Int)),(8,.int .i64 (n:Int)),(9,.pointer (some ⟨b9,0,none⟩)),(5,.int .i64 0),(4,.pointer (some ⟨b4,0,none⟩)),(3,.pointer (some ⟨b3,0,none⟩)),(2,.pointer (some ⟨b2,0,none⟩))]∧ULe U2 U'∧M'=(b9,.var (.agg #[.int .i64 (n:Int),.slice (some ⟨bm,0,none⟩) (n*n) (n*n)]),56)::(b4,.var (.agg #[.int .i64 0,.slice none 0 0]),56)::(b3,.var (.agg #[.int .i64 (n2:Int),.slice p2 (n2*n2) c2]),56)::(b2,.var (.agg #[.int .i64 (n1:Int),.slice p1 (n1*n1) c1]),56)::(Dx++M)∧z=n1 - i) (n0:=n1 - 0) (E0:=[(40,.int .i64 ((0:Nat):Int)),(39,.int .i64 (n1:Int)),(8,.int .i64 (n:Int)),(9,.pointer (some ⟨b9,0,none⟩)),(5,.int .i64 0),(4,.pointer (some ⟨b4,0,none⟩)),(3,.pointer (some ⟨b3,0,none⟩)),(2,.pointer (some ⟨b2,0,none⟩))]) ⟨rfl,rfl,rfl,rfl,rfl,rfl,rfl,rfl,trivial⟩ ⟨0,xs0,D0,by omega,hrow,hx0,rfl,uc,rfl,rfl⟩ ?_
 clear hrow hx0
 rintro z E U3 M' ⟨i,xs,Dx,hi,hrow,hx,rfl,hU3,rfl,rfl⟩
 try refine Qa ?_
 refine Qk rfl (fun h5=>?_) (fun h5=>?_)
 ·have hin:i < n1:=by omega
  have e1:(i:Int)*(n:Int)=((i*n:Nat):Int):=(Int.natCast_mul i n).symm
  have e2:(i:Int)*(n1:Int)=((i*n1:Nat):Int):=(Int.natCast_mul i n1).symm
  have e3:((i:Int)+1)*(n1:Int)=((i*n1+n1:Nat):Int):=by rw [Int.add_mul,e2]; omega
  have m1:=QcH (m:=n) (show i < n by omega)
  have m2:=QcH (m:=n1) hin
  have hlen:=hrow.len.1
  try refine Qa ?_
  refine QG [18] [0,1,2,3,4,5,6,7,8,9,10,11,12,13,14,15,16,17,18] sym (by kernel_rfl) ?_
  try refine Qa ?_
  refine yU (lo:=i*n) (n:=n*n) (c:=n*n) (by omega) (by omega) ?_ (hv:=e1)
  try refine Qa ?_
  refine QgU (lo:=i*n1) (hi:=i*n1+n1) (n:=n1*n1) (c:=c1) (by omega) (by omega) ?_ (hv:=e2) (hv':=e3)
  have hpart:=(rw1.up (M':=(b9,.var (.agg #[.int .i64 (n:Int),.slice (some ⟨bm,0,none⟩) (n*n) (n*n)]),56)::(b4,.var (.agg #[.int .i64 0,.slice none 0 0]),56)::(b3,.var (.agg #[.int .i64 (n2:Int),.slice p2 (n2*n2) c2]),56)::(b2,.var (.agg #[.int .i64 (n1:Int),.slice p1 (n1*n1) c1]),56)::(Dx++M)) (hU1.trans (hU2.trans hU3)) (List.nil_sublist _)).part (lo:=i*n1) (hi:=i*n1+n1) (c:=c1) (by omega) (by omega) hc1
  rw [show i*n1+n1 - i*n1=n1 by omega] at hpart ⊢
  try refine Qa ?_
  have hpa:=Qgi rw1 el1 m2
  refine Qex (X:=(b9,.var (.agg #[.int .i64 (n:Int),.slice (some ⟨bm,0,none⟩) (n*n) (n*n)]),56)::(b4,.var (.agg #[.int .i64 0,.slice none 0 0]),56)::(b3,.var (.agg #[.int .i64 (n2:Int),.slice p2 (n2*n2) c2]),56)::(b2,.var (.agg #[.int .i64 (n1:Int),.slice p1 (n1*n1) c1]),56)::M) sym rfl rfl rfl rfl rfl hrow pgs hpart (fun v hv=>by
   obtain ⟨k,hk⟩:=List.getElem?_of_mem hv
   have hkl:=(List.getElem?_eq_some_iff.1 hk).1
   rw [hpa k (by rw [List.length_take] at hkl; omega)] at hk
   cases hk; rfl) h11 (by omega) rfl rfl rfl rfl (fun D3 hr3=>?_)
  refine Qm (M':=(b9,.var (.agg #[.int .i64 (n:Int),.slice (some ⟨bm,0,none⟩) (n*n) (n*n)]),56)::(b4,.var (.agg #[.int .i64 0,.slice none 0 0]),56)::(b3,.var (.agg #[.int .i64 (n2:Int),.slice p2 (n2*n2) c2]),56)::(b2,.var (.agg #[.int .i64 (n1:Int),.slice p1 (n1*n1) c1]),56)::(D3++M)) ?_ pgs
  have hx':=Qdq (g':=sgc n n1 n2 f1 f2 (i+1) 0) (lo:=i*n) (by omega) hpart.len hpa hx (fun k=>Qlj hn h11 hin)
  try refine Qa ?_
  exact Qj (E':=[(40,.int .i64 ((i:Int)+1)),(39,.int .i64 (n1:Int)),(8,.int .i64 (n:Int)),(9,.pointer (some ⟨b9,0,none⟩)),(5,.int .i64 0),(4,.pointer (some ⟨b4,0,none⟩)),(3,.pointer (some ⟨b3,0,none⟩)),(2,.pointer (some ⟨b2,0,none⟩))]) (m:=n1 - (i+1)) ⟨rfl,rfl,rfl,rfl,rfl,rfl,rfl,rfl,trivial⟩ (by omega) ⟨i+1,_,D3,by omega,hr3,hx',rfl,uc,rfl,rfl⟩
 obtain rfl:n1=i:=by omega
 try refine Qa ?_
 try refine Jh (M':=(b9,.var (.agg #[.int .i64 (n:Int),.slice (some ⟨bm,0,none⟩) (n*n) (n*n)]),56)::(b4,.var (.agg #[.int .i64 0,.slice none 0 0]),56)::(b3,.var (.agg #[.int .i64 (n2:Int),.slice p2 (n2*n2) c2]),56)::(b2,.var (.agg #[.int .i64 (n1:Int),.slice p1 (n1*n1) c1]),56)::(Dx++M)) (ULe.refl _) sbk ?_
 refine Qp (fun z E U' M'=>∃ (i:Nat) (xs:List Value) (Dx:MH),i≤n2∧RowO TInt 1 Dx (some ⟨bm,0,none⟩) (n*n) (n*n) xs∧(∀ k,k < n*n→xs[k]?=some (.int .i64 (sgc n n1 n2 f1 f2 n1 i k)))∧E=[(65,.int .i64 (i:Int)),(64,.int .i64 (n2:Int)),(8,.int .i64 (n:Int)),(9,.pointer (some ⟨b9,0,none⟩)),(5,.int .i64 0),(4,.pointer (some ⟨b4,0,none⟩)),(3,.pointer (some ⟨b3,0,none⟩)),(2,.pointer (some ⟨b2,0,none⟩))]∧ULe U3 U'∧M'=(b9,.var (.agg #[.int .i64 (n:Int),.slice (some ⟨bm,0,none⟩) (n*n) (n*n)]),56)::(b4,.var (.agg #[.int .i64 0,.slice none 0 0]),56)::(b3,.var (.agg #[.int .i64 (n2:Int),.slice p2 (n2*n2) c2]),56)::(b2,.var (.agg #[.int .i64 (n1:Int),.slice p1 (n1*n1) c1]),56)::(Dx++M)∧z=n2 - i) (n0:=n2 - 0) (E0:=[(65,.int .i64 ((0:Nat):Int)),(64,.int .i64 (n2:Int)),(8,.int .i64 (n:Int)),(9,.pointer (some ⟨b9,0,none⟩)),(5,.int .i64 0),(4,.pointer (some ⟨b4,0,none⟩)),(3,.pointer (some ⟨b3,0,none⟩)),(2,.pointer (some ⟨b2,0,none⟩))]) ⟨rfl,rfl,rfl,rfl,rfl,rfl,rfl,rfl,trivial⟩ ⟨0,xs,Dx,by omega,hrow,hx,rfl,uc,rfl,rfl⟩ ?_
 clear hrow hx
 rintro z E U4 M' ⟨i,xs,Dx,hi,hrow,hx,rfl,hU4,rfl,rfl⟩
 try refine Qa ?_
 refine Qk rfl (fun h5=>?_) (fun h5=>?_)
 ·have hin:i < n2:=by omega
  have e1:((n1:Int)+(i:Int))*(n:Int)=(((n1+i)*n:Nat):Int):=by rw [Int.natCast_mul,Int.natCast_add]
  have e2:(i:Int)*(n2:Int)=((i*n2:Nat):Int):=(Int.natCast_mul i n2).symm
  have e3:((i:Int)+1)*(n2:Int)=((i*n2+n2:Nat):Int):=by rw [Int.add_mul,e2]; omega
  have m1:=QcH (m:=n) (show n1+i < n by omega)
  have m2:=QcH (m:=n2) hin
  have hlen:=hrow.len.1
  try refine Qa ?_
  refine QG [24] [0,1,2,3,4,5,6,7,8,9,10,11,12,13,14,15,16,17,18,19,20,21,22,23,24] sym (by kernel_rfl) ?_
  try refine Qa ?_
  refine yU (lo:=(n1+i)*n+n1) (n:=n*n) (c:=n*n) (by omega) (by omega) ?_ (hv:=by omega)
  try refine Qa ?_
  refine QgU (lo:=i*n2) (hi:=i*n2+n2) (n:=n2*n2) (c:=c2) (by omega) (by omega) ?_ (hv:=e2) (hv':=e3)
  have hpart:=(rw2.up (M':=(b9,.var (.agg #[.int .i64 (n:Int),.slice (some ⟨bm,0,none⟩) (n*n) (n*n)]),56)::(b4,.var (.agg #[.int .i64 0,.slice none 0 0]),56)::(b3,.var (.agg #[.int .i64 (n2:Int),.slice p2 (n2*n2) c2]),56)::(b2,.var (.agg #[.int .i64 (n1:Int),.slice p1 (n1*n1) c1]),56)::(Dx++M)) (hU1.trans (hU2.trans (hU3.trans hU4))) (List.nil_sublist _)).part (lo:=i*n2) (hi:=i*n2+n2) (c:=c2) (by omega) (by omega) hc2
  rw [show i*n2+n2 - i*n2=n2 by omega] at hpart ⊢
  try refine Qa ?_
  have hpa:=Qgi rw2 el2 m2
  refine Qex (X:=(b9,.var (.agg #[.int .i64 (n:Int),.slice (some ⟨bm,0,none⟩) (n*n) (n*n)]),56)::(b4,.var (.agg #[.int .i64 0,.slice none 0 0]),56)::(b3,.var (.agg #[.int .i64 (n2:Int),.slice p2 (n2*n2) c2]),56)::(b2,.var (.agg #[.int .i64 (n1:Int),.slice p1 (n1*n1) c1]),56)::M) sym rfl rfl rfl rfl rfl hrow pgs hpart (fun v hv=>by
   obtain ⟨k,hk⟩:=List.getElem?_of_mem hv
   have hkl:=(List.getElem?_eq_some_iff.1 hk).1
   rw [hpa k (by rw [List.length_take] at hkl; omega)] at hk
   cases hk; rfl) h21 (by omega) rfl rfl rfl rfl (fun D3 hr3=>?_)
  refine Qm (M':=(b9,.var (.agg #[.int .i64 (n:Int),.slice (some ⟨bm,0,none⟩) (n*n) (n*n)]),56)::(b4,.var (.agg #[.int .i64 0,.slice none 0 0]),56)::(b3,.var (.agg #[.int .i64 (n2:Int),.slice p2 (n2*n2) c2]),56)::(b2,.var (.agg #[.int .i64 (n1:Int),.slice p1 (n1*n1) c1]),56)::(D3++M)) ?_ pgs
  have hx':=Qdq (g':=sgc n n1 n2 f1 f2 n1 (i+1)) (lo:=(n1+i)*n+n1) (by omega) hpart.len hpa hx (fun k=>Qmd hn h11 hin)
  try refine Qa ?_
  exact Qj (E':=[(65,.int .i64 ((i:Int)+1)),(64,.int .i64 (n2:Int)),(8,.int .i64 (n:Int)),(9,.pointer (some ⟨b9,0,none⟩)),(5,.int .i64 0),(4,.pointer (some ⟨b4,0,none⟩)),(3,.pointer (some ⟨b3,0,none⟩)),(2,.pointer (some ⟨b2,0,none⟩))]) (m:=n2 - (i+1)) ⟨rfl,rfl,rfl,rfl,rfl,rfl,rfl,rfl,trivial⟩ (by omega) ⟨i+1,_,D3,by omega,hr3,hx',rfl,uc,rfl,rfl⟩
 obtain rfl:n2=i:=by omega
 repeat (first|refine Qc ?_|refine Qb fun _=>?_|refine w_al fun _=>?_)
 exact Qf Dx sym rfl (.cons (.cell 1 rfl rfl rfl) (.cons (.tmp rfl) .nil)) uc sb (.inl rfl) ⟨fun h2=>absurd rfl h2,fun _=>⟨_,rfl,_,_,xs,rfl,hrow,fun k x hk=>by
  have hkn:k < n*n:=by
   have:=(List.getElem?_eq_some_iff.1 hk).1
   have:=hrow.len.1
   omega
  rw [hx k hkn] at hk
  cases hk
  exact ⟨rfl,by have:=Qna (k:=k) hn hb1 hb2 hkn; omega⟩⟩⟩
end Go.Proofs.YtnjpkncacddplaaGreatDoor

/- Walks of layer 36: Scale. -/
namespace Go.Proofs.YtnjpkncacddplaaGreatDoor
open Go.Hp
open Classical
variable {G:World} {U U':UH} {M:MH}
def scf (f:Nat→Int) (d:Int) (k:Nat):Int:=f k*min d 1001
noncomputable def escl (r:Int) (N:Nat) (f:Nat→Int) (d:Int):Int :=
 if chk r N f≠0 then chk r N f else if d < 1 then 2 else if Ins N (scf f d) then 0 else 7
end Go.Proofs.YtnjpkncacddplaaGreatDoor

/- Walks of layer 36: Change. -/
namespace Go.Proofs.YtnjpkncacddplaaGreatDoor
open Go.Hp
open Classical
variable {G:World} {U U':UH} {M:MH}
def cin (n:Nat) (f u:Nat→Int) (i j a:Nat):Nat→Int
 | 0=>0
 | b+1=>cin n f u i j a b+u (i*n+a)*f (a*n+b)*u (j*n+b)
def cou (n:Nat) (f u:Nat→Int) (i j:Nat):Nat→Int
 | 0=>0
 | a+1=>cou n f u i j a+cin n f u i j a n
def chf (n:Nat) (f u:Nat→Int) (k:Nat):Int:=cou n f u (k / n) (k % n) n
noncomputable def echg (r:Int) (N:Nat) (f:Nat→Int) (Nu:Nat) (u:Nat→Int):Int :=
 if chk r N f≠0 then chk r N f else if Nu≠N then 4 else if ¬ (∀ k,k < Nu → -100≤u k∧u k≤100) then 2 else
  if smb (Lr.det r.toNat fun i j=>u (i*r.toNat+j))=false∨(smv (Lr.det r.toNat fun i j=>u (i*r.toNat+j))≠1∧smv (Lr.det r.toNat fun i j=>u (i*r.toNat+j)) ≠ -1) then 11 else if Ins N (chf r.toNat f u) then 0 else 7
end Go.Proofs.YtnjpkncacddplaaGreatDoor

/- Walks of reference 33: zero, Result. -/
namespace Go.Proofs.YtnjpkncacddplaaGreatDoor
open Go.Hp
variable {G:World} {U U':UH} {M:MH}
end Go.Proofs.YtnjpkncacddplaaGreatDoor

/- Polynomials of layer 36: their values; the reference's at and form. -/
namespace Go.Hp
end Go.Hp
namespace Go.Proofs.YtnjpkncacddplaaGreatDoor
open Go.Hp
variable {G:World} {U U':UH} {M M':MH}
abbrev TMo:Nat:=179
def Mon (b:Nat) (U:UH) (M:MH) (v:Value) (ne:Nat) (e:Nat→Int) (q:Rat):Prop :=
 ∃ (pe:Option Addr) (ce:Nat) (xs:List Value) (x:QV),v = .agg #[.slice pe ne ce,.bool x.num.neg,.slice x.num.p x.num.n x.num.c,.bool x.den.neg,.slice x.den.p x.den.n x.den.c]∧ne≤ce∧RowAt U M 1 pe ne xs∧El Vz U xs e∧x.rep U M q∧x.le b
theorem Mon.up {b ne:Nat} {v:Value} {e:Nat→Int} {q:Rat} (h:Mon b U M v ne e q) (hU:ULe U U') (hM:M.Sublist M'):Mon b U' M' v ne e q:=by
 obtain ⟨pe,ce,xs,x,h1,h2,h3,h4,h5,h6⟩:=h
 exact ⟨pe,ce,xs,x,h1,h2,h3.up hU hM,h4,h5.up hU hM,h6⟩
def Pol (b:Nat) (U:UH) (M:MH) (v:Value) (np:Nat) (ne:Nat→Nat) (e:Nat→Nat→Int) (q:Nat→Rat):Prop :=
 ∃ (p:Option Addr) (c:Nat) (ms:List Value),v = .slice p np c∧np≤c∧RowAt U M 5 p np ms∧∀ i u,ms[i]?=some u→Mon b U M u (ne i) (e i) (q i)
theorem Pol.up {b np:Nat} {v:Value} {ne:Nat→Nat} {e:Nat→Nat→Int} {q:Nat→Rat} (h:Pol b U M v np ne e q) (hU:ULe U U') (hM:M.Sublist M'):Pol b U' M' v np ne e q:=by
 obtain ⟨p,c,ms,h1,h2,h3,h4⟩:=h
 exact ⟨p,c,ms,h1,h2,h3.up hU hM,fun i u hi=>(h4 i u hi).up hU hM⟩
def pwr (r:Rat):Nat→Rat
 | 0=>1
 | j+1=>pwr r j*r
def mpx (e:Nat→Int) (x:Nat→Int):Nat→Rat
 | 0=>1
 | k+1=>mpx e x k*pwr ((x k:Int):Rat) (e k).toNat
def pex (np n:Nat) (e:Nat→Nat→Int) (q:Nat→Rat) (x:Nat→Int):Rat:=La.sm np fun i=>q i*mpx (e i) x n
def exs (e:Nat→Int):Nat→Nat
 | 0=>0
 | k+1=>exs e k+(e k).toNat
def Fit (np n:Nat) (ne:Nat→Nat) (e:Nat→Nat→Int):Prop:=np≤60∧∀ i,i < np→ne i=n∧∀ k,k < n→0≤e i k∧e i k≤6
end Go.Proofs.YtnjpkncacddplaaGreatDoor

/- Walks of layer 36's reference: Weighted, Expansion. -/
namespace Go.Proofs.YtnjpkncacddplaaGreatDoor
open Go.Hp
variable {G:World} {U U':UH} {M:MH}
def ww (n:Nat) (f:Nat→Int) (b:Nat→Nat) (w:Nat→Rat):Nat→Nat→Rat
 | 0,_=>0
 | k+1,q=>if vn n f b k=q then ww n f b w k q+w k else ww n f b w k q
def WgtP (n:Nat) (f:Nat→Int) (P:Nat) (pw:(Nat→Int)→Rat) (U':UH) (v:Value):Prop :=
 ∃ X,Inv n f X∧(Bx.pre (bd X (P - 1)) n≤1048576→∃ s r,Skp (ww n f (bd X (P - 1)) (fun k=>pw (Bx.vec (bd X (P - 1)) n k)) (Bx.pre (bd X (P - 1)) n)) P s∧v = .tuple #[r,.int .i64 0]∧Vser Vq U' [] r (s:Int) (P - s) (fun k=>ww n f (bd X (P - 1)) (fun k=>pw (Bx.vec (bd X (P - 1)) n k)) (Bx.pre (bd X (P - 1)) n) (s+k))) ∧
  (1048576 < Bx.pre (bd X (P - 1)) n→v = .tuple #[.agg #[.int .i64 0,.slice none 0 0],.int .i64 7])
def WSz (n:Nat) (f:Nat→Int) (P B:Nat) (pw:(Nat→Int)→Rat):Prop :=
 ∀ X,Inv n f X→Bx.pre (bd X (P - 1)) n≤1048576→∀ k,k < Bx.pre (bd X (P - 1)) n→Szq (pw (Bx.vec (bd X (P - 1)) n k)) B∧∀ q,Szq (ww n f (bd X (P - 1)) (fun k=>pw (Bx.vec (bd X (P - 1)) n k)) (k+1) q) B
end Go.Proofs.YtnjpkncacddplaaGreatDoor

/- Walks of layer 36's reference: Change. -/
namespace Go.Proofs.YtnjpkncacddplaaGreatDoor
open Go.Hp
open Classical
variable {G:World} {U U':UH} {M:MH}
end Go.Proofs.YtnjpkncacddplaaGreatDoor
