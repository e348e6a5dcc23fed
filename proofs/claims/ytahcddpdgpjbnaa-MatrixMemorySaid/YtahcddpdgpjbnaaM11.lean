/- Texts of this seat's own, merged: each begins with its own remark. -/
import Derived.Test.YtahcddpdgpjbnaaM10
import Derived.Test.YtahcddpdgpjbnaaM2
/- The law on the greatest common divisor and its cofactors. -/
namespace Go.Proofs.Ytahcddpdgpjbnaa
open Go.Hp
variable {G:World} {U:UH} {M:MH}
end Go.Proofs.Ytahcddpdgpjbnaa

/- For the law on memory: integers with the same digits are the same; a family of own rows of digits, of which one is written. -/
namespace Go.Proofs.Ytahcddpdgpjbnaa
open Go.Hp
variable {G:World} {U:UH} {M:MH}
theorem vo {P:Program} {e s bs t ty:Nat} {z:Value} {ti:TI} (hS:TI.ok P e ti) (hts:ti.size=s) (htb:ti.bytes=bs) (htz:ti.zero=z) (ht:P.underlying t=some (.slice e)) (hz:z.cells.toList.length=s) (h0:0 < s)
  {w:World} (hw:Mem G U M w) {a0:Addr} {q:Option Addr} {m c':Nat} {news:List Value} (hm:news.length=m) (hnews:∀ v ∈ news,v.cells.toList.length=s)
  (hq:m≠0→∃ a,q=some a∧∀ j u,(flat news)[j]?=some u→w.cell? (a.add j)=some u) (hbound:m*bs≤140737488355328) (h63:m≤9223372036854775807) :
  ∃ w' D' p' cc,(Builtin.append_ #[t,t] ty #[.slice (some a0) 0 0,.slice q m c']).run P w = .ok (.slice p' m cc) w'∧Mem G U (D'++M) w'∧((D'=[]∧m=0∧p'=some a0∧cc=0)∨(Row e D' p' m cc news∧∀ k,k ∈ D'→∀ r,k.2.1 = .arr r→∀ v ∈ r,v.cells.toList.length=s)):=by
 obtain ⟨inf,_,hi,hiz,hsz,hby⟩:=hS.run_info w
 have hsz':inf.size=s:=by rw [hsz,hts]
 have hby':inf.bytes=bs:=by rw [hby,htb]
 have hiz':inf.zero=some z:=by rw [hiz,htz]
 have hnl:(flat news).length=m*inf.size:=by rw [Jh hnews,hm,hsz']
 by_cases hm0:m=0
 ·subst hm0
  refine ⟨w,[],some a0,0,?_,hw,.inl ⟨rfl,rfl,rfl,rfl⟩⟩
  have hf:(Builtin.firstCells inf.size 0 (.slice q 0 c')).run P w = .ok #[] w:=by
   cases q with
   | none=>simp [Builtin.firstCells]
   | some a=>simp [Builtin.firstCells,loadCells,loadCellsFrom]
  simp [Builtin.append_,Ql ht,sizeOf,typeInfo,hi,Builtin.lenOf,hf,storeCells]
 ·obtain ⟨a,rfl,ha⟩:=hq hm0
  have hneed:((0+m:Nat):Int)≤9223372036854775807:=by omega
  have hg:=ji (w:=w) (need:=0+m) (old:=0) (e:=e) (by omega)
  have hfitb:=growslice_fits (need:=0+m) (old:=0) (bytes:=inf.bytes) (by omega) (by rw [hby',Nat.zero_add]; exact hbound)
  have hrun:=run_append_grow (P:=P) w t ty e inf z ht hi hiz' a0 0 0 [] (by simp) (by intro j u hu; simp at hu) a m c' (flat news) hnl ha (by omega) hneed hfitb
  simp only [Nat.zero_add] at hrun hg
  refine ⟨_,[(w.heap.size,.arr (news++List.replicate (grownCap w m 0 e - m) z),e)],_,_,hrun,?_,.inr ⟨?_,?_⟩⟩
  ·rw [show (([]:List Value).toArray++(flat news).toArray++Builtin.zeroCells z.cells (grownCap w m 0 e - m))=(flat (news++List.replicate (grownCap w m 0 e - m) z)).toArray by rw [Va hz h0]; simp]
   exact (hw.drawn (w.drawn+1)).alloc (.arr (news++List.replicate (grownCap w m 0 e - m) z)) e
  ·have:=Row.row (e:=e) (b:=w.heap.size) (n:=m) (c:=grownCap w m 0 e) (r:=news++List.replicate (grownCap w m 0 e - m) z) (by omega) (by simp only [List.length_append,List.length_replicate,hm]; omega) hg.2
   rwa [List.take_append,List.take_of_length_le (by omega),hm,Nat.sub_self,List.take_zero,List.append_nil] at this
  ·intro k' hk' r hr' v hv
   simp only [List.mem_singleton] at hk'
   subst hk'
   simp only [Blk.arr.injEq] at hr'
   subst hr'
   rcases List.mem_append.1 hv with hv | hv
   ·exact hnews v hv
   ·rw [(List.mem_replicate.1 hv).2]; exact hz
theorem QaC {P:Program} {T:TT} {K:Kont} {N:Nat} {E:Env} {L:List Oper} {l:List Ent} {f:Bool} {i:Nat} {o:Oper} {d t bt bt':Nat} {x y:Operand} {z':Value} {a0:Addr} {q:Option Addr} {m c':Nat} {news:List Nat}
  (hS:Sym P T) (ho:o.op = .call { callee := .builtin .append,args := #[x,y],argTypes := #[t,t] })
  (hx:ev E x=some (.slice (some a0) 0 0)) (hy:ev E y=some (.slice q m c')) (hT:lkT T t=some ⟨.slice TU32,bt,bt',z'⟩) (he:lkT T TU32=some ⟨.int .u32,1,4,.int .u32 0⟩)
  (hd2:Dig U M q m c' news) (hbound:m≤35184372088832) (hg:gok L E o.guard=some true) (hd:o.dst=some d) (hN:Nat.blt d N=true)
  (h:∀ p' cc D',(∀ U' M',Dig U' (D'++M') p' m cc news)→SL P T L K N G l ((d,.slice p' m cc)::E) U (D'++M)):SL P T L K N G ((f,i,o)::l) E U M:=by
 refine .gr (R:=fun v U' D=>∃ p' cc,v = .slice p' m cc∧U=U'∧∀ U' M',Dig U' (D++M') p' m cc news) (.inr (by rw [ho]; rfl)) hd hN (fun M2 a w ha hw=>?_) (fun v U' D _ ⟨p',cc,h1,h2,h3⟩=>by subst h1 h2; exact h p' cc D h3)
 obtain ⟨dd,hdd,hkk⟩:=(hS.at hT).und
 have:=QL hkk
 subst this
 have hn1:=(hd2.app M2).news
 obtain ⟨w',D',p',cc,hrun,hm',hD⟩:=vo (ty:=o.type) (news:=news.map dg) (s:=1) (bs:=4) (hS.at he) rfl rfl rfl hdd rfl (by decide) hw (a0:=a0) (c':=c') (q:=q) (by rw [List.length_map,hd2.len]) (JH news)
  (fun h=>by
   obtain ⟨a0,h1,h2⟩:=hn1 h
   exact ⟨a0,h1,fun j u hu=>h2 w hw j u hu⟩) (by omega) (by omega)
 unfold wpV
 rw [QP hg ha,if_pos rfl]
 have hrun2:(execOp a.eval o).run P w = .ok (.value (.slice p' m cc)) w':=by
  simp only [execOp,ho,resolve,List.map_toArray,List.map_cons,List.map_nil,ha.eval hx,ha.eval hy,Sem.run_bind,Sem.run_pure,Result.andThen_ok,invoke,builtin,hrun]
 rw [hrun2]
 refine ⟨U,D',ULe.refl U,hm',p',cc,rfl,rfl,fun U' M'=>?_⟩
 rcases hD with ⟨rfl,rfl,rfl,rfl⟩ | ⟨hrow,hs⟩
 ·have hnil:news=[]:=List.eq_nil_of_length_eq_zero (by rw [hd2.len])
  subst hnil
  exact ⟨rfl,Nat.le_refl _,by omega,fun _ h=>(by cases h),fun k d h=>by simp at h⟩
 ·exact (Own.of_row hrow hs hd2.bd).dig
theorem jR {α:Type} {F:List (List α)} {i:Nat} {D:List α} (h:F[i]?=some D):F.flatten.Perm (D++((F.take i).flatten++(F.drop (i+1)).flatten)):=by
 obtain ⟨hi,hx⟩:=List.getElem?_eq_some_iff.1 h
 have e:F=F.take i++D::F.drop (i+1):=by
  rw [← hx,List.getElem_cons_drop,List.take_append_drop]
 have e2:F.flatten=(F.take i).flatten++(D++(F.drop (i+1)).flatten):=by
  conv=>lhs; rw [e]
  rw [List.flatten_append,List.flatten_cons]
 rw [e2]
 exact List.perm_append_comm_assoc ..
def Fam (xs:List IV) (F:List MH) (i k:Nat):Prop:=F.length=xs.length∧∀ (j:Nat) (D:MH) (x:IV),F[j]?=some D→xs[j]?=some x →
 ∃ l,Own D x.p x.n x.c l∧(j < i→∀ d ∈ l,d=j)∧(j=i→∀ d ∈ l.take k,d=i)
theorem Fam.start {L:List (IV × MH)} (h:∀ p ∈ L,∃ z,p.1.own p.2 z):Fam (L.map (·.1)) (L.map (·.2)) 0 0:=by
 refine ⟨by simp,fun j D x hD hx=>?_⟩
 rw [List.getElem?_map] at hD hx
 obtain ⟨p,hp,rfl⟩:=Option.map_eq_some_iff.1 hD
 rw [hp] at hx
 cases hx
 obtain ⟨z,l,ho,-⟩:=h p (List.mem_of_getElem? hp)
 exact ⟨l,ho,fun h=>absurd h (by omega),fun _ d hd=>by simp at hd⟩
theorem Fam.next {xs:List IV} {F:List MH} {i k:Nat} {x:IV} (h:Fam xs F i k) (hx:xs[i]?=some x) (hk:x.n≤k):Fam xs F (i+1) 0:=by
 refine ⟨h.1,fun j D y hD hy=>?_⟩
 obtain ⟨l,ho,h1,h2⟩:=h.2 j D y hD hy
 refine ⟨l,ho,fun hj d hd=>?_,fun _ d hd=>by simp at hd⟩
 rcases Nat.lt_or_eq_of_le (Nat.le_of_lt_succ hj) with hj | hj
 ·exact h1 hj d hd
 ·subst hj
  rw [hx] at hy
  cases hy
  rw [List.take_of_length_le (by rw [ho.len.1]; exact hk)] at h2
  exact h2 rfl d hd
theorem Fam.put {xs:List IV} {F:List MH} {i k:Nat} {x:IV} (h:Fam xs F i k) (hx:xs[i]?=some x) (hk:k < x.n) :
  ∃ D l,F[i]?=some D∧Own D x.p x.n x.c l∧∀ D',Own D' x.p x.n x.c (l.set k i)→Fam xs (F.set i D') i (k+1):=by
 have hi:i < F.length:=by rw [h.1]; exact (List.getElem?_eq_some_iff.1 hx).1
 have hD:=List.getElem?_eq_getElem hi
 generalize F[i]=D at hD
 obtain ⟨l,ho,h1,h2⟩:=h.2 i D x hD hx
 refine ⟨D,l,hD,ho,fun D' hD'=>⟨by rw [List.length_set]; exact h.1,fun j E y hE hy=>?_⟩⟩
 by_cases hj:j=i
 ·subst hj
  rw [List.getElem?_set_self hi] at hE
  cases hE
  rw [hx] at hy
  cases hy
  refine ⟨_,hD',fun h=>absurd h (by omega),fun _ d hd=>?_⟩
  rw [List.take_add_one] at hd
  rcases List.mem_append.1 hd with hd | hd
  ·rw [List.take_set_of_le (Nat.le_refl k)] at hd
   exact h2 rfl d hd
  ·rw [List.getElem?_set_self (by rw [ho.len.1]; exact hk)] at hd
   simpa using hd
 ·rw [List.getElem?_set_ne (by omega)] at hE
  obtain ⟨l',ho',h1',h2'⟩:=h.2 j E y hE hy
  exact ⟨l',ho',h1',fun h=>absurd h hj⟩
theorem Fam.get {xs:List IV} {F:List MH} {i k n:Nat} {x:IV} {B T:MH} (h:Fam xs F n 0) (hi:i < n) (hx:xs[i]?=some x) (hk:k < x.n) :
  x.p.isSome=true∧∀ (G:World) (w:World),Mem G U (B++(F.flatten++T)) w→w.cell? (elt x.p k)=some (.int .u32 (i:Int)):=by
 have hiF:i < F.length:=by rw [h.1]; exact (List.getElem?_eq_some_iff.1 hx).1
 have hD:=List.getElem?_eq_getElem hiF
 generalize F[i]=D at hD
 obtain ⟨l,ho,h1,-⟩:=h.2 i D x hD hx
 obtain ⟨d,hd,hb,hp,hc⟩:=(ho.dig (U:=U) (M:=(F.take i).flatten++(F.drop (i+1)).flatten)).get hk
 have:=h1 hi d (List.mem_of_getElem? hd)
 subst this
 exact ⟨hp,fun G w hw=>hc G w ((hw.anti (ULe.refl U) (jM (List.sublist_append_left ..))).perm (jR hD))⟩
theorem Fam.size {xs:List IV} {F:List MH} {i k n:Nat} {x:IV} (h:Fam xs F n k) (hx:xs[i]?=some x):x.n≤9223372036854775807:=by
 have hiF:i < F.length:=by rw [h.1]; exact (List.getElem?_eq_some_iff.1 hx).1
 obtain ⟨l,ho,-⟩:=h.2 i _ x (List.getElem?_eq_getElem hiF) hx
 have:=ho.len
 omega
end Go.Proofs.Ytahcddpdgpjbnaa
