/- Texts of this seat's own, merged: each begins with its own remark. -/
import Derived.Test.YthnnlgjlhnmhnaaGreatM142
import Derived.Test.YthnnlgjlhnmhnaaGreatB339
import Derived.Test.YthnnlgjlhnmhnaaGreatM58
import Derived.Test.YthnnlgjlhnmhnaaGreatM95
/- What the reference says of a harmonic polynomial is what the program's sums say. -/
namespace Go.Proofs.YthnnlgjlhnmhnaaGreat
open Go.Hp
theorem QfP {n:Nat} {f g:Nat→Int}:kyl n f=kyl n g↔∀ a,a < n→f a=g a:=by
 constructor
 ·intro h a ha
  have h1:=YO (n:=n) (a:=a) (e:=f)
  have h2:=YO (n:=n) (a:=a) (e:=g)
  rw [if_pos ha] at h1 h2
  rw [← h1,← h2,h]
 ·intro h
  unfold kyl
  have:(List.range n).map f=(List.range n).map g:=List.map_congr_left fun a ha=>h a (List.mem_range.1 ha)
  rw [this]
theorem yM {n i k:Nat} {e:Nat→Nat→Int}:sme n e i k↔kyl n (e i)=kyl n (e k):=QfP.symm
theorem qA {m n i:Nat} {e:Nat→Nat→Int} {q:Nat→Rat}:cfe m n e q i=fsm m n e q (kyl n (e i)):=La.sm_congr fun k _=>by
 by_cases h:sme n e k i
 ·rw [if_pos h,if_pos (yM.1 h)]
 ·rw [if_neg h,if_neg fun h2=>h (yM.2 h2)]
theorem QhM {n:Nat} {f g:Nat→Int} (h:kyl n f=kyl n g):exs f n=exs g n:=by
 have h1:=QfP.1 h
 have:∀ k,k≤n→exs f k=exs g k:=fun k=>by
  induction k with
  | zero=>exact fun _=>rfl
  | succ k ih =>
   intro hk
   show exs f k+(f k).toNat=exs g k+(g k).toNat
   rw [ih (by omega),h1 k (by omega)]
 exact this n (Nat.le_refl n)
theorem QcD {n:Nat} {e:Nat→Nat→Int}:∀ i,∃ j,j≤i∧kyl n (e j)=kyl n (e i)∧∀ k,k < j→¬ sme n e k j:=by
 intro i
 induction i using Nat.strongRecOn with
 | _ i ih =>
  by_cases h:∀ k,k < i→¬ sme n e k i
  ·exact ⟨i,Nat.le_refl i,rfl,h⟩
  ·obtain ⟨k,hk,h2⟩:∃ k,k < i∧sme n e k i:=by
    refine Classical.byContradiction fun h3=>h fun k hk h4=>h3 ⟨k,hk,h4⟩
   obtain ⟨j,h3,h4,h5⟩:=ih k hk
   exact ⟨j,by omega,h4.trans (yM.1 h2),h5⟩
theorem qY {m n:Nat} {e:Nat→Nat→Int} {q:Nat→Rat} {j:Nat}:∀ {i:Nat},j ∈ jl m n e q i↔j < i∧(∀ k,k < j→¬ sme n e k j)∧cfe m n e q j≠0
 | 0=>⟨(fun h=>by cases h),(fun h=>absurd h.1 (Nat.not_lt_zero j))⟩
 | i+1=>by
  have ih:=qY (m:=m) (n:=n) (e:=e) (q:=q) (j:=j) (i:=i)
  by_cases h:(∀ k,k < i→¬ sme n e k i)∧cfe m n e q i≠0
  ·rw [QcP h,List.mem_append,ih,List.mem_singleton]
   constructor
   ·rintro (⟨h1,h2⟩ | rfl)
    ·exact ⟨by omega,h2⟩
    ·exact ⟨Nat.lt_succ_self _,h⟩
   ·rintro ⟨h1,h2⟩
    rcases Nat.lt_or_eq_of_le (Nat.le_of_lt_succ h1) with h3 | h3
    ·exact .inl ⟨h3,h2⟩
    ·exact .inr h3
  ·rw [Qbl h,ih]
   constructor
   ·rintro ⟨h1,h2⟩
    exact ⟨by omega,h2⟩
   ·rintro ⟨h1,h2⟩
    rcases Nat.lt_or_eq_of_le (Nat.le_of_lt_succ h1) with h3 | h3
    ·exact ⟨h3,h2⟩
    ·rw [h3] at h2; exact absurd h2 h
theorem QiN {m n:Nat} {e:Nat→Nat→Int} {q:Nat→Rat} (hn:n≤8):(jl m n e q m).length=0↔∀ μ:List Int,μ.length=8→fsm m n e q μ=0:=by
 rw [List.length_eq_zero_iff]
 constructor
 ·intro h μ _
  by_cases h1:∃ s,s < m∧kyl n (e s)=μ
  ·obtain ⟨s,hs,rfl⟩:=h1
   obtain ⟨j,h2,h3,h4⟩:=QcD (n:=n) (e:=e) s
   refine Classical.byContradiction fun h5=>?_
   have h6:j ∈ jl m n e q m:=qY.2 ⟨by omega,h4,by rw [qA,h3]; exact h5⟩
   rw [h] at h6
   cases h6
  ·exact La.sm_zero fun s hs=>if_neg fun h2=>h1 ⟨s,hs,h2⟩
 ·intro h
  refine List.eq_nil_iff_forall_not_mem.2 fun j hj=>?_
  obtain ⟨-,-,h2⟩:=qY.1 hj
  rw [qA] at h2
  exact h2 (h _ (qD hn))
open Classical in
noncomputable def fj (n:Nat) (e:Nat→Nat→Int):Nat→List Nat
 | 0=>[]
 | i+1=>if ∀ k,k < i→¬ sme n e k i then fj n e i++[i] else fj n e i
theorem QcW {n i:Nat} {e:Nat→Nat→Int} (h:∀ k,k < i→¬ sme n e k i):fj n e (i+1)=fj n e i++[i]:=if_pos h
theorem Qhg {n i:Nat} {e:Nat→Nat→Int} (h:¬ ∀ k,k < i→¬ sme n e k i):fj n e (i+1)=fj n e i:=if_neg h
theorem QfQ {n:Nat} {e:Nat→Nat→Int} {j:Nat}:∀ {i:Nat},j ∈ fj n e i↔j < i∧∀ k,k < j→¬ sme n e k j
 | 0=>⟨(fun h=>by cases h),(fun h=>absurd h.1 (Nat.not_lt_zero j))⟩
 | i+1=>by
  have ih:=QfQ (n:=n) (e:=e) (j:=j) (i:=i)
  by_cases h:∀ k,k < i→¬ sme n e k i
  ·rw [QcW h,List.mem_append,ih,List.mem_singleton]
   constructor
   ·rintro (⟨h1,h2⟩ | rfl)
    ·exact ⟨by omega,h2⟩
    ·exact ⟨Nat.lt_succ_self _,h⟩
   ·rintro ⟨h1,h2⟩
    rcases Nat.lt_or_eq_of_le (Nat.le_of_lt_succ h1) with h3 | h3
    ·exact .inl ⟨h3,h2⟩
    ·exact .inr h3
  ·rw [Qhg h,ih]
   constructor
   ·rintro ⟨h1,h2⟩
    exact ⟨by omega,h2⟩
   ·rintro ⟨h1,h2⟩
    rcases Nat.lt_or_eq_of_le (Nat.le_of_lt_succ h1) with h3 | h3
    ·exact ⟨h3,h2⟩
    ·rw [h3] at h2; exact absurd h2 h
theorem Qih {n:Nat} {e:Nat→Nat→Int}:∀ i,((fj n e i).map fun j=>kyl n (e j)).Nodup
 | 0=>List.nodup_nil
 | i+1=>by
  have ih:=Qih (n:=n) (e:=e) i
  by_cases h:∀ k,k < i→¬ sme n e k i
  ·rw [QcW h,List.map_append]
   refine List.nodup_append.2 ⟨ih,List.nodup_cons.2 ⟨List.not_mem_nil,List.nodup_nil⟩,fun x hx y hy=>?_⟩
   rw [List.map_cons,List.map_nil,List.mem_singleton] at hy
   obtain ⟨j,hj,rfl⟩:=List.mem_map.1 hx
   rw [hy]
   exact fun h2=>h j (QfQ.1 hj).1 (yM.2 h2)
  ·rw [Qhg h]; exact ih
theorem Qil {m n:Nat} {e:Nat→Nat→Int} {q:Nat→Rat} {t:Nat→Rat}:∀ i,lsm (jl m n e q i) (fun j=>cfe m n e q j*t j)=lsm (fj n e i) fun j=>cfe m n e q j*t j
 | 0=>rfl
 | i+1=>by
  have ih:=Qil (m:=m) (n:=n) (e:=e) (q:=q) (t:=t) i
  by_cases h:∀ k,k < i→¬ sme n e k i
  ·rw [QcW h,yH]
   by_cases h2:cfe m n e q i=0
   ·rw [Qbl fun h3=>h3.2 h2,h2,Rat.zero_mul,Rat.add_zero]; exact ih
   ·rw [QcP ⟨h,h2⟩,yH,ih]
  ·rw [Qhg h,Qbl fun h3=>h h3.1]; exact ih
theorem Qdq {F:Nat→Rat}:∀ l:List Nat,La.sm l.length (fun t=>F (l.getD t 0))=lsm l F
 | []=>rfl
 | x::l=>by
  show La.sm (l.length+1) _=F x+lsm l F
  rw [La.sm_left,← Qdq l]
  rfl
theorem QaS {m:Nat} {g:Nat→Rat}:∀ n,La.sm (n*m) g=La.sm n fun i=>La.sm m fun k=>g (i*m+k)
 | 0=>by rw [Nat.zero_mul]; rfl
 | n+1=>by
  rw [Nat.succ_mul,La.sm_app,QaS n]
  rfl
theorem QiM {np n:Nat} {e:Nat→Nat→Int} {q:Nat→Rat} {t:List Int→Rat}:La.sm (jl np n e q np).length (fun s=>cfe np n e q ((jl np n e q np).getD s 0)*t (kyl n (e ((jl np n e q np).getD s 0))))=La.sm np fun j=>q j*t (kyl n (e j)):=by
 rw [Qdq (F:=fun j=>cfe np n e q j*t (kyl n (e j))),Qil (t:=fun j=>t (kyl n (e j)))]
 rw [← yT (Qih (n:=n) (e:=e) np) t (m:=np) fun j hj=>?_]
 ·rw [QdI]
  exact jJ fun j _=>by rw [qA]
 ·obtain ⟨i,h1,h2,h3⟩:=QcD (n:=n) (e:=e) j
  exact List.mem_map.2 ⟨i,QfQ.2 ⟨by omega,h3⟩,h2⟩
theorem QdG {n i:Nat} {f:Nat→Int} (hi:i < n) (h1:1≤f i) (hn:n≤8):kyl n (dwn f i)=dnk (kyl n f) i:=by
 have hl:=qD (e:=f) hn
 refine List.ext_getElem? fun a=>?_
 by_cases ha:a < 8
 ·rw [VF (by rw [qD hn]; exact ha),VF (by unfold dnk; rw [List.length_set,hl]; exact ha)]
  unfold dnk
  rw [Qdi (by omega),YO,YO,YO,if_pos hi]
  refine congrArg some ?_
  unfold dwn
  by_cases e1:a=i
  ·rw [if_pos e1,if_pos (by omega),if_pos e1]
   split<;>omega
  ·rw [if_neg e1,if_neg e1]
 ·rw [List.getElem?_eq_none (by rw [qD hn]; omega),List.getElem?_eq_none (by unfold dnk; rw [List.length_set,hl]; omega)]
theorem Qid {n i k:Nat} {f:Nat→Int} {c:Rat} {X:Nat→Nat→Rat} {μ:List Int} (hn:n≤8) (hf:∀ a,a < n→0≤f a∧f a≤6) (hi:i < n) (hk:k < n) :
  (if kyl n (dwn (dwn f i) k)=μ then c*((f i:Int):Rat)*((dwn f i k:Int):Rat)*X i k else 0)=c*tmk X (kyl n f) μ i k:=by
 have hd:=QdO hf hi
 have hfi:=hf i hi
 have hdk:=hd k hk
 unfold tmk fack
 have e1:kat (kyl n f) i=f i:=by rw [YO,if_pos hi]
 by_cases z1:f i=0
 ·rw [e1,z1,Int.zero_mul]
  have:((0:Int):Rat)=0:=rfl
  rw [this,Rat.mul_zero,Rat.zero_mul,Rat.zero_mul,Rat.mul_zero]
  split<;>split<;>simp [Rat.mul_zero]
 ·have e2:=QdG (f:=f) hi (by omega) hn
  have e3:kat (dnk (kyl n f) i) k=dwn f i k:=by rw [← e2,YO,if_pos hk]
  rw [e1,e3]
  by_cases z2:dwn f i k=0
  ·rw [z2,Int.mul_zero]
   have:((0:Int):Rat)=0:=rfl
   rw [this,Rat.mul_zero,Rat.zero_mul,Rat.mul_zero]
   split<;>split<;>simp [Rat.mul_zero]
  ·have e4:kyl n (dwn (dwn f i) k)=lowk (kyl n f) i k:=by
    rw [QdG hk (by omega) hn,e2]; rfl
   rw [e4]
   split
   ·rw [Rat.intCast_mul]
    grind
   ·rw [Rat.mul_zero]
theorem QiA {n np:Nat} {ne:Nat→Nat} {e:Nat→Nat→Int} {q:Nat→Rat} {X:Nat→Nat→Rat} (hn:n≤8) (hf:Fit np n ne e):RHm n np e q X↔Hm n np e q X:=by
 have hJm:∀ t,t < (jl np n e q np).length→(jl np n e q np).getD t 0 ∈ jl np n e q np:=fun t ht=>by
  rw [List.getD_eq_getElem?_getD,List.getElem?_eq_getElem ht]
  exact List.getElem_mem ht
 unfold RHm Hm
 refine and_congr ?_ ?_
 ·constructor
  ·intro h i j hi hj h1 h2
   have key:∀ i,i < np→fsm np n e q (kyl n (e i))≠0→exs (e i) n=exs (e ((jl np n e q np).getD 0 0)) n:=fun i hi h1=>by
    obtain ⟨k,h3,h4,h5⟩:=QcD (n:=n) (e:=e) i
    have h6:k ∈ jl np n e q np:=qY.2 ⟨by omega,h5,by rw [qA,h4]; exact h1⟩
    obtain ⟨t,ht⟩:=List.mem_iff_getElem?.1 h6
    have h7:=h t (List.getElem?_eq_some_iff.1 ht).1
    rw [List.getD_eq_getElem?_getD,ht] at h7
    rw [← h7]
    exact (QhM h4).symm
   rw [key i hi h1,key j hj h2]
  ·intro h t ht
   have h1:=qY.1 (hJm t ht)
   have h2:=qY.1 (hJm 0 (by omega))
   exact h _ _ h1.1 h2.1 (by rw [← qA]; exact h1.2.2) (by rw [← qA]; exact h2.2.2)
 ·rw [QiN hn]
  refine forall_congr' fun μ=>forall_congr' fun _=>?_
  have h1:fsm ((jl np n e q np).length*(n*n)) n (eL n e (jl np n e q np)) (qL n e (cfe np n e q) (jl np n e q np) X) μ=La.sm np fun j=>q j*ttm n X (kyl n (e j)) μ:=by
   rw [← QiM (t:=fun κ=>ttm n X κ μ)]
   unfold fsm
   rw [QaS]
   refine La.sm_congr fun t ht=>?_
   rw [QaS]
   unfold ttm
   rw [← La.sm_mul]
   refine La.sm_congr fun i hi=>?_
   rw [← La.sm_mul]
   refine La.sm_congr fun k hk=>?_
   obtain ⟨q1,q2,q3⟩:=ixs (t:=t) hi hk
   rw [Nat.add_assoc] at q1 q2 q3
   have hfe:=(hf.2 _ (qY.1 (hJm t ht)).1).2
   rw [← Qid hn hfe hi hk]
   unfold eL qL
   rw [q1,q2,q3]
  rw [h1]
end Go.Proofs.YthnnlgjlhnmhnaaGreat

/- The law ThetaHarmonic: what both sides tell is the same; what is great. -/
namespace Go.Proofs.YthnnlgjlhnmhnaaGreat
open Go.Hp
variable {G:World} {U U':UH} {M:MH}
theorem QeC {r m most:Int} {N c:Nat} {p:Option Addr} {vs:List Value} {f:Nat→Int} (rw1:RowAt U [] 1 p N vs) (el:El Vz U vs f) (hc:N≤c) (hN:N≤9223372036854775807) :
  Ct Tryz.prog 5 [.agg #[.int .i64 r,.slice p N c],.int .i64 m,.int .i64 most] G U M fun v U' D=>(∃ b:Bool,v = .bool b∧(b=false→chk r N f=0→∀ k:Nat,m=(k:Int)→k≤1000→∀ n:Nat,r=(n:Int)→∀ X,Inv n f X→Bx.pre (bd X k) n≤1048576→((Bx.pre (bd X k) n:Nat):Int)≤most))∧ULe U U'∧D=[]:=by
 refine Qh Tryz.func5 rfl rfl rfl rfl ?_
 repeat (first|refine Qc ?_|refine Qa fun _=>?_|refine w_al fun _=>?_)
 rename_i b3
 refine Qd rfl rfl rfl rfl rfl rfl (fun _=>Ve (rw1.up uc (List.nil_sublist _)) (el.up KeptC.out uc) hc hN) ?_
 rintro v1 U1 D hU1 ⟨rfl,-,rfl⟩
 rw [List.nil_append]
 repeat (first|refine Qc ?_|refine Qa fun _=>?_|refine w_al fun _=>?_)
 refine Qw rfl rfl (fun h1=>?_) (fun h1=>?_)
 ·repeat (first|refine Qc ?_|refine Qa fun _=>?_|refine w_al fun _=>?_)
  exact Qe [] sym rfl (.cons (.tmp rfl) .nil) uc sb (.inl rfl) ⟨⟨_,rfl,fun _ h=>absurd h h1⟩,uc,rfl⟩
 repeat (first|refine Qc ?_|refine Qa fun _=>?_|refine w_al fun _=>?_)
 refine Qw rfl rfl (fun h2=>?_) (fun h2=>?_)
 ·repeat (first|refine Qc ?_|refine Qa fun _=>?_|refine w_al fun _=>?_)
  exact Qe [] sym rfl (.cons (.tmp rfl) .nil) uc sb (.inl rfl) ⟨⟨_,rfl,fun _ _ k hk=>by omega⟩,uc,rfl⟩
 repeat (first|refine Qc ?_|refine Qa fun _=>?_|refine w_al fun _=>?_)
 refine Qi rfl (fun h3=>?_) (fun h3=>?_)
 ·repeat (first|refine Qc ?_|refine Qa fun _=>?_|refine w_al fun _=>?_)
  exact Qe [] sym rfl (.cons (.tmp rfl) .nil) uc sb (.inl rfl) ⟨⟨_,rfl,fun _ _ k hk h4=>by omega⟩,uc,rfl⟩
 have h1:chk r N f=0:=Classical.not_not.1 h1
 obtain ⟨n,rfl,hn1,hn8,rfl,hb,he,hp⟩:=Jm h1
 obtain ⟨m,rfl⟩:∃ k:Nat,m=(k:Int):=⟨m.toNat,by omega⟩
 obtain ⟨X,hI⟩:=vL hb he hp hn1 hn8
 obtain ⟨k1,-⟩:=Bx.szl_ok (B:=1048576) (b:=bd X m) n
 have hall:∀ b:Bool,(b=false→Bx.pre (bd X m) n≤1048576→((Bx.pre (bd X m) n:Nat):Int)≤most)→b=false→chk (n:Int) (n*n) f=0→∀ k:Nat,(m:Int)=(k:Int)→k≤1000→∀ n':Nat,(n:Int)=(n':Int)→∀ X,Inv n' f X→Bx.pre (bd X k) n'≤1048576→((Bx.pre (bd X k) n':Nat):Int)≤most:=fun b hb hb0 _ k hk _ n' hn' Y hY=>by
  obtain rfl:=Int.ofNat.inj hk
  obtain rfl:=Int.ofNat.inj hn'
  rw [← qG fun i hi=>QdD hI hY hi]
  exact hb hb0
 repeat (first|refine Qc ?_|refine Qa fun _=>?_|refine w_al fun _=>?_)
 refine Qd rfl rfl rfl rfl rfl rfl (fun _=>Qep (rw1.up uc (List.nil_sublist _)) (el.up KeptC.out uc) hb he hp hn1 hn8 hc (by omega) hI) ?_
 rintro v5 U5 D5 hU5 ⟨rfl,-,rfl⟩
 try rw [List.nil_append]
 repeat (first|refine Qc ?_|refine Qa fun _=>?_|refine w_al fun _=>?_)
 refine Qw rfl rfl (fun h4=>?_) (fun h4=>?_)
 ·have hc8:=hall (dec ((Bx.szl 1048576 (bd X m) n:Int)≤1048576)) fun h5 h6=>by
   rw [Jj,decide_eq_false_iff_not,k1 h6] at h5
   omega
  repeat (first|refine Qc ?_|refine Qa fun _=>?_|refine w_al fun _=>?_)
  exact Qe [] sym rfl (.cons (.tmp rfl) .nil) uc sb (.inl rfl) ⟨⟨_,rfl,hc8⟩,uc,rfl⟩
 ·have hc8:=hall false fun _ h6=>by
   rw [k1 h6] at h4
   omega
  repeat (first|refine Qc ?_|refine Qa fun _=>?_|refine w_al fun _=>?_)
  exact Qe [] sym rfl (.cons (.tmp rfl) .nil) uc sb (.inl rfl) ⟨⟨_,rfl,hc8⟩,uc,rfl⟩
theorem Qam {e x y:Nat→Int}:∀ n,(∀ k,k < n→x k=y k)→mpx e x n=mpx e y n
 | 0,_=>rfl
 | n+1,h=>by
  show mpx e x n*pwr _ _=mpx e y n*pwr _ _
  rw [Qam n fun k hk=>h k (by omega),h n (by omega)]
theorem Qfa {np n:Nat} {e:Nat→Nat→Int} {q:Nat→Rat} {x y:Nat→Int} (h:∀ k,k < n→x k=y k):pex np n e q x=pex np n e q y:=La.sm_congr fun i _=>by rw [Qam n h]
theorem Qbq {n:Nat} {f:Nat→Int} {b b':Nat→Nat} {w w':Nat→Rat} (hb:∀ i,i < n→b i=b' i) (hw:∀ k,w k=w' k) (q:Nat):∀ k,ww n f b w k q=ww n f b' w' k q
 | 0=>rfl
 | k+1=>by
  show (if _ then _ else _)=(if _ then _ else _)
  rw [Qbq hb hw q k,hw k,QbL hb]
theorem Qeg {n P np:Nat} {f:Nat→Int} {e:Nat→Nat→Int} {q:Nat→Rat} {v v':Value} (h:WgtP n f P (pex np n e q) U v) (h':WgtP n f P (pex np n e q) U' v') :
  ∃ (F e:Int) (a a':Value) (K:Nat) (g g':Nat→Rat),v = .tuple #[.agg #[.int .i64 F,a],.int .i64 e]∧v' = .tuple #[.agg #[.int .i64 F,a'],.int .i64 e]∧Ls Vq 4 K U [] a g∧Ls Vq 4 K U' [] a' g'∧K≤P∧∀ i,i < K→g i=g' i:=by
 obtain ⟨X,hX,h1,h2⟩:=h
 obtain ⟨Y,hY,k1,k2⟩:=h'
 have hb:∀ i,i < n→bd X (P - 1) i=bd Y (P - 1) i:=fun i hi=>QdD hX hY hi
 have hp:=qG hb
 have hww:∀ N q',ww n f (bd X (P - 1)) (fun k=>pex np n e q (Bx.vec (bd X (P - 1)) n k)) N q'=ww n f (bd Y (P - 1)) (fun k=>pex np n e q (Bx.vec (bd Y (P - 1)) n k)) N q':=fun N q'=>Qbq hb (fun k=>Qfa fun i hi=>Qat hb hi) q' N
 rcases Nat.lt_or_ge 1048576 (Bx.pre (bd X (P - 1)) n) with hl | hl
 ·exact ⟨0,7,_,_,0,fun _=>0,fun _=>0,h2 hl,k2 (by rw [← hp]; exact hl),⟨_,_,[],rfl,Nat.le_refl 0,RowAt.nil,El.nil⟩,⟨_,_,[],rfl,Nat.le_refl 0,RowAt.nil,El.nil⟩,Nat.zero_le P,fun i hi=>absurd hi (Nat.not_lt_zero i)⟩
 ·obtain ⟨s,_,e1,rfl,a,rfl,e3⟩:=h1 hl
  obtain ⟨s',_,e4,rfl,a',rfl,e6⟩:=k1 (by rw [← hp]; exact hl)
  have hfe:ww n f (bd X (P - 1)) (fun k=>pex np n e q (Bx.vec (bd X (P - 1)) n k)) (Bx.pre (bd X (P - 1)) n)=ww n f (bd Y (P - 1)) (fun k=>pex np n e q (Bx.vec (bd Y (P - 1)) n k)) (Bx.pre (bd Y (P - 1)) n):=funext fun q'=>by rw [hww,hp]
  rw [hfe] at e1
  obtain rfl:=e1.uniq e4
  exact ⟨_,_,a,a',_,_,_,rfl,rfl,e3,e6,by omega,fun i _=>by rw [hfe]⟩
def WgtA (r prec:Int) (N:Nat) (f:Nat→Int) (np:Nat) (ne:Nat→Nat) (e:Nat→Nat→Int) (q:Nat→Rat) (U:UH) (v:Value):Prop :=
 (chk r N f≠0→v = .tuple #[.agg #[.int .i64 0,.slice none 0 0],.int .i64 (chk r N f)]) ∧
   (∀ n:Nat,r=(n:Int)→chk r N f=0→((prec < 0∨1000 < prec)→v = .tuple #[.agg #[.int .i64 0,.slice none 0 0],.int .i64 2])∧(∀ P:Nat,prec=(P:Int)→P≤1000 →
    (perr n np ne e≠0→v = .tuple #[.agg #[.int .i64 0,.slice none 0 0],.int .i64 (perr n np ne e)])∧(perr n np ne e=0→WgtP n f P (pex np n e q) U v)))
theorem Qal {r prec:Int} {N np:Nat} {f:Nat→Int} {ne:Nat→Nat} {e:Nat→Nat→Int} {q:Nat→Rat} {v v':Value} (h:WgtA r prec N f np ne e q U v) (h':WgtA r prec N f np ne e q U' v') :
  ∃ (F e:Int) (a a':Value) (K:Nat) (g g':Nat→Rat),v = .tuple #[.agg #[.int .i64 F,a],.int .i64 e]∧v' = .tuple #[.agg #[.int .i64 F,a'],.int .i64 e]∧Ls Vq 4 K U [] a g∧Ls Vq 4 K U' [] a' g'∧K≤1000∧∀ i,i < K→g i=g' i:=by
 have nl:∀ (U:UH),Ls Vq 4 0 U [] (.slice none 0 0) (fun _=>(0:Rat)):=fun U=>⟨_,_,[],rfl,Nat.le_refl 0,RowAt.nil,El.nil⟩
 obtain ⟨h1,h2⟩:=h
 obtain ⟨k1,k2⟩:=h'
 by_cases hc:chk r N f=0
 ·obtain ⟨n,rfl,-⟩:=Jm hc
  obtain ⟨a1,a2⟩:=h2 n rfl hc
  obtain ⟨b1,b2⟩:=k2 n rfl hc
  by_cases e1:prec < 0∨1000 < prec
  ·exact ⟨_,_,_,_,0,_,_,a1 e1,b1 e1,nl _,nl _,by decide,fun i hi=>absurd hi (Nat.not_lt_zero i)⟩
  ·obtain ⟨P,rfl⟩:∃ k:Nat,prec=(k:Int):=⟨prec.toNat,by omega⟩
   obtain ⟨c1,c2⟩:=a2 P rfl (by omega)
   obtain ⟨d1,d2⟩:=b2 P rfl (by omega)
   by_cases e2:perr n np ne e=0
   ·obtain ⟨F,e',a,a',K,g,g',j1,j2,j3,j4,j5,j6⟩:=Qeg (c2 e2) (d2 e2)
    exact ⟨F,e',a,a',K,g,g',j1,j2,j3,j4,by omega,j6⟩
   ·exact ⟨_,_,_,_,0,_,_,c1 e2,d1 e2,nl _,nl _,by decide,fun i hi=>absurd hi (Nat.not_lt_zero i)⟩
 ·exact ⟨_,_,_,_,0,_,_,h1 hc,k1 hc,nl _,nl _,by decide,fun i hi=>absurd hi (Nat.not_lt_zero i)⟩
theorem QcR {r prec:Int} {N np:Nat} {f:Nat→Int} {ne:Nat→Nat} {e:Nat→Nat→Int} {q:Nat→Rat} {v:Value} (h:WgtA r prec N f np ne e q U v):∃ (F:Int) (q:Option Addr) (w c:Nat) (e:Int),v = .tuple #[.agg #[.int .i64 F,.slice q w c],.int .i64 e]:=by
 obtain ⟨F,e,a,a',K,g,g',h1,-,⟨q,c,xs,rfl,-⟩,-⟩:=Qal h h
 exact ⟨_,_,_,_,_,h1⟩
theorem QgR {n np:Nat} {e:Nat→Nat→Int} {q:Nat→Rat} {X Y:Nat→Nat→Rat} (h:∀ i j,i < n→j < n→X i j=Y i j):Hm n np e q X↔Hm n np e q Y:=by
 have h1:∀ κ μ,ttm n X κ μ=ttm n Y κ μ:=fun κ μ=>La.sm_congr fun a ha=>La.sm_congr fun b hb=>by
  unfold tmk
  rw [h a b ha hb]
 unfold Hm
 refine and_congr Iff.rfl (forall_congr' fun μ=>forall_congr' fun _=>?_)
 rw [La.sm_congr (g:=fun j=>q j*ttm n Y (kyl n (e j)) μ) fun j _=>by rw [h1]]
def HrmA (r:Int) (N:Nat) (f:Nat→Int) (np:Nat) (ne:Nat→Nat) (e:Nat→Nat→Int) (q:Nat→Rat) (v:Value):Prop :=
 (chk r N f≠0→v = .tuple #[.bool false,.int .i64 (chk r N f)]) ∧
   (∀ n:Nat,r=(n:Int)→chk r N f=0→(perr n np ne e≠0→v = .tuple #[.bool false,.int .i64 (perr n np ne e)])∧(perr n np ne e=0→∃ X,Inv n f X∧∃ hb:Bool,v = .tuple #[.bool hb,.int .i64 0]∧(hb=true↔Hm n np e q X)))
theorem QbS {r:Int} {N np:Nat} {f:Nat→Int} {ne:Nat→Nat} {e:Nat→Nat→Int} {q:Nat→Rat} {v v':Value} (h:HrmA r N f np ne e q v) (h':HrmA r N f np ne e q v') :
  ∃ (b:Bool) (e:Int),v = .tuple #[.bool b,.int .i64 e]∧v' = .tuple #[.bool b,.int .i64 e]:=by
 by_cases hc:chk r N f=0
 ·obtain ⟨n,rfl,-⟩:=Jm hc
  obtain ⟨a1,a2⟩:=h.2 n rfl hc
  obtain ⟨b1,b2⟩:=h'.2 n rfl hc
  by_cases e2:perr n np ne e=0
  ·obtain ⟨X,hX,b,rfl,hb⟩:=a2 e2
   obtain ⟨Y,hY,b',rfl,hb'⟩:=b2 e2
   have h1:b=true↔b'=true:=hb.trans ((QgR fun i j hi hj=>hX.uniq hY hi hj).trans hb'.symm)
   have h2:b=b':=by
    cases b<;>cases b'<;>simp at h1 ⊢
   exact ⟨b,0,rfl,by rw [h2]⟩
  ·exact ⟨_,_,a1 e2,b1 e2⟩
 ·exact ⟨_,_,h.1 hc,h'.1 hc⟩
theorem QeM {n np P:Nat} {f:Nat→Int} {ne:Nat→Nat} {e:Nat→Nat→Int} {q:Nat→Rat} (hn:n≤8) (hf:Fit np n ne e) (h12:np≤12) (hq:∀ i,i < np→Szq (q i) 2) (hbr:∀ X,Inv n f X→Bx.pre (bd X (P - 1)) n≤1048576→Bx.pre (bd X (P - 1)) n≤600) :
  WSz n f P 400000 (pex np n e q):=fun X hX hpre k hk=>by
 have h600:=hbr X hX hpre
 obtain ⟨b,hb⟩:∃ b,b=bd X (P - 1):=⟨_,rfl⟩
 rw [← hb] at hpre hk h600 ⊢
 have hv:∀ k t,t < n → -1048576≤Bx.vec b n k t∧Bx.vec b n k t≤1048576:=fun k t ht=>by
  have h1:=qF ht hpre
  have h2:=Bx.vec_le b n k t
  omega
 have hw:∀ k,Szq (pex np n e q (Bx.vec b n k)) 625:=fun k=>by
  refine (vh (k:=2+49) fun t ht=>?_).mono ?_
  ·have h1:=QcX (e:=e t) (hv k) n (Nat.le_refl n)
   have h2:=jc (e:=e t) (k:=n) (hf.2 t (by omega)).2
   rw [← yz]
   exact (hq t (by omega)).mul ((Jx h1 (by omega)).mono (by omega))
  ·have:=Nat.mul_le_mul_right (2+49+1) h12
   omega
 have hww:∀ j q',Szq (ww n f b (fun k=>pex np n e q (Bx.vec b n k)) j q') (1+j*626):=fun j q'=>by
  induction j with
  | zero=>exact Yn
  | succ j ih =>
   show Szq (if _ then _ else _) _
   split
   ·exact (ih.add (hw j)).mono (by omega)
   ·exact ih.mono (by omega)
 exact ⟨(hw k).mono (by decide),fun q'=>(hww (k+1) q').mono (by omega)⟩
end Go.Proofs.YthnnlgjlhnmhnaaGreat

/- The law ThetaHarmonic. -/
namespace Go.Proofs.YthnnlgjlhnmhnaaGreat
open Go.Hp
variable {G:World} {U U':UH} {M:MH}
def MonR (U:UH) (v:Value) (ne:Nat) (e:Nat→Int) (q:Rat) (a b:Nat):Prop :=
 ∃ (pe:Option Addr) (ce:Nat) (xs:List Value) (x:QV),v = .agg #[.slice pe ne ce,.bool x.num.neg,.slice x.num.p x.num.n x.num.c,.bool x.den.neg,.slice x.den.p x.den.n x.den.c]∧ne≤ce∧ne≤9223372036854775807∧RowAt U [] 1 pe ne xs∧El Vz U xs e∧x.rep U [] q∧x.num.n=a∧x.den.n=b∧a≤9223372036854775807∧b≤9223372036854775807
structure RawPoly (U:UH) (v:Value) (r prec:Int) (N np:Nat) (f:Nat→Int) (ne:Nat→Nat) (e:Nat→Nat→Int) (q:Nat→Rat) (la lb:Nat→Nat):Prop where
 prc : -9223372036854775808≤prec∧prec≤9223372036854775807
 num:np≤9223372036854775807
 elt:∃ (p:Option Addr) (c:Nat) (pp:Option Addr) (cp:Nat) (ms:List Value),v = .agg #[.int .i64 r,.slice p N c,.slice pp np cp,.int .i64 prec]∧RawG U (.agg #[.int .i64 r,.slice p N c]) r N f∧np≤cp∧RowAt U [] 5 pp np ms∧∀ i u,ms[i]?=some u→MonR U u (ne i) (e i) (q i) (la i) (lb i)
set_option maxHeartbeats 2000000 in
theorem QgC {r prec:Int} {N np c cp:Nat} {p pp:Option Addr} {ms:List Value} {ne:Nat→Nat} {e:Nat→Nat→Int} {q:Nat→Rat} {la lb:Nat→Nat} (hnp:np≤9223372036854775807) (rm:RowAt U [] 5 pp np ms) (em:∀ i u,ms[i]?=some u→MonR U u (ne i) (e i) (q i) (la i) (lb i)) :
  Ct Tryz.prog 4 [.agg #[.int .i64 r,.slice p N c,.slice pp np cp,.int .i64 prec]] G U M fun v U' D=>(∃ b:Bool,v = .bool b∧(b=false→(∀ i,i < np→ne i≤20∧la i≤2∧lb i≤2)∧(np≤12∨60 < np)∧N≤64))∧U=U'∧D=[]:=by
 refine Qh Tryz.func4 rfl rfl rfl rfl ?_
 repeat (first|refine Qc ?_|refine Qa fun _=>?_|refine w_al fun _=>?_)
 rename_i b1
 try refine Qu (M':=(b1,.var (.agg #[.int .i64 r,.slice p N c,.slice pp np cp,.int .i64 prec]),27)::M) (ULe.refl _) sbk ?_
 refine Ql (fun z E U' M'=>∃ (i:Nat),i≤np∧U=U'∧(∀ j,j < i→ne j≤20∧la j≤2∧lb j≤2)∧E=[(3,.int .i64 (i:Int)),(1,.pointer (some ⟨b1,0,none⟩))]∧ULe U U'∧M'=(b1,.var (.agg #[.int .i64 r,.slice p N c,.slice pp np cp,.int .i64 prec]),27)::M∧z=np - i) (n0:=np - 0) (E0:=[(3,.int .i64 ((0:Nat):Int)),(1,.pointer (some ⟨b1,0,none⟩))]) ⟨rfl,rfl,trivial⟩ ⟨0,by omega,rfl,(fun j h=>absurd h (Nat.not_lt_zero j)),rfl,uc,rfl,rfl⟩ ?_
 rintro z E U1 M' ⟨i,hi,rfl,hall,rfl,hU1,rfl,rfl⟩
 try refine Qb ?_
 refine Qi rfl (fun h=>?_) (fun h=>?_)
 ·have hin:i < np:=by omega
  obtain ⟨v1,hv1⟩:=rm.at hin
  obtain ⟨pe,ce,xs,x,rfl,hce,hne,-,-,-,hla,hlb,hla2,hlb2⟩:=em _ _ hv1
  have hdone:∀ b:Bool,(b=false→False)→b=false→(∀ i,i < np→ne i≤20∧la i≤2∧lb i≤2)∧(np≤12∨60 < np)∧N≤64:=fun b h1 h2=>(h1 h2).elim
  try refine Qb ?_
  refine QB (j:=i) hin (rm.get _ _ hv1).1 ?_
  try refine Qb ?_
  refine sl_y (Jc (j:=0) (u := .slice pe (ne i) ce) sym rfl rfl (by rw [QX]) rfl rfl (rm.up uc sb) hv1 rfl) rfl rfl rfl rfl ?_
  try refine Qb ?_
  refine Qw rfl rfl (fun h2=>?_) (fun h2=>?_)
  ·repeat (first|refine Qc ?_|refine Qa fun _=>?_|refine w_al fun _=>?_)
   exact Qe [] sym rfl (.cons (.tmp rfl) .nil) uc sb (.inl rfl) ⟨⟨true,rfl,hdone _ (fun h=>by cases h)⟩,rfl,rfl⟩
  ·try refine Qb ?_
   refine QB (j:=i) hin (rm.get _ _ hv1).1 ?_
   try refine Qb ?_
   refine sl_y (Jc (j:=2) (u := .slice x.num.p x.num.n x.num.c) sym rfl rfl (by rw [QX,QX,QX]) rfl rfl (rm.up uc sb) hv1 rfl) rfl rfl rfl rfl ?_
   try refine Qb ?_
   refine Qw rfl rfl (fun h3=>?_) (fun h3=>?_)
   ·repeat (first|refine Qc ?_|refine Qa fun _=>?_|refine w_al fun _=>?_)
    exact Qe [] sym rfl (.cons (.tmp rfl) .nil) uc sb (.inl rfl) ⟨⟨true,rfl,hdone _ (fun h=>by cases h)⟩,rfl,rfl⟩
   ·try refine Qb ?_
    refine QB (j:=i) hin (rm.get _ _ hv1).1 ?_
    try refine Qb ?_
    refine sl_y (Jc (j:=4) (u := .slice x.den.p x.den.n x.den.c) sym rfl rfl (by rw [QX,QX,QX]) rfl rfl (rm.up uc sb) hv1 rfl) rfl rfl rfl rfl ?_
    try refine Qb ?_
    refine Qi rfl (fun h4=>?_) (fun h4=>?_)
    ·repeat (first|refine Qc ?_|refine Qa fun _=>?_|refine w_al fun _=>?_)
     exact Qe [] sym rfl (.cons (.tmp rfl) .nil) uc sb (.inl rfl) ⟨⟨true,rfl,hdone _ (fun h=>by cases h)⟩,rfl,rfl⟩
    ·try refine Qb ?_
     exact Qg (E':=[(3,.int .i64 ((i:Int)+1)),(1,.pointer (some ⟨b1,0,none⟩))]) (m:=np - (i+1)) ⟨rfl,rfl,trivial⟩ (by omega) ⟨i+1,by omega,rfl,(fun j hj=>by
      rcases Nat.lt_or_eq_of_le (Nat.le_of_lt_succ hj) with h5 | h5
      ·exact hall j h5
      ·rw [h5]; exact ⟨by omega,by omega,by omega⟩),rfl,uc,rfl,rfl⟩
 ·obtain rfl:np=i:=by omega
  try refine Qb ?_
  refine Qw rfl rfl (fun h2=>?_) (fun h2=>?_)
  ·try refine Qb ?_
   refine Qw rfl rfl (fun h3=>?_) (fun h3=>?_)
   ·repeat (first|refine Qc ?_|refine Qa fun _=>?_|refine w_al fun _=>?_)
    exact Qe [] sym rfl (.cons (.tmp rfl) .nil) uc sb (.inl rfl) ⟨⟨true,rfl,(fun h=>by cases h)⟩,rfl,rfl⟩
   ·repeat (first|refine Qc ?_|refine Qa fun _=>?_|refine w_al fun _=>?_)
    refine Qd rfl rfl rfl rfl rfl rfl (fun _=>Qar) ?_
    rintro v U' D hU ⟨rfl,rfl,rfl⟩
    repeat (first|refine Qc ?_|refine Qa fun _=>?_|refine w_al fun _=>?_)
    repeat (first|refine Qc ?_|refine Qa fun _=>?_|refine w_al fun _=>?_)
    exact Qe [] sym rfl (.cons (.tmp rfl) .nil) uc sb (.inl rfl) ⟨⟨_,rfl,fun h5=>⟨hall,.inr (by omega),by have:=of_decide_eq_false h5; omega⟩⟩,rfl,rfl⟩
  ·repeat (first|refine Qc ?_|refine Qa fun _=>?_|refine w_al fun _=>?_)
   refine Qd rfl rfl rfl rfl rfl rfl (fun _=>Qar) ?_
   rintro v U' D hU ⟨rfl,rfl,rfl⟩
   repeat (first|refine Qc ?_|refine Qa fun _=>?_|refine w_al fun _=>?_)
   repeat (first|refine Qc ?_|refine Qa fun _=>?_|refine w_al fun _=>?_)
   exact Qe [] sym rfl (.cons (.tmp rfl) .nil) uc sb (.inl rfl) ⟨⟨_,rfl,fun h5=>⟨hall,.inl (by omega),by have:=of_decide_eq_false h5; omega⟩⟩,rfl,rfl⟩
set_option maxHeartbeats 4000000 in
theorem jV {v:Value} {r prec:Int} {N np:Nat} {f:Nat→Int} {ne:Nat→Nat} {e:Nat→Nat→Int} {q:Nat→Rat} {la lb:Nat→Nat} (hg:RawPoly U v r prec N np f ne e q la lb) :
  Ct Tryz.prog 3 [v] G U M fun v _ _=>v = .bool true:=by
 obtain ⟨hpr,hnp,p,c,pp,cp,ms,rfl,⟨hr,hNm,a,ha,hls⟩,hcp,rm,em⟩:=hg
 obtain rfl:Value.slice p N c=a:=by cases ha; rfl
 obtain ⟨p',c',vs,hpe,hc,rw1,el⟩:=hls
 obtain ⟨rfl,rfl⟩:p=p'∧c=c':=by cases hpe; exact ⟨rfl,rfl⟩
 clear ha hpe
 refine Qh Tryz.func3 rfl rfl rfl rfl ?_
 repeat (first|refine Qc ?_|refine Qa fun _=>?_|refine w_al fun _=>?_)
 rename_i b1
 refine Qd rfl rfl rfl rfl rfl rfl (fun _=>QgC (q:=q) hnp (rm.up uc (List.Sublist.refl _)) (fun i u hu=>em i u hu)) ?_
 rintro v9 U9 D9 hU9 ⟨⟨bg,rfl,hbg⟩,rfl,rfl⟩
 try rw [List.nil_append]
 cases bg
 case true =>
  repeat (first|refine Qc ?_|refine Qa fun _=>?_|refine w_al fun _=>?_)
  refine Qd rfl rfl rfl rfl rfl rfl (fun _=>VW) ?_
  rintro v8 U8 D8 hU8 ⟨rfl,-,rfl⟩
  try rw [List.nil_append]
  repeat (first|refine Qc ?_|refine Qa fun _=>?_|refine w_al fun _=>?_)
  exact Qe [] sym rfl (.cons (.tmp rfl) .nil) uc sb (.inl rfl) rfl
 obtain ⟨hlen,h12,h64⟩:=hbg rfl
 clear hbg
 have hpol:Pol 2 U [] (.slice pp np cp) np ne e q:=⟨pp,cp,ms,rfl,hcp,rm,fun i u hu=>by
  obtain ⟨pe,ce,xs,x,h1,h2,-,h3,h4,h5,h6,h7,-,-⟩:=em i u hu
  obtain ⟨-,h8,h9⟩:=hlen i (rm.lt hu)
  exact ⟨pe,ce,xs,x,h1,h2,h3,h4,h5,by omega,by omega⟩⟩
 have hne:∀ i,i < np→ne i≤9223372036854775807:=fun i hi=>by have:=(hlen i hi).1; omega
 have hm0:∀ P:Nat,prec=(P:Int)→P≤1000→(if IntKind.i64.wrap (prec - 1) > 0 then IntKind.i64.wrap (prec - 1) else 0)=((P - 1:Nat):Int):=fun P e1 e2=>by
  rw [e1]
  cases P with
  | zero =>
   have:IntKind.i64.wrap (((0:Nat):Int) - 1) = -1:=by decide
   rw [this]; rfl
  | succ P =>
   rw [Jg (by omega) (by show _≤(9223372036854775807:Int); omega)]
   split<;>omega
 repeat (first|refine Qc ?_|refine Qa fun _=>?_|refine w_al fun _=>?_)
 obtain ⟨m0,hm0'⟩:∃ m0,m0=(if IntKind.i64.wrap (prec - 1) > 0 then IntKind.i64.wrap (prec - 1) else 0):=⟨_,rfl⟩
 rw [← hm0'] at hm0 ⊢
 clear hm0'
 refine Qd rfl rfl rfl rfl rfl rfl (fun _=>QeC (rw1.up uc (List.nil_sublist _)) (el.up KeptC.out uc) hc hNm) ?_
 rintro v1 U1 D1 hU1 ⟨⟨bb,rfl,hbb⟩,-,rfl⟩
 try rw [List.nil_append]
 cases bb
 case true =>
  repeat (first|refine Qc ?_|refine Qa fun _=>?_|refine w_al fun _=>?_)
  refine Qd rfl rfl rfl rfl rfl rfl (fun _=>VW) ?_
  rintro v8 U8 D8 hU8 ⟨rfl,-,rfl⟩
  try rw [List.nil_append]
  repeat (first|refine Qc ?_|refine Qa fun _=>?_|refine w_al fun _=>?_)
  exact Qe [] sym rfl (.cons (.tmp rfl) .nil) uc sb (.inl rfl) rfl
 have hwz:∀ n P:Nat,r=(n:Int)→chk r N f=0→prec=(P:Int)→P≤1000→Fit np n ne e→WSz n f P 400000 (pex np n e q):=fun n P e1 e2 e3 e4 hf=>by
  obtain ⟨n',e5,hn1,hn8,-⟩:=Jm e2
  obtain rfl:n=n':=Int.ofNat.inj (e1.symm.trans e5)
  have h60:=hf.1
  exact QeM hn8 hf (by omega) (QcZ hpol (by decide)) fun X hX hpre=>by
   have:=hbb rfl e2 (P - 1) (hm0 P e3 e4) (by omega) n e1 X hX hpre
   omega
 clear hbb hm0
 repeat (first|refine Qc ?_|refine Qa fun _=>?_|refine w_al fun _=>?_)
 refine Qd rfl rfl rfl rfl rfl rfl (fun _=>QaU (rw1.up uc (List.nil_sublist _)) (el.up KeptC.out uc) hNm (hpol.up uc (List.Sublist.refl _)) hnp hne (by decide) (by decide)) ?_
 rintro v2 U2 D2 hU2 ⟨a1,a2,rfl⟩
 try rw [List.nil_append]
 have hA:HrmA r N f np ne e q v2:=⟨a1,a2⟩
 clear a1 a2
 obtain ⟨b2,e2,rfl,-⟩:=QbS hA hA
 repeat (first|refine Qc ?_|refine Qa fun _=>?_|refine w_al fun _=>?_)
 refine Qd rfl rfl rfl rfl rfl rfl (fun _=>ve (rw1.up uc (List.nil_sublist _)) (el.up KeptC.out uc) hc hNm (hpol.up uc (List.Sublist.refl _)) hnp hne (by decide) (by decide)) ?_
 rintro v3 U3 D3 hU3 ⟨a1,a2,rfl⟩
 try rw [List.nil_append]
 have hB:HrmA r N f np ne e q v3:=⟨a1,fun n e1 e2=>⟨(a2 n e1 e2).1,fun e3=>by
  obtain ⟨X,hX,hb,h1,h2⟩:=(a2 n e1 e2).2 e3
  obtain ⟨n',e5,hn1,hn8,-⟩:=Jm e2
  obtain rfl:n=n':=Int.ofNat.inj (e1.symm.trans e5)
  exact ⟨X,hX,hb,h1,h2.trans (QiA hn8 (VH e3))⟩⟩⟩
 clear a1 a2
 obtain ⟨b3,e3,k1,rfl⟩:=QbS hA hB
 obtain ⟨rfl,rfl⟩:b2=b3∧e2=e3:=by cases k1; exact ⟨rfl,rfl⟩
 clear hA hB k1
 repeat (first|refine Qc ?_|refine Qa fun _=>?_|refine w_al fun _=>?_)
 refine Qd rfl rfl rfl rfl rfl rfl (fun _=>QaZ (B:=400000) (rw1.up uc (List.nil_sublist _)) (el.up KeptC.out uc) hNm hpr (hpol.up uc (List.nil_sublist _)) hnp hne (by decide) (by decide) (by decide) (by decide) hwz) ?_
 rintro v4 U4 D4 hU4 ⟨a1,a2,rfl⟩
 try rw [List.nil_append]
 have hA:WgtA r prec N f np ne e q U4 v4:=⟨a1,a2⟩
 clear a1 a2
 obtain ⟨F4,q4,w4,c4,e4,rfl⟩:=QcR hA
 repeat (first|refine Qc ?_|refine Qa fun _=>?_|refine w_al fun _=>?_)
 rename_i b7
 refine Qd rfl rfl rfl rfl rfl rfl (fun _=>yu (B:=400000) (rw1.up uc (List.nil_sublist _)) (el.up KeptC.out uc) hc hNm hpr (hpol.up uc (List.nil_sublist _)) hnp hne (by decide) (by decide) (by decide) (by decide) hwz) ?_
 rintro v5 U5 D5 hU5 ⟨a1,a2,rfl⟩
 try rw [List.nil_append]
 have hB:WgtA r prec N f np ne e q U5 v5:=⟨a1,a2⟩
 clear a1 a2
 obtain ⟨F,e0,a,a',K,g,g',g1,g2,g3,g4,g5,g6⟩:=Qal hA hB
 obtain ⟨q3,c3,xs3,rfl,-⟩:=id g4
 obtain ⟨q5,c5,xs5,rfl,-⟩:=id g3
 obtain ⟨rfl,rfl,rfl,rfl,rfl⟩:F4=F∧q4=q5∧w4=K∧c4=c5∧e4=e0:=by cases g1; exact ⟨rfl,rfl,rfl,rfl,rfl⟩
 clear g1
 subst g2
 cases b2
 case true =>
  repeat (first|refine Qc ?_|refine Qa fun _=>?_|refine w_al fun _=>?_)
  refine Qw rfl rfl (fun _=>?_) (fun h=>absurd rfl h)
  repeat (first|refine Qc ?_|refine Qa fun _=>?_|refine w_al fun _=>?_)
  refine Qd rfl rfl rfl rfl rfl rfl (fun _=>YX ⟨_,rfl,Ls.up g3 QF uc (List.nil_sublist _)⟩ ⟨_,rfl,Ls.up g4 QF uc (List.nil_sublist _)⟩ (by omega) (by omega)) ?_
  rintro v9 U9 D9 hU9 ⟨bb,rfl,hbb,rfl,rfl⟩
  obtain rfl:=hbb.2 ⟨rfl,rfl,g6⟩
  rw [List.nil_append]
  repeat (first|refine Qc ?_|refine Qa fun _=>?_|refine w_al fun _=>?_)
  refine Qw rfl rfl (fun _=>?_) (fun h=>absurd rfl h)
  repeat (first|refine Qc ?_|refine Qa fun _=>?_|refine w_al fun _=>?_)
  refine Qd rfl rfl rfl rfl rfl rfl (fun _=>VW) ?_
  rintro v8 U8 D8 hU8 ⟨rfl,-,rfl⟩
  try rw [List.nil_append]
  repeat (first|refine Qc ?_|refine Qa fun _=>?_|refine w_al fun _=>?_)
  exact Qe [] sym rfl (.cons (.tmp rfl) .nil) uc sb (.inl rfl) rfl
 case false =>
  repeat (first|refine Qc ?_|refine Qa fun _=>?_|refine w_al fun _=>?_)
  refine Qw rfl rfl (fun _=>?_) (fun h=>absurd rfl h)
  repeat (first|refine Qc ?_|refine Qa fun _=>?_|refine w_al fun _=>?_)
  refine Qd rfl rfl rfl rfl rfl rfl (fun _=>YX ⟨_,rfl,Ls.up g3 QF uc (List.nil_sublist _)⟩ ⟨_,rfl,Ls.up g4 QF uc (List.nil_sublist _)⟩ (by omega) (by omega)) ?_
  rintro v9 U9 D9 hU9 ⟨bb,rfl,hbb,rfl,rfl⟩
  obtain rfl:=hbb.2 ⟨rfl,rfl,g6⟩
  rw [List.nil_append]
  repeat (first|refine Qc ?_|refine Qa fun _=>?_|refine w_al fun _=>?_)
  refine Qw rfl rfl (fun _=>?_) (fun h=>absurd rfl h)
  repeat (first|refine Qc ?_|refine Qa fun _=>?_|refine w_al fun _=>?_)
  refine Qd rfl rfl rfl rfl rfl rfl (fun _=>VW) ?_
  rintro v8 U8 D8 hU8 ⟨rfl,-,rfl⟩
  try rw [List.nil_append]
  repeat (first|refine Qc ?_|refine Qa fun _=>?_|refine w_al fun _=>?_)
  exact Qe [] sym rfl (.cons (.tmp rfl) .nil) uc sb (.inl rfl) rfl
end Go.Proofs.YthnnlgjlhnmhnaaGreat

/- From a law's contract to its row: polynomials with a form as arguments. -/
namespace Go.Proofs.YthnnlgjlhnmhnaaGreat
open Go.Hp Go.ChangeShapes Go.WideShapes Go.ChangeAt Go.RowKit Go.Joins
section
variable {H:Type} {enc:TypeId × Value→H}
structure MoV where
 v:Value
 ne:Nat
 e:Nat→Int
 q:Rat
 la:Nat
 lb:Nat
theorem Qgz {W:World} {fuel:Nat} {c0 c1 c2 c3 c4:Value} {y:DataW H × List MemPlace} (h:DataW.trod enc Tryz.prog W 0 (fun _=>true) true fuel 50 [c0,c1,c2,c3,c4]=some y) :
  ∃ m:MoV,m.v = .agg #[c0,c1,c2,c3,c4]∧MonR (UW W) m.v m.ne m.e m.q m.la m.lb:=by
 obtain ⟨y0,y1,m,_,_,h0,h1⟩:=trod_struct2 Tryz.underlying50 h
 have k1:Tryz.prog.cellsOf 22=1:=by kernel_rfl
 simp only [k1,cellsQ,List.drop_zero,List.take_succ_cons,List.take_zero,List.drop_succ_cons] at h0 h1
 obtain ⟨p,n,cc,vs,f,rfl,hn,hc,hr,he⟩:=Qdo h0
 obtain ⟨x,q,rfl,rfl,rfl,rfl,hx⟩:=QgA h1
 obtain ⟨z,w,⟨l1,d1,-⟩,⟨l2,d2,-⟩,-⟩:=id hx
 have b1:=d1.cap
 have b2:=d1.capm
 have b3:=d2.cap
 have b4:=d2.capm
 exact ⟨⟨_,n,f,q,x.num.n,x.den.n⟩,rfl,p,cc,vs,x,rfl,hn,Nat.le_trans hn hc,hr,he,hx,rfl,rfl,Nat.le_trans b1 b2,Nat.le_trans b3 b4⟩
theorem QeQ {W:World} {fuel:Nat} {c0:Value} {y:DataW H × List MemPlace} (h:DataW.trod enc Tryz.prog W 0 (fun _=>true) true fuel 25 [c0]=some y) :
  ∃ (p:Option Addr) (n c:Nat) (vs:List Value) (m:Nat→MoV),c0 = .slice p n c∧n≤c∧c≤9223372036854775807∧RowAt (UW W) [] 5 p n vs∧∀ i u,vs[i]?=some u→MonR (UW W) u (m i).ne (m i).e (m i).q (m i).la (m i).lb:=by
 have inh:Inhabited MoV:=⟨⟨.int .i64 0,0,fun _=>0,0,0,0⟩⟩
 rcases Go.Deep.open_slice Tryz.underlying25 h with ⟨hcs,-⟩ | ⟨a,len,cap,m,k,D,Pl,hcs,-,hl,hm,hmm,-,hx⟩
 ·simp only [List.cons.injEq,and_true] at hcs
  subst hcs
  exact ⟨none,0,0,[],fun _=>default,rfl,Nat.le_refl 0,by omega,RowAt.nil,fun i u hu=>by cases hu⟩
 ·simp only [List.cons.injEq,and_true] at hcs
  subst hcs
  simp only [if_true] at hmm
  subst hmm
  have k5:Tryz.prog.cellsOf 50=5:=by kernel_rfl
  have each:∀ i,i < len→∃ q:MoV,MonR (UW W) q.v q.ne q.e q.q q.la q.lb∧q.v.cells.toList.length=5∧∀ j x,q.v.cells.toList[j]?=some x→W.cell? (a.add (i*5+j))=some x:=by
   intro i hi
   obtain ⟨cs',h1,h2⟩:=hx i (by omega)
   rw [k5] at h1
   obtain ⟨-,hlen,hcell⟩:=World.cells?_some h1
   match cs',hlen with
   | [c0,c1,c2,c3,c4],_ =>
    obtain ⟨q,hv,hq⟩:=Qgz h2
    refine ⟨q,hq,by rw [hv]; rfl,fun j u hu=>?_⟩
    rw [hv] at hu
    have hj:j < 5:=(List.getElem?_eq_some_iff.1 hu).1
    rw [← yC,hcell j hj]
    exact hu
  obtain ⟨q,hq⟩:=Go.Deep.choose_lt each
  refine ⟨some a,len,m,(List.range len).map fun i=>(q i).v,q,rfl,hl,by simpa [maxLen] using hm,⟨by simp,fun v hv=>?_,fun i v hi=>?_⟩,fun i v hi=>?_⟩
  ·obtain ⟨i,hi,rfl⟩:=List.mem_map.1 hv
   exact (hq i (List.mem_range.1 hi)).2.1
  ·rw [List.getElem?_map] at hi
   obtain ⟨i',hi1,rfl⟩:=Option.map_eq_some_iff.1 hi
   obtain ⟨hlt,hie⟩:=List.getElem?_eq_some_iff.1 hi1
   simp only [List.length_range] at hlt
   simp only [List.getElem_range] at hie
   subst hie
   exact ⟨rfl,fun j x hx' G w hw=>hw.cellU (QaH ((hq i hlt).2.2 j x hx'))⟩
  ·rw [List.getElem?_map] at hi
   obtain ⟨i',hi1,rfl⟩:=Option.map_eq_some_iff.1 hi
   obtain ⟨hlt,hie⟩:=List.getElem?_eq_some_iff.1 hi1
   simp only [List.length_range] at hlt
   simp only [List.getElem_range] at hie
   subst hie
   exact (hq i hlt).1
set_option maxRecDepth 100000 in
theorem QeY {W:World} {r:Reach} {b0:Nat} {v:Value} {d:DataW H} {p:List MemPlace} (hv:Value.okWide Tryz.prog W r b0 27 v)
  (h:DataW.Trod enc Tryz.prog W 0 (fun _=>true) true 27 v d p):∃ (r prec:Int) (N np:Nat) (f:Nat→Int) (ne:Nat→Nat) (e:Nat→Nat→Int) (q:Nat→Rat) (la lb:Nat→Nat),RawPoly (UW W) v r prec N np f ne e q la lb:=by
 have kS:Tryz.prog.cellsOf 27=4:=by kernel_rfl
 obtain ⟨cs,rfl,hsz⟩:=okWide_struct Tryz.underlying27 hv
 obtain ⟨c0,c1,c2,c3,rfl⟩:=arr4 _ (hsz.trans kS)
 obtain ⟨fuel,hf⟩:=h
 have hf:DataW.trod enc Tryz.prog W 0 (fun _=>true) true fuel 27 [c0,c1,c2,c3]=some (d,p):=hf
 obtain ⟨y0,y1,y2,m,_,_,h0,h1,h2⟩:=Go.Deep.trod_struct3 Tryz.underlying27 hf
 have k0:Tryz.prog.cellsOf 24=2:=by kernel_rfl
 have k1:Tryz.prog.cellsOf 25=1:=by kernel_rfl
 have k2:Tryz.prog.cellsOf 3=1:=by kernel_rfl
 simp only [k0,k1,k2,List.drop_zero,List.take_succ_cons,List.take_zero,List.drop_succ_cons] at h0 h1 h2
 obtain ⟨r,N,f,hG⟩:=Qhj h0
 obtain ⟨pp,np,cp,ms,mo,rfl,hn,hc,hr,he⟩:=QeQ h1
 obtain ⟨prec,e2,-,w2⟩:=DataW.trod_int Tryz.underlying3 h2
 simp only [List.cons.injEq,and_true] at e2
 subst e2
 obtain ⟨a,ha,hls⟩:=hG.elt
 obtain ⟨rfl,rfl⟩:c0 = .int .i64 r∧c1=a:=by cases ha; exact ⟨rfl,rfl⟩
 obtain ⟨pg,cg,vs,rfl,-⟩:=id hls
 exact ⟨r,prec,N,np,f,fun i=>(mo i).ne,fun i=>(mo i).e,fun i=>(mo i).q,fun i=>(mo i).la,fun i=>(mo i).lb,ya w2,by omega,pg,cg,pp,cp,ms,rfl,hG,hn,hr,he⟩
end
end Go.Proofs.YthnnlgjlhnmhnaaGreat
