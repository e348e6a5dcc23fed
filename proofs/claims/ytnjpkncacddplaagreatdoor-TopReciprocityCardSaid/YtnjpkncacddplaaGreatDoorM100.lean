/- Texts of this seat's own, merged: each begins with its own remark. -/
/- Polynomials over the integers as lists: products, remainders, powers. Plain. -/
namespace Go.Pl
abbrev co (L:List Int) (k:Nat):Int:=L.getD k 0
theorem Ys {f:Nat→Int} {n k:Nat}:co ((List.range n).map f) k=if k < n then f k else 0:=by
 unfold co
 rw [List.getD_eq_getElem?_getD,List.getElem?_map]
 by_cases h:k < n
 ·rw [List.getElem?_range h,if_pos h]; rfl
 ·rw [List.getElem?_eq_none (by simp; omega),if_neg h]; rfl
theorem Ym {L:List Int} {k:Nat} (h:L.length≤k):co L k=0:=by
 unfold co
 rw [List.getD_eq_getElem?_getD,List.getElem?_eq_none h]; rfl
theorem QhK {L:List Int} {m k:Nat}:co (L.take m) k=if k < m then co L k else 0:=by
 unfold co
 rw [List.getD_eq_getElem?_getD,List.getD_eq_getElem?_getD,List.getElem?_take]
 split<;>rfl
theorem ext {L K:List Int} (h:L.length=K.length) (hc:∀ k,k < L.length→co L k=co K k):L=K:=by
 refine List.ext_getElem h fun k h1 h2=>?_
 have:=hc k h1
 unfold co at this
 rw [List.getD_eq_getElem?_getD,List.getD_eq_getElem?_getD,List.getElem?_eq_getElem h1,List.getElem?_eq_getElem h2] at this
 exact this
def trn (g:Nat→Int):Nat→Nat
 | 0=>0
 | n+1=>if g n=0 then trn g n else n+1
theorem JK (g:Nat→Int):∀ n,trn g n≤n
 | 0=>Nat.le_refl 0
 | n+1=>by
  unfold trn
  have:=JK g n
  split<;>omega
theorem QcU (g:Nat→Int):∀ n k,trn g n≤k→k < n→g k=0
 | 0,k,_,h=>absurd h (Nat.not_lt_zero k)
 | n+1,k,h1,h2=>by
  unfold trn at h1
  split at h1
  ·rename_i h0
   rcases Nat.lt_or_ge k n with h | h
   ·exact QcU g n k h1 h
   ·obtain rfl:k=n:=by omega
    exact h0
  ·omega
theorem QcR (g:Nat→Int):∀ n,0 < trn g n→g (trn g n - 1)≠0
 | 0,h=>absurd h (Nat.not_lt_zero 0)
 | n+1,h=>by
  unfold trn at h ⊢
  split
  ·rename_i h0
   rw [if_pos h0] at h
   exact QcR g n h
  ·rename_i h0
   exact h0
theorem yp {g:Nat→Int} {n:Nat} (h:n=0∨g (n - 1)≠0):trn g n=n:=by
 cases n with
 | zero=>rfl
 | succ n =>
  unfold trn
  rw [if_neg]
  rcases h with h | h
  ·omega
  ·exact h
theorem jc {g g':Nat→Int}:∀ {n:Nat},(∀ k,k < n→g k=g' k)→trn g n=trn g' n
 | 0,_=>rfl
 | n+1,h=>by
  unfold trn
  rw [h n (by omega),jc fun k hk=>h k (by omega)]
def trimL (L:List Int):List Int:=L.take (trn (co L) L.length)
theorem QS (L:List Int):(trimL L).length=trn (co L) L.length:=by
 have:=JK (co L) L.length
 unfold trimL
 rw [List.length_take]; omega
theorem Yp (L:List Int) (k:Nat):co (trimL L) k=co L k:=by
 unfold trimL
 rw [QhK]
 split
 ·rfl
 ·rename_i h
  by_cases hk:k < L.length
  ·exact (QcU _ _ _ (by omega) hk).symm
  ·exact (Ym (by omega)).symm
theorem Qek (L:List Int):(trimL L).length=0∨co (trimL L) ((trimL L).length - 1)≠0:=by
 rw [QS,Yp]
 rcases Nat.eq_zero_or_pos (trn (co L) L.length) with h | h
 ·exact .inl h
 ·exact .inr (QcR _ _ h)
theorem Qbf {L:List Int} (h:L.length=0∨co L (L.length - 1)≠0):trimL L=L:=by
 unfold trimL
 rw [yp h,List.take_length]
theorem jp (L:List Int):trimL (trimL L)=trimL L:=Qbf (Qek L)
def pcv (a b:List Int):Nat→Nat→Int
 | 0,_=>0
 | i+1,k=>pcv a b i k+(if i≤k then co a i*co b (k - i) else 0)
def mulL (a b:List Int):List Int:=if a.length=0∨b.length=0 then [] else trimL ((List.range (a.length+b.length - 1)).map (pcv a b a.length))
def stp (F:List Int) (i:Nat) (r:List Int):List Int:=(List.range r.length).map fun k=>co r k - (if i≤k then co r (i+(F.length - 1))*co F (k - i) else 0)
def rdl (F:List Int):Nat→List Int→List Int
 | 0,r=>r
 | i+1,r=>rdl F i (stp F i r)
def remL (F f:List Int):List Int:=if (trimL f).length < F.length then trimL f else trimL (rdl F ((trimL f).length - F.length+1) (trimL f))
theorem jU {F r:List Int} {i:Nat}:(stp F i r).length=r.length:=by simp [stp]
theorem Qdp {F:List Int}:∀ {i:Nat} {r:List Int},(rdl F i r).length=r.length
 | 0,_=>rfl
 | i+1,r=>by show (rdl F i (stp F i r)).length=_; rw [Qdp,jU]
def subL (a b:List Int):List Int:=trimL ((List.range (max a.length b.length)).map fun k=>co a k - co b k)
def pwL (F a:List Int) (n:Nat):Nat→List Int→List Int
 | 0,out=>out
 | i+1,out=>pwL F a n i (if n / 2 ^ i % 2=1 then remL F (mulL (remL F (mulL out out)) a) else remL F (mulL out out))
def BL (b:Nat) (L:List Int):Prop:=∀ k,(co L k).natAbs < 4294967296 ^ b
theorem BL.trim {b:Nat} {L:List Int} (h:BL b L):BL b (trimL L):=fun k=>by rw [Yp]; exact h k
theorem BL.mono {b c:Nat} {L:List Int} (h:BL b L) (hb:b≤c):BL c L:=fun k=>Nat.lt_of_lt_of_le (h k) (Nat.pow_le_pow_right (by decide) hb)
theorem Qga {a b:List Int} {x y:Nat} (ha:BL x a) (hb:BL y b) (k:Nat):∀ i,(pcv a b i k).natAbs≤i*(4294967296 ^ x*4294967296 ^ y)
 | 0=>by show (0:Int).natAbs≤_; omega
 | i+1=>by
  have h1:=Qga ha hb k i
  have h2:(if i≤k then co a i*co b (k - i) else 0).natAbs≤4294967296 ^ x*4294967296 ^ y:=by
   split
   ·rw [Int.natAbs_mul]
    exact Nat.mul_le_mul (Nat.le_of_lt (ha i)) (Nat.le_of_lt (hb (k - i)))
   ·exact Nat.zero_le _
  have h3:=Int.natAbs_add_le (pcv a b i k) (if i≤k then co a i*co b (k - i) else 0)
  rw [Nat.add_mul,Nat.one_mul]
  exact Nat.le_trans h3 (Nat.add_le_add h1 h2)
theorem QiM (x y:Nat):4294967296 ^ x*4294967296 ^ y=4294967296 ^ (x+y):=(Nat.pow_add ..).symm
theorem QfJ {a b:List Int} {x y:Nat} (ha:BL x a) (hb:BL y b) {i:Nat} (hi:i≤1000000) (k:Nat):(pcv a b i k).natAbs < 4294967296 ^ (x+y+1):=by
 have h1:=Qga ha hb k i
 rw [QiM] at h1
 have hp:0 < 4294967296 ^ (x+y):=Nat.pow_pos (by decide)
 rw [Nat.pow_succ]
 calc (pcv a b i k).natAbs≤i*4294967296 ^ (x+y):=h1
  _≤1000000*4294967296 ^ (x+y):=Nat.mul_le_mul_right _ hi
  _ < 4294967296 ^ (x+y)*4294967296:=by rw [Nat.mul_comm]; exact Nat.mul_lt_mul_of_pos_left (by decide) hp
theorem jG {a b:List Int} {x y:Nat} (ha:BL x a) (hb:BL y b) (hl:a.length≤1000000):BL (x+y+1) (mulL a b):=fun k=>by
 unfold mulL
 split
 ·rw [Ym (by simp)]; exact Nat.pow_pos (by decide)
 ·rw [Yp,Ys]
  split
  ·exact QfJ ha hb hl k
  ·exact Nat.pow_pos (by decide)
theorem QeU {F r:List Int} {i:Nat} {B:Nat} (hF:∀ k,(co F k).natAbs≤1) (hr:∀ k,(co r k).natAbs≤B) (k:Nat):(co (stp F i r) k).natAbs≤2*B:=by
 unfold stp
 rw [Ys]
 split
 ·have h1:=hr k
  have h2:(if i≤k then co r (i+(F.length - 1))*co F (k - i) else 0).natAbs≤B:=by
   split
   ·rw [Int.natAbs_mul]
    have:=Nat.mul_le_mul (hr (i+(F.length - 1))) (hF (k - i))
    omega
   ·exact Nat.zero_le _
  omega
 ·exact Nat.zero_le _
theorem Qfk {F:List Int} (hF:∀ k,(co F k).natAbs≤1):∀ {i:Nat} {r:List Int} {B:Nat},(∀ k,(co r k).natAbs≤B)→∀ k,(co (rdl F i r) k).natAbs≤2 ^ i*B
 | 0,r,B,hr,k=>by rw [Nat.pow_zero,Nat.one_mul]; exact hr k
 | i+1,r,B,hr,k=>by
  have:=Qfk hF (i:=i) (QeU (i:=i) hF hr) k
  rw [Nat.pow_succ,Nat.mul_assoc]; exact this
theorem QeQ {F f:List Int} (_hF:0 < F.length):(remL F f).length≤max F.length f.length:=by
 unfold remL
 have h1:(trimL f).length≤f.length:=by rw [QS]; exact JK _ _
 split
 ·omega
 ·have h2:(trimL (rdl F ((trimL f).length - F.length+1) (trimL f))).length≤(trimL f).length:=by
   rw [QS,Qdp]; exact JK _ _
  omega
theorem Qin {F r:List Int} {b i:Nat} (hF:∀ k,(co F k).natAbs≤1) (hr:BL b r) (hi:i≤31):BL (b+1) (rdl F i r):=fun k=>by
 have h1:=Qfk hF (i:=i) (fun k=>Nat.le_of_lt (hr k)) k
 have h2:2 ^ i≤2 ^ 31:=Nat.pow_le_pow_right (by decide) hi
 have hp:0 < 4294967296 ^ b:=Nat.pow_pos (by decide)
 rw [Nat.pow_succ]
 calc (co (rdl F i r) k).natAbs≤2 ^ i*4294967296 ^ b:=h1
  _≤2 ^ 31*4294967296 ^ b:=Nat.mul_le_mul_right _ h2
  _ < 4294967296 ^ b*4294967296:=by rw [Nat.mul_comm]; exact Nat.mul_lt_mul_of_pos_left (by decide) hp
theorem jE {F f:List Int} {b:Nat} (hF:∀ k,(co F k).natAbs≤1) (hf:BL b f) (hl:(trimL f).length - F.length+1≤31):BL (b+1) (remL F f):=by
 unfold remL
 split
 ·exact hf.trim.mono (by omega)
 ·exact (Qin hF hf.trim hl).trim
theorem QgA {F r:List Int} {i:Nat} (h1:co F (F.length - 1)=1) (hl:i+(F.length - 1) < r.length):co (stp F i r) (i+(F.length - 1))=0:=by
 unfold stp
 rw [Ys,if_pos hl,if_pos (by omega),show i+(F.length - 1) - i=F.length - 1 by omega,h1]; omega
theorem Qdz {F r:List Int} {i k:Nat} (hk:i+(F.length - 1) < k):co (stp F i r) k=co r k:=by
 unfold stp
 rw [Ys]
 split
 ·split
  ·rw [Ym (L:=F) (by omega)]; omega
  ·omega
 ·exact (Ym (by omega)).symm
theorem vm {F:List Int} (h1:co F (F.length - 1)=1):∀ {i:Nat} {r:List Int},i+(F.length - 1)≤r.length→(∀ k,i+(F.length - 1)≤k→co r k=0)→∀ k,F.length - 1≤k→co (rdl F i r) k=0
 | 0,r,_,h,k,hk=>h k (by omega)
 | i+1,r,hl,h,k,hk=>by
  refine vm h1 (i:=i) (by rw [jU]; omega) (fun k hk=>?_) k hk
  rcases Nat.lt_or_ge (i+(F.length - 1)) k with h2 | h2
  ·rw [Qdz h2]; exact h k (by omega)
  ·obtain rfl:k=i+(F.length - 1):=by omega
   exact QgA h1 (by omega)
theorem yY {g:Nat→Int} {m:Nat} (h:∀ k,m≤k→g k=0):∀ n,trn g n≤m
 | 0=>Nat.zero_le _
 | n+1=>by
  unfold trn
  split
  ·exact yY h n
  ·rename_i h0
   exact Nat.le_of_not_lt fun h2=>h0 (h n (by omega))
theorem Vo {F f:List Int} (hF:0 < F.length) (h1:co F (F.length - 1)=1):(remL F f).length≤F.length - 1:=by
 unfold remL
 split
 ·omega
 ·rename_i hlt
  rw [QS]
  refine yY (fun k hk=>vm h1 (by omega) (fun k hk=>Ym (by omega)) k hk) _
theorem qw {a b:List Int}:(mulL a b).length≤a.length+b.length:=by
 unfold mulL
 split
 ·simp
 ·rw [QS]
  refine Nat.le_trans (JK _ _) ?_
  simp
end Go.Pl

/- The law of quadratic reciprocity for small primes, by powers of Gauss sums: computed. Plain. -/
namespace Go.Pl
def P13 (p:Nat):Prop:=p=3∨p=5∨p=7∨p=11∨p=13
def twi (p a:Nat):Nat:=if a ^ ((p - 1) / 2) % p=1 then 0 else p
def gs (p:Nat):Nat→Nat→Int
 | 0,_=>0
 | a+1,k=>gs p a k+(if a≠0∧k=(twi p a+a*2) % (2*p) then 1 else 0)
def phiL (p:Nat):List Int:=(List.range p).map fun k=>if k % 2=0 then 1 else -1
def gaL (p:Nat):List Int:=(List.range (2*p)).map (gs p p)
def gauL (p:Nat):List Int:=remL (phiL p) (gaL p)
def leg (p q:Nat):Int:=if q ^ ((p - 1) / 2) % p=1 then 1 else -1
def pwr (p q:Nat):List Int:=pwL (phiL p) (gauL p) q (Nat.log2 q+1) [1]
def ownR (p q:Nat):List Int:=remL (phiL p) (mulL (gauL p) [leg p q])
def rest (p q:Nat):List Int:=remL (phiL p) (subL (pwr p q) (ownR p q))
def ck (p q:Nat):Bool:=(rest p q).all fun x=>decide (x % (q:Int)=0)
def qs:List Nat:=[3,5,7,11,13,17,19,23,29,31,37,41,43,47,53,59]
def ckAll:Bool:=[3,5,7,11,13].all fun p=>qs.all fun q=>Nat.beq p q || ck p q
theorem Qfd:ckAll=true:=by decide +kernel
theorem QiZ {p q:Nat} (hp:P13 p) (hq:q ∈ qs) (h:p≠q):∀ k,∃ z:Int,co (rest p q) k=z*q:=fun k=>by
 have h1:=List.all_eq_true.1 Qfd p (by rcases hp with rfl | rfl | rfl | rfl | rfl<;>simp)
 have h2:=List.all_eq_true.1 h1 q hq
 have h3:ck p q=true:=by
  rw [Bool.or_eq_true] at h2
  rcases h2 with h4 | h4
  ·exact absurd (Nat.eq_of_beq_eq_true h4) h
  ·exact h4
 by_cases hk:k < (rest p q).length
 ·have h5:(rest p q)[k] % (q:Int)=0:=of_decide_eq_true (List.all_eq_true.1 h3 _ (List.getElem_mem hk))
  have h6:co (rest p q) k=(rest p q)[k]:=by
   unfold co
   rw [List.getD_eq_getElem?_getD,List.getElem?_eq_getElem hk]; rfl
  rw [h6]
  obtain ⟨z,hz⟩:=Int.dvd_of_emod_eq_zero h5
  exact ⟨z,by rw [hz,Int.mul_comm]⟩
 ·exact ⟨0,by rw [Ym (by omega),Int.zero_mul]⟩
theorem Qiw:([3,5,7,11,13].all fun p=>(gauL p).all fun x=>decide (x.natAbs < 4294967296))=true:=by decide +kernel
theorem Qci {p:Nat} (hp:P13 p):BL 1 (gauL p):=fun k=>by
 have h1:=List.all_eq_true.1 Qiw p (by rcases hp with rfl | rfl | rfl | rfl | rfl<;>simp)
 by_cases hk:k < (gauL p).length
 ·have h5:(gauL p)[k].natAbs < 4294967296:=of_decide_eq_true (List.all_eq_true.1 h1 _ (List.getElem_mem hk))
  have h6:co (gauL p) k=(gauL p)[k]:=by
   unfold co
   rw [List.getD_eq_getElem?_getD,List.getElem?_eq_getElem hk]; rfl
  rw [h6,Nat.pow_one]; exact h5
 ·rw [Ym (by omega)]; decide
theorem qr:∀ q,q < 61→3≤q→(∀ d,d < q→2≤d→q % d≠0)→q ∈ qs:=by decide +kernel
theorem QiH {p:Nat} (h:p ∈ qs) (h13:p≤13):P13 p:=by
 unfold qs at h
 unfold P13
 simp only [List.mem_cons,List.not_mem_nil,or_false] at h
 omega
end Go.Pl
