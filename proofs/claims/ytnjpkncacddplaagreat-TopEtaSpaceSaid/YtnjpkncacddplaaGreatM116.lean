/- Texts of this seat's own, merged: each begins with its own remark. -/
import Derived.Test.YtnjpkncacddplaaGreatM104
/- The character of a modular eta quotient at 2. Plain. -/
namespace Go.Et
open Go.Rp (tz divs)
def S (f:Nat→Int):List (Nat × Int)→Int
 | []=>0
 | (d,r)::l=>f d*r+S f l
theorem jQ {f g:Nat→Int}:∀ {l:List (Nat × Int)},S (fun d=>f d+g d) l=S f l+S g l
 | []=>rfl
 | (d,r)::l=>by
  show (f d+g d)*r+S _ l=(f d*r+S f l)+(g d*r+S g l)
  rw [jQ,Int.add_mul]; omega
theorem jP {f:Nat→Int} {c:Int}:∀ {l:List (Nat × Int)},S (fun d=>c*f d) l=c*S f l
 | []=>by show (0:Int)=c*0; rw [Int.mul_zero]
 | (d,r)::l=>by
  show c*f d*r+S _ l=c*(f d*r+S f l)
  rw [jP,Int.mul_add,Int.mul_assoc]
theorem ya {f g:Nat→Int} {m:Int}:∀ {l:List (Nat × Int)},(∀ p,p ∈ l→(f p.1 - g p.1) % m=0)→(S f l - S g l) % m=0
 | [],_=>by show (0 - 0:Int) % m=0; rw [Int.sub_zero,Int.zero_emod]
 | (d,r)::l,h=>by
  have h1:=ya (f:=f) (g:=g) (m:=m) (l:=l) fun p hp=>h p (List.mem_cons_of_mem _ hp)
  have h2:=h (d,r) (List.mem_cons_self ..)
  obtain ⟨a,ha⟩:=Int.dvd_of_emod_eq_zero h1
  obtain ⟨b,hb⟩:=Int.dvd_of_emod_eq_zero h2
  have hb:f d - g d=m*b:=hb
  show (f d*r+S f l - (g d*r+S g l)) % m=0
  rw [show f d*r+S f l - (g d*r+S g l)=m*(b*r+a) by rw [show f d*r+S f l - (g d*r+S g l)=(f d - g d)*r+(S f l - S g l) by grind,hb,ha]; grind]
  exact Int.mul_emod_right m _
def one (_:Nat):Int:=1
def idz (d:Nat):Int:=d
def co (N d:Nat):Int:=(N / d:Nat)
def xx (d:Nat):Int:=bif Nat.beq (d / 2 ^ tz 9 d % 4) 3 then 1 else 0
def yy (d:Nat):Int:=(tz 9 d % 2:Nat)
def chk1 (N d:Nat):Bool :=
 bif Nat.beq (N % 8) 0 then true else
 bif Nat.beq (N % 4) 0 then decide ((1+idz d+co N d - yy d) % 2=0) else
 bif Nat.beq (N % 2) 0 then decide ((co N d - yy d) % 2=0) && decide ((idz d+co N d - (3+2*xx d+2*xx (N / 2)*yy d)) % 4=0) else
 decide (yy d % 2=0) && decide ((idz d - (1+2*xx d)) % 4=0)
def chkE (N:Nat):Bool:=(divs 120 N).all (chk1 N)
set_option maxRecDepth 100000 in
theorem QiS:(List.range' 1 120).all chkE=true:=by kernel_rfl
theorem qN {N d:Nat} (h1:1≤N) (h2:N≤120) (hd:d ∈ divs 120 N):chk1 N d=true:=List.all_eq_true.1 (List.all_eq_true.1 QiS N (List.mem_range'_1.2 ⟨h1,by omega⟩)) d hd
theorem Qjd {N:Nat} (h1:1≤N) (h2:N≤120) (h8:N % 8≠0) {l:List (Nat × Int)} (hl:∀ p,p ∈ l→p.1 ∈ divs 120 N) (ha:S one l % 2=0) (hlo:S idz l % 8=0) (hhi:S (co N) l % 8=0):S yy l % 2=0:=by
 have e8:Nat.beq (N % 8) 0=false:=by rw [Bool.eq_false_iff]; exact fun h=>h8 (Nat.eq_of_beq_eq_true h)
 by_cases h4:N % 4=0
 ·have k:=ya (f:=fun d=>one d+(idz d+co N d)) (g:=yy) (m:=2) (l:=l) fun p hp=>by
   have h:=qN h1 h2 (hl p hp)
   unfold chk1 at h
   simp only [e8,cond_false,h4,show Nat.beq 0 0=true from rfl,cond_true,decide_eq_true_eq] at h
   show (1+(idz p.1+co N p.1) - yy p.1) % 2=0
   rw [← Int.add_assoc]; exact h
  rw [jQ,jQ] at k
  omega
 ·have e4:Nat.beq (N % 4) 0=false:=by rw [Bool.eq_false_iff]; exact fun h=>h4 (Nat.eq_of_beq_eq_true h)
  by_cases h2':N % 2=0
  ·have k:=ya (f:=co N) (g:=yy) (m:=2) (l:=l) fun p hp=>by
    have h:=qN h1 h2 (hl p hp)
    unfold chk1 at h
    simp only [e8,e4,cond_false,h2',show Nat.beq 0 0=true from rfl,cond_true,Bool.and_eq_true,decide_eq_true_eq] at h
    exact h.1
   omega
  ·have e2:Nat.beq (N % 2) 0=false:=by rw [Bool.eq_false_iff]; exact fun h=>h2' (Nat.eq_of_beq_eq_true h)
   have k:=ya (f:=yy) (g:=fun _=>0) (m:=2) (l:=l) fun p hp=>by
    have h:=qN h1 h2 (hl p hp)
    unfold chk1 at h
    simp only [e8,e4,e2,cond_false,Bool.and_eq_true,decide_eq_true_eq] at h
    show (yy p.1 - 0) % 2=0
    rw [Int.sub_zero]; exact h.1
   have z:S (fun _=>(0:Int)) l=0:=by
    have:=jP (f:=one) (c:=0) (l:=l)
    rw [Int.zero_mul] at this
    exact (congrArg (fun f=>S f l) (funext fun d=>(Int.zero_mul (one d)).symm)).trans this
   rw [z] at k
   omega
theorem Qkb {N:Nat} (h1:1≤N) (h2:N≤120) (h4:N % 4≠0) {l:List (Nat × Int)} (hl:∀ p,p ∈ l→p.1 ∈ divs 120 N) (ha:S one l % 2=0) (hlo:S idz l % 8=0) (hhi:S (co N) l % 8=0):(S one l+2*S xx l) % 4=0:=by
 have hy:=Qjd h1 h2 (by omega) hl ha hlo hhi
 have e8:Nat.beq (N % 8) 0=false:=by rw [Bool.eq_false_iff]; exact fun h=>by have:=Nat.eq_of_beq_eq_true h; omega
 have e4:Nat.beq (N % 4) 0=false:=by rw [Bool.eq_false_iff]; exact fun h=>h4 (Nat.eq_of_beq_eq_true h)
 by_cases h2':N % 2=0
 ·have k:=ya (f:=fun d=>idz d+co N d) (g:=fun d=>3*one d+(2*xx d+2*xx (N / 2)*yy d)) (m:=4) (l:=l) fun p hp=>by
   have h:=qN h1 h2 (hl p hp)
   unfold chk1 at h
   simp only [e8,e4,cond_false,h2',show Nat.beq 0 0=true from rfl,cond_true,Bool.and_eq_true,decide_eq_true_eq] at h
   show (idz p.1+co N p.1 - (3*1+(2*xx p.1+2*xx (N / 2)*yy p.1))) % 4=0
   rw [← Int.add_assoc]; exact h.2
  rw [jQ,jQ (f:=fun d=>3*one d),jP,jQ,jP,jP] at k
  obtain ⟨q,hq⟩:∃ q,S yy l=2*q:=⟨S yy l / 2,by omega⟩
  rw [hq,show 2*xx (N / 2)*(2*q)=4*(xx (N / 2)*q) by grind] at k
  omega
 ·have e2:Nat.beq (N % 2) 0=false:=by rw [Bool.eq_false_iff]; exact fun h=>h2' (Nat.eq_of_beq_eq_true h)
  have k:=ya (f:=idz) (g:=fun d=>one d+2*xx d) (m:=4) (l:=l) fun p hp=>by
   have h:=qN h1 h2 (hl p hp)
   unfold chk1 at h
   simp only [e8,e4,e2,cond_false,Bool.and_eq_true,decide_eq_true_eq] at h
   exact h.2
  rw [jQ,jP] at k
  omega
end Go.Et

/- The discriminant of a modular eta quotient divides its level. Plain. -/
namespace Go.Et
open Go.Rp (tz divs)
def vp (p:Nat):Nat→Nat→Nat
 | 0,_=>0
 | f+1,d=>bif Nat.beq (d % p) 0 then vp p f (d / p)+1 else 0
def np (p:Nat):List (Nat × Int)→Nat
 | []=>0
 | (d,r)::l=>(bif decide (r % 2=0) then 0 else vp p 10 d)+np p l
theorem np_S {p:Nat}:∀ {l:List (Nat × Int)},((np p l:Int) - S (fun d=>(vp p 10 d:Int)) l) % 2=0
 | []=>rfl
 | (d,r)::l=>by
  have ih:=np_S (p:=p) (l:=l)
  show ((((bif decide (r % 2=0) then 0 else vp p 10 d)+np p l:Nat):Int) - ((vp p 10 d:Int)*r+S _ l)) % 2=0
  by_cases h:r % 2=0
  ·rw [decide_eq_true h,cond_true]
   obtain ⟨k,rfl⟩:∃ k,r=2*k:=⟨r / 2,by omega⟩
   rw [show (vp p 10 d:Int)*(2*k)=2*((vp p 10 d:Int)*k) by grind]
   omega
  ·rw [decide_eq_false h,cond_false]
   obtain ⟨k,rfl⟩:∃ k,r=2*k+1:=⟨r / 2,by omega⟩
   rw [show (vp p 10 d:Int)*(2*k+1)=2*((vp p 10 d:Int)*k)+vp p 10 d by grind]
   omega
def isP (p:Nat):Bool:=Nat.ble 2 p && (List.range' 2 (p - 2)).all fun d => !(Nat.beq (p % d) 0)
def ps (N:Nat):List Nat:=(divs 120 N).filter isP
def odds (l:List (Nat × Int)):List Nat→List Nat
 | []=>[]
 | p::r=>bif Nat.beq (np p l % 2) 0 then odds l r else p::odds l r
def prd:List Nat→Int
 | []=>1
 | p::r=>p*prd r
def subs:List Nat→List (List Nat)
 | []=>[[]]
 | p::r=>subs r++(subs r).map (p :: ·)
theorem yU {l:List (Nat × Int)}:∀ {r:List Nat},odds l r ∈ subs r
 | []=>List.mem_singleton.2 rfl
 | p::r=>by
  unfold odds subs
  cases Nat.beq (np p l % 2) 0
  ·rw [cond_false]; exact List.mem_append_right _ (List.mem_map.2 ⟨_,yU,rfl⟩)
  ·rw [cond_true]; exact List.mem_append_left _ yU
def three (p:Nat):Nat:=bif Nat.beq (p % 4) 3 then 1 else 0
def c3:List Nat→Nat
 | []=>0
 | p::r=>three p+c3 r
def n3 (l:List (Nat × Int)):List Nat→Nat
 | []=>0
 | p::r=>three p*np p l+n3 l r
def v3 (d:Nat):List Nat→Nat
 | []=>0
 | p::r=>three p*vp p 10 d+v3 d r
theorem Qji {l:List (Nat × Int)}:∀ {r:List Nat},(c3 (odds l r)+n3 l r) % 2=0
 | []=>rfl
 | p::r=>by
  have ih:=Qji (l:=l) (r:=r)
  have h3:three p=0∨three p=1:=by unfold three; cases Nat.beq (p % 4) 3<;>simp
  unfold odds n3
  cases h:Nat.beq (np p l % 2) 0
  ·have hn:np p l % 2=1:=by
    rcases show np p l % 2=0∨np p l % 2=1 by omega with h1 | h1
    ·rw [h1] at h; cases h
    ·exact h1
   rw [cond_false]
   show (three p+c3 (odds l r)+(three p*np p l+n3 l r)) % 2=0
   rcases h3 with h3 | h3<;>rw [h3]<;>omega
  ·have hn:=Nat.eq_of_beq_eq_true h
   rw [cond_true]
   rcases h3 with h3 | h3<;>rw [h3]<;>omega
theorem n3_S {l:List (Nat × Int)}:∀ {r:List Nat},((n3 l r:Int) - S (fun d=>(v3 d r:Int)) l) % 2=0
 | []=>by
  have:S (fun _=>(0:Int)) l=0:=by
   have h:=jP (f:=one) (c:=0) (l:=l)
   rw [Int.zero_mul] at h
   exact (congrArg (fun f=>S f l) (funext fun d=>(Int.zero_mul (one d)).symm)).trans h
  show ((0:Int) - S (fun _=>(0:Int)) l) % 2=0
  rw [this]; rfl
 | p::r=>by
  have ih:=n3_S (l:=l) (r:=r)
  have h1:=np_S (p:=p) (l:=l)
  have e:S (fun d=>(v3 d (p::r):Int)) l=(three p:Int)*S (fun d=>(vp p 10 d:Int)) l+S (fun d=>(v3 d r:Int)) l:=by
   rw [← jP,← jQ]
   refine congrArg (fun f=>S f l) (funext fun d=>?_)
   show ((three p*vp p 10 d+v3 d r:Nat):Int)=_
   rw [Int.natCast_add,Int.natCast_mul]
  rw [e]
  show (((three p*np p l+n3 l r:Nat):Int) - _) % 2=0
  rw [Int.natCast_add,Int.natCast_mul]
  obtain ⟨a,ha⟩:=Int.dvd_of_emod_eq_zero ih
  obtain ⟨b,hb⟩:=Int.dvd_of_emod_eq_zero h1
  rw [show (three p:Int)*(np p l:Int)+(n3 l r:Int) - ((three p:Int)*S (fun d=>(vp p 10 d:Int)) l+S (fun d=>(v3 d r:Int)) l)=(three p:Int)*((np p l:Int) - S (fun d=>(vp p 10 d:Int)) l)+((n3 l r:Int) - S (fun d=>(v3 d r:Int)) l) by grind,ha,hb]
  rw [show (three p:Int)*(2*b)+2*a=2*((three p:Int)*b+a) by grind]
  exact Int.mul_emod_right 2 _
def sqfB (a:Nat):Bool:=(List.range' 2 20).all fun k => !(Nat.beq (a % (k*k)) 0)
def fundB (d:Int):Bool:=(decide (d % 4=1) && sqfB d.natAbs) || (decide (d % 4=0) && (decide ((d / 4) % 4=2∨(d / 4) % 4=3) && sqfB (d / 4).natAbs))
def dsc (fr:Int):Int:=bif decide (fr % 4=1) then fr else fr*4
def has2 (q:List Nat):Bool:=q.any (Nat.beq 2)
def chkS (N:Nat) (q:List Nat) (b:Nat):Bool :=
 let fr:Int:=(bif Nat.beq b 1 then -1 else 1)*prd q
 (Nat.blt 120 (dsc fr).natAbs || fundB (dsc fr)) && ((has2 q || (decide (fr % 4=1) == Nat.beq ((c3 q+b) % 2) 0)) &&
 (!(Nat.beq (N % 8) 0 || (!has2 q && (Nat.beq (N % 4) 0 || decide (fr % 4=1)))) || decide ((N:Int) % dsc fr=0)))
def chkN (N:Nat):Bool:=(subs (ps N)).all (fun q=>chkS N q 0 && chkS N q 1) && (divs 120 N).all fun d=>decide (((v3 d (ps N):Int) - xx d) % 2=0) && decide (((vp 2 10 d:Int) - yy d) % 2=0)
set_option maxRecDepth 100000 in
theorem Qid:(List.range' 1 120).all chkN=true:=by kernel_rfl
end Go.Et

/- The discriminant of a modular eta quotient divides its level: joined. Plain. -/
namespace Go.Et
open Go.Rp (tz divs)
theorem Qbb {l:List (Nat × Int)}:∀ {r:List Nat},has2 (odds l r)=true→np 2 l % 2=1
 | [],h=>by cases h
 | p::r,h=>by
  unfold odds at h
  cases hp:Nat.beq (np p l % 2) 0
  ·rw [hp,cond_false] at h
   have hn:np p l % 2=1:=by
    rcases show np p l % 2=0∨np p l % 2=1 by omega with h1 | h1
    ·rw [h1] at hp; cases hp
    ·exact h1
   have h:(Nat.beq 2 p || has2 (odds l r))=true:=h
   rcases Bool.or_eq_true_iff.1 h with h | h
   ·have e2:p=2:=(Nat.eq_of_beq_eq_true h).symm
    subst e2; exact hn
   ·exact Qbb h
  ·rw [hp,cond_true] at h
   exact Qbb h
theorem Qii {N:Nat} (h1:1≤N) (h2:N≤120):(∀ q,q ∈ subs (ps N)→chkS N q 0=true∧chkS N q 1=true)∧∀ d,d ∈ divs 120 N→((v3 d (ps N):Int) - xx d) % 2=0∧((vp 2 10 d:Int) - yy d) % 2=0:=by
 have h:=List.all_eq_true.1 Qid N (List.mem_range'_1.2 ⟨h1,by omega⟩)
 unfold chkN at h
 rw [Bool.and_eq_true] at h
 refine ⟨fun q hq=>?_,fun d hd=>?_⟩
 ·have:=List.all_eq_true.1 h.1 q hq
  rwa [Bool.and_eq_true] at this
 ·have:=List.all_eq_true.1 h.2 d hd
  rwa [Bool.and_eq_true,decide_eq_true_eq,decide_eq_true_eq] at this
theorem Qgi {N b:Nat} (h1:1≤N) (h2:N≤120) {l:List (Nat × Int)} (hl:∀ p,p ∈ l→p.1 ∈ divs 120 N) (ha:S one l % 2=0) (hlo:S idz l % 8=0) (hhi:S (co N) l % 8=0) (hb:b=if S one l % 4=0 then 0 else 1) {fr:Int} (hfr:fr=(if b=1 then -1 else 1)*prd (odds l (ps N))) :
  ((dsc fr).natAbs≤120→fundB (dsc fr)=true)∧(N:Int) % dsc fr=0:=by
 obtain ⟨hq,hd⟩:=Qii h1 h2
 obtain ⟨hc0,hc1⟩:=hq (odds l (ps N)) yU
 have hb01:b=0∨b=1:=by rw [hb]; split<;>simp
 have hc:chkS N (odds l (ps N)) b=true:=by rcases hb01 with h | h<;>rw [h]<;>assumption
 have hfr':fr=(bif Nat.beq b 1 then -1 else 1)*prd (odds l (ps N)):=by
  rw [hfr]
  rcases hb01 with h | h<;>rw [h]<;>rfl
 unfold chkS at hc
 simp only [← hfr',Bool.and_eq_true,Bool.or_eq_true,decide_eq_true_eq,Bool.not_eq_true'] at hc
 obtain ⟨c1,c2,c3'⟩:=hc
 have hx:((c3 (odds l (ps N)):Int) - S xx l) % 2=0:=by
  have k1:=Qji (l:=l) (r:=ps N)
  have k2:=n3_S (l:=l) (r:=ps N)
  have k3:=ya (f:=fun d=>(v3 d (ps N):Int)) (g:=xx) (m:=2) (l:=l) fun p hp=>(hd p.1 (hl p hp)).1
  omega
 have hy:((np 2 l:Int) - S yy l) % 2=0:=by
  have k2:=np_S (p:=2) (l:=l)
  have k3:=ya (f:=fun d=>(vp 2 10 d:Int)) (g:=yy) (m:=2) (l:=l) fun p hp=>(hd p.1 (hl p hp)).2
  omega
 have no2:N % 8≠0→has2 (odds l (ps N))=false:=fun h8=>by
  rw [Bool.eq_false_iff]
  intro h
  have k1:=Qbb h
  have k2:=Qjd h1 h2 h8 hl ha hlo hhi
  omega
 have one4:N % 4≠0→fr % 4=1:=fun h4=>by
  have n2:=no2 (by omega)
  have k1:=Qkb h1 h2 h4 hl ha hlo hhi
  rcases c2 with c2 | c2
  ·rw [n2] at c2; cases c2
  ·have k3:(c3 (odds l (ps N))+b) % 2=0:=by
    rw [hb]
    split<;>omega
   rw [k3] at c2
   exact of_decide_eq_true (by simpa using c2)
 refine ⟨fun h=>?_,?_⟩
 ·rcases c1 with c1 | c1
  ·have:=Nat.le_of_ble_eq_true c1
   omega
  ·exact c1
 ·rcases c3' with c | c
  ·exfalso
   by_cases h8:N % 8=0
   ·rw [h8] at c; simp at c
   ·have n2:=no2 h8
    rw [n2] at c
    by_cases h4:N % 4=0
    ·rw [h4] at c; simp at c
    ·have:=one4 h4
     rw [this] at c; simp at c
  ·exact c
end Go.Et

/- What the program computes of an eta quotient, and that its discriminant is one of its space. Plain. -/
namespace Go.Et
open Go.Rp (tz divs)
def prs (f:Nat→Int):Nat→List Nat→List (Nat × Int)
 | _,[]=>[]
 | i,d::r=>(d,f i)::prs f (i+1) r
theorem Qbn {f:Nat→Int} {d:Nat}:∀ {l:List Nat} {i:Nat},prs f i (l++[d])=prs f i l++[(d,f (i+l.length))]
 | [],i=>rfl
 | a::r,i=>by
  show (a,f i)::prs f (i+1) (r++[d])=(a,f i)::(prs f (i+1) r++[(d,f (i+(r.length+1)))])
  rw [Qbn,show i+1+r.length=i+(r.length+1) by omega]
theorem Qbo {f:Nat→Int} {l:List Nat} {i d:Nat} (h:l[i]?=some d):prs f 0 (l.take (i+1))=prs f 0 (l.take i)++[(d,f i)]:=by
 have hi:=(List.getElem?_eq_some_iff.1 h).1
 rw [List.take_add_one,h]
 show prs f 0 (l.take i++[d])=_
 rw [Qbn,List.length_take,Nat.min_eq_left (Nat.le_of_lt hi),Nat.zero_add]
theorem Qax {f:Nat→Int}:∀ {l:List Nat} {i:Nat} {p:Nat × Int},p ∈ prs f i l→p.1 ∈ l
 | [],_,_,h=> by cases h
 | d::r,i,p,h=>by
  rcases List.mem_cons.1 h with h | h
  ·rw [h]; exact List.mem_cons_self ..
  ·exact List.mem_cons_of_mem _ (Qax h)
theorem Qar {g:Nat→Int} {p:Nat × Int}:∀ {l:List (Nat × Int)},S g (l++[p])=S g l+g p.1*p.2
 | []=>by show g p.1*p.2+0=0+_; omega
 | (d,r)::l=>by
  show g d*r+S g (l++[p])=g d*r+S g l+_
  rw [Qar]; omega
theorem Qdp {p:Nat} {x:Nat × Int}:∀ {l:List (Nat × Int)},np p (l++[x])=np p l+bif decide (x.2 % 2=0) then 0 else vp p 10 x.1
 | []=>by show (bif decide (x.2 % 2=0) then 0 else vp p 10 x.1)+0=0+_; omega
 | (d,r)::l=>by
  show (bif decide (r % 2=0) then 0 else vp p 10 d)+np p (l++[x])=(bif decide (r % 2=0) then 0 else vp p 10 d)+np p l+_
  rw [Qdp]; omega
theorem Qgd {p:Nat}:∀ {k d:Nat},vp p k d≤k
 | 0,_=>Nat.le_refl _
 | k+1,d=>by
  unfold vp
  cases Nat.beq (d % p) 0
  ·exact Nat.zero_le _
  ·exact Nat.succ_le_succ Qgd
theorem Qge {p:Nat}:∀ {l:List (Nat × Int)},np p l≤10*l.length
 | []=>Nat.le_refl _
 | (d,r)::l=>by
  have h1:=Qge (p:=p) (l:=l)
  have h2:=Qgd (p:=p) (k:=10) (d:=d)
  show (bif decide (r % 2=0) then 0 else vp p 10 d)+np p l≤10*(l.length+1)
  cases decide (r % 2=0)
  ·rw [cond_false]; omega
  ·rw [cond_true]; omega
theorem yu {f:Nat→Int}:∀ {l:List Nat} {i:Nat},(prs f i l).length=l.length
 | [],_=>rfl
 | d::r,i=>by
  show (prs f (i+1) r).length+1=r.length+1
  rw [yu]
theorem S_bd {g:Nat→Int} {B:Int}:∀ {l:List (Nat × Int)},(∀ p,p ∈ l → -B≤g p.1*p.2∧g p.1*p.2≤B) → -(B*l.length)≤S g l∧S g l≤B*l.length
 | [],_=>by
  show -(B*((0:Nat):Int))≤0∧(0:Int)≤B*((0:Nat):Int)
  omega
 | (d,r)::l,h=>by
  have h1:=S_bd (g:=g) (B:=B) (l:=l) fun p hp=>h p (List.mem_cons_of_mem _ hp)
  have h2:=h (d,r) (List.mem_cons_self ..)
  have h2 : -B≤g d*r∧g d*r≤B:=h2
  show -(B*((l.length+1:Nat):Int))≤g d*r+S g l∧g d*r+S g l≤B*((l.length+1:Nat):Int)
  rw [Int.natCast_add,Int.mul_add]
  omega
theorem ju {l:List (Nat × Int)} {p:Nat}:∀ {r:List Nat},odds l (r++[p])=odds l r++bif Nat.beq (np p l % 2) 0 then [] else [p]
 | []=>by
  show odds l [p]=[]++_
  unfold odds
  cases Nat.beq (np p l % 2) 0<;>rfl
 | q::r=>by
  show odds l (q::(r++[p]))=_
  unfold odds
  cases Nat.beq (np q l % 2) 0
  ·rw [cond_false,cond_false,ju]; rfl
  ·rw [cond_true,cond_true,ju]
theorem QbE {p:Nat}:∀ {q:List Nat},prd (q++[p])=prd q*p
 | []=>by show (p:Int)*1=1*p; omega
 | a::q=>by
  show (a:Int)*prd (q++[p])=a*prd q*p
  rw [QbE,Int.mul_assoc]
theorem QbT {l:List (Nat × Int)}:∀ {r:List Nat},(odds l r).length≤r.length
 | []=>Nat.le_refl _
 | p::r=>by
  have h:=QbT (l:=l) (r:=r)
  unfold odds
  cases Nat.beq (np p l % 2) 0
  ·exact Nat.succ_le_succ h
  ·exact Nat.le_succ_of_le h
theorem yE {l:List (Nat × Int)} {q:Nat}:∀ {r:List Nat},q ∈ odds l r→q ∈ r
 | [],h=> by cases h
 | p::r,h=>by
  unfold odds at h
  revert h
  cases Nat.beq (np p l % 2) 0
  ·intro h
   rcases List.mem_cons.1 h with h | h
   ·rw [h]; exact List.mem_cons_self ..
   ·exact List.mem_cons_of_mem _ (yE h)
  ·exact fun h=>List.mem_cons_of_mem _ (yE h)
theorem Qfe:∀ {q:List Nat},(∀ p,p ∈ q→2≤p∧p≤600)→1≤prd q∧prd q≤600 ^ q.length
 | [],_=>⟨Int.le_refl 1,Int.le_refl 1⟩
 | p::q,h=>by
  obtain ⟨h1,h2⟩:=Qfe (q:=q) fun x hx=>h x (List.mem_cons_of_mem _ hx)
  obtain ⟨h3,h4⟩:=h p (List.mem_cons_self ..)
  have k1:(p:Int)*1≤(p:Int)*prd q:=Int.mul_le_mul_of_nonneg_left h1 (by omega)
  have k2:(p:Int)*prd q≤600*600 ^ q.length:=Int.mul_le_mul (by omega) h2 (by omega) (by omega)
  show 1≤(p:Int)*prd q∧(p:Int)*prd q≤600 ^ (q.length+1)
  rw [Int.pow_succ,Int.mul_comm (600 ^ q.length)]
  omega
theorem QfA {q:List Nat} (h:∀ p,p ∈ q→2≤p∧p≤600) (hl:q.length≤4):1≤prd q∧prd q≤129600000000:=by
 obtain ⟨h1,h2⟩:=Qfe h
 refine ⟨h1,Int.le_trans h2 ?_⟩
 rcases show q.length=0∨q.length=1∨q.length=2∨q.length=3∨q.length=4 by omega with h | h | h | h | h<;>rw [h]<;>decide
theorem Qgv {f:Nat→Int}:∀ {l:List Nat} {i:Nat} {p:Nat × Int},p ∈ prs f i l→∃ j,i≤j∧j < i+l.length∧p.2=f j
 | [],_,_,h=> by cases h
 | d::r,i,p,h=>by
  rcases List.mem_cons.1 h with h | h
  ·exact ⟨i,Nat.le_refl _,by show i < i+(r.length+1); omega,by rw [h]⟩
  ·obtain ⟨j,h1,h2,h3⟩:=Qgv h
   exact ⟨j,by omega,by show j < i+(r.length+1); omega,h3⟩
theorem QfK {a b A B:Int} (h : -A≤a∧a≤A) (h' : -B≤b∧b≤B) : -(A*B)≤a*b∧a*b≤A*B:=by
 have h1:0≤(A - a)*(B+b):=Int.mul_nonneg (by omega) (by omega)
 have h2:0≤(A+a)*(B - b):=Int.mul_nonneg (by omega) (by omega)
 have h3:0≤(A - a)*(B - b):=Int.mul_nonneg (by omega) (by omega)
 have h4:0≤(A+a)*(B+b):=Int.mul_nonneg (by omega) (by omega)
 constructor<;>grind
theorem QdW {N n i:Nat} {f:Nat→Int} {l:List Nat} (hN:N≤600) (hl:∀ d,d ∈ l→d≤600) (hk:∀ k,k < n → -200≤f k∧f k≤200) (hn:l.length=n) (hn6:n≤600) :
  (-120000≤S one (prs f 0 (l.take i))∧S one (prs f 0 (l.take i))≤120000)∧(-72000000≤S idz (prs f 0 (l.take i))∧S idz (prs f 0 (l.take i))≤72000000)∧(-72000000≤S (co N) (prs f 0 (l.take i))∧S (co N) (prs f 0 (l.take i))≤72000000):=by
 have hr:∀ p,p ∈ prs f 0 (l.take i)→(-200≤p.2∧p.2≤200)∧p.1≤600:=fun p hp=>by
  obtain ⟨j,-,h2,h3⟩:=Qgv hp
  rw [List.length_take] at h2
  rw [h3]
  exact ⟨hk j (by omega),hl _ (List.mem_of_mem_take (Qax hp))⟩
 have hlen:(prs f 0 (l.take i)).length≤600:=by
  rw [yu,List.length_take]; omega
 have key:∀ (g:Nat→Int) (B:Int),0≤B→(∀ p,p ∈ prs f 0 (l.take i) → -B≤g p.1∧g p.1≤B) → -(B*200*600)≤S g (prs f 0 (l.take i))∧S g (prs f 0 (l.take i))≤B*200*600:=fun g B hB hg=>by
  have h1:=S_bd (g:=g) (B:=B*200) (l:=prs f 0 (l.take i)) fun p hp=>QfK (hg p hp) (hr p hp).1
  have h2:B*200*((prs f 0 (l.take i)).length:Int)≤B*200*600:=Int.mul_le_mul_of_nonneg_left (by omega) (by omega)
  omega
 refine ⟨?_,?_,?_⟩
 ·exact key one 1 (by decide) fun p hp=>⟨by show (-1:Int)≤1; decide,Int.le_refl 1⟩
 ·have:=key idz 600 (by decide) fun p hp=>by
   have:=(hr p hp).2
   show -600≤(p.1:Int)∧(p.1:Int)≤600
   omega
  omega
 ·have:=key (co N) 600 (by decide) fun p hp=>by
   have:=Nat.div_le_self N p.1
   unfold co
   generalize N / p.1=q at this ⊢
   omega
  omega
theorem QhF {p k d:Nat} (h:d % p=0):vp p (k+1) d=vp p k (d / p)+1:=by
 show (bif Nat.beq (d % p) 0 then vp p k (d / p)+1 else 0)=_
 rw [h]; rfl
theorem QiC {p k d:Nat} (h:d % p≠0):vp p k d=0:=by
 cases k with
 | zero=>rfl
 | succ k =>
  unfold vp
  cases e:Nat.beq (d % p) 0
  ·rfl
  ·exact absurd (Nat.eq_of_beq_eq_true e) h
theorem Qig {N:Nat} (h1:1≤N) (h2:N≤120) {l:List (Nat × Int)} (hl:∀ p,p ∈ l→p.1 ∈ divs 120 N) (ha:S one l % 2=0) (hlo:S idz l % 24=0) (hhi:S (co N) l % 24=0) {fr:Int} (hfr:fr=(if S one l % 4=0 then 1 else -1)*prd (odds l (ps N))) (hp:1≤prd (odds l (ps N))) :
  ((dsc fr).natAbs≤120→fundB (dsc fr)=true)∧(N:Int) % dsc fr=0∧(dsc fr < 0↔S one l % 4≠0):=by
 obtain ⟨a,b⟩:=Qgi h1 h2 hl ha (by omega) (by omega) (b:=if S one l % 4=0 then 0 else 1) rfl (fr:=fr) (by
  rw [hfr]
  by_cases e:S one l % 4=0
  ·rw [if_pos e,if_pos e,if_neg (by decide)]
  ·rw [if_neg e,if_neg e,if_pos rfl])
 refine ⟨a,b,?_⟩
 have hs:dsc fr < 0↔fr < 0:=by
  unfold dsc
  cases decide (fr % 4=1)
  ·rw [cond_false]; omega
  ·rw [cond_true]
 rw [hs,hfr]
 by_cases e:S one l % 4=0
 ·rw [if_pos e]
  omega
 ·rw [if_neg e]
  omega
end Go.Et
