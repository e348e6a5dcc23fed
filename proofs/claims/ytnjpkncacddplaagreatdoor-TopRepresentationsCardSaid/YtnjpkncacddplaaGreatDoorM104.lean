/- Texts of this seat's own, merged: each begins with its own remark. -/
import Derived.KernelRfl
/- Sums over boxes, generating numbers, representations by a binary form. Plain. -/
namespace Go.Rp
def smI (g:Int→Int) (lo:Int):Nat→Int
 | 0=>0
 | k+1=>smI g lo k+g (lo+k)
theorem jN {g h:Int→Int} {lo:Int}:∀ {k:Nat},(∀ i:Nat,i < k→g (lo+i)=h (lo+i))→smI g lo k=smI h lo k
 | 0,_=>rfl
 | k+1,e=>by
  show smI g lo k+g (lo+k)=smI h lo k+h (lo+k)
  rw [jN (k:=k) fun i hi=>e i (by omega),e k (by omega)]
theorem Vk {g:Int→Int} {lo:Int}:∀ {k:Nat},(∀ i:Nat,i < k→g (lo+i)=0)→smI g lo k=0
 | 0,_=>rfl
 | k+1,e=>by
  show smI g lo k+g (lo+k)=0
  rw [Vk (k:=k) fun i hi=>e i (by omega),e k (by omega)]; rfl
theorem Qax {g h:Int→Int} {lo:Int}:∀ {k:Nat},smI (fun x=>g x+h x) lo k=smI g lo k+smI h lo k
 | 0=>rfl
 | k+1=>by
  show smI (fun x=>g x+h x) lo k+(g (lo+k)+h (lo+k))=(smI g lo k+g (lo+k))+(smI h lo k+h (lo+k))
  rw [Qax]; omega
theorem VP {g:Int→Int} {lo:Int} {j:Nat}:∀ {k:Nat},smI g lo (j+k)=smI g lo j+smI g (lo+j) k
 | 0=>by simp [smI]
 | k+1=>by
  show smI g lo (j+k)+g (lo+(j+k:Nat))=smI g lo j+(smI g (lo+j) k+g (lo+j+k))
  rw [VP,show lo+((j+k:Nat):Int)=lo+j+k by omega]; omega
theorem QaX {x0 lo:Int}:∀ {k:Nat},smI (fun x=>if x=x0 then 1 else 0) lo k=if lo≤x0∧x0 < lo+k then 1 else 0
 | 0=>by rw [if_neg (by omega)]; rfl
 | k+1=>by
  show smI _ lo k+(if lo+k=x0 then 1 else 0)=_
  rw [QaX]
  split<;>split<;>split<;>omega
theorem vY {g:Int→Int} {lo:Int} (h:∀ x,0≤g x∧g x≤1):∀ {k:Nat},0≤smI g lo k∧smI g lo k≤k
 | 0=>⟨Int.le_refl 0,Int.le_refl 0⟩
 | k+1=>by
  have h1:=vY (lo:=lo) h (k:=k)
  have h2:=h (lo+k)
  show 0≤smI g lo k+g (lo+k)∧smI g lo k+g (lo+k)≤((k+1:Nat):Int)
  omega
theorem vH {g:Int→Int} {lo b:Int} (h:∀ x,0≤g x∧g x≤b):∀ {k:Nat},0≤smI g lo k∧smI g lo k≤b*k
 | 0=>⟨Int.le_refl 0,by show (0:Int)≤b*((0:Nat):Int); rw [Int.natCast_zero,Int.mul_zero]; exact Int.le_refl 0⟩
 | k+1=>by
  have h1:=vH (lo:=lo) h (k:=k)
  have h2:=h (lo+k)
  show 0≤smI g lo k+g (lo+k)∧smI g lo k+g (lo+k)≤b*((k+1:Nat):Int)
  rw [Int.natCast_add,Int.mul_add]
  show _∧_≤b*(k:Int)+b*1
  omega
def box (g:Int→Int) (h:Nat):Int:=smI g (-(h:Int)) (2*h+1)
theorem JF {g g':Int→Int} {h:Nat} (e:∀ x:Int,x.natAbs≤h→g x=g' x):box g h=box g' h:=jN fun i hi=>e _ (by omega)
theorem QeU {g g':Int→Int} {h:Nat}:box (fun x=>g x+g' x) h=box g h+box g' h:=Qax
theorem VB {g:Int→Int} {h:Nat} (e:∀ x:Int,x.natAbs≤h→g x=0):box g h=0:=Vk fun i hi=>e _ (by omega)
theorem Qdz {g:Int→Int} {h H:Nat} (hH:h≤H) (e:∀ x:Int,h < x.natAbs→g x=0):box g H=box g h:=by
 unfold box
 rw [show 2*H+1=(H - h)+((2*h+1)+(H - h)) by omega,VP,VP,Vk (k:=H - h) (lo := -(H:Int)) (fun i hi=>e _ (by omega)),Vk (k:=H - h) (lo := -(H:Int)+((H - h:Nat):Int)+((2*h+1:Nat):Int)) (fun i hi=>e _ (by omega)),show -(H:Int)+((H - h:Nat):Int) = -(h:Int) by omega]
 omega
theorem yk {m t:Int} {X:Nat} (hm:0 < m) (ht:(t.natAbs:Int)≤m*X):box (fun x=>if m*x=t then 1 else 0) X=if t % m=0 then 1 else 0:=by
 by_cases h:t % m=0
 ·rw [if_pos h]
  obtain ⟨x0,rfl⟩:=Int.dvd_of_emod_eq_zero h
  have hx:x0.natAbs≤X:=by
   rw [Int.natAbs_mul,Int.natCast_mul,Int.natAbs_of_nonneg (by omega)] at ht
   have:=Int.le_of_mul_le_mul_left ht hm
   omega
  rw [JF (g':=fun x=>if x=x0 then 1 else 0) fun x _=>?_]
  ·unfold box
   rw [QaX,if_pos (by omega)]
  ·by_cases e:x=x0
   ·rw [if_pos e,if_pos (by rw [e])]
   ·rw [if_neg e,if_neg fun e2=>e (Int.eq_of_mul_eq_mul_left (by omega) e2)]
 ·rw [if_neg h]
  refine VB fun x _=>?_
  rw [if_neg]
  rintro rfl
  exact h (Int.mul_emod_right m x)
def qf (a b c x y:Int):Int:=a*x*x+b*x*y+c*y*y
def ind (a b c n x y:Int):Int:=if qf a b c x y=n then 1 else 0
theorem QbV {a b c n x y:Int}:0≤ind a b c n x y∧ind a b c n x y≤1:=by unfold ind; split<;>omega
theorem qf4 (a b c x y:Int):4*a*qf a b c x y=(2*a*x+b*y)*(2*a*x+b*y)+(4*a*c - b*b)*(y*y):=by unfold qf; grind
theorem qf4' (a b c x y:Int):4*c*qf a b c x y=(2*c*y+b*x)*(2*c*y+b*x)+(4*a*c - b*b)*(x*x):=by unfold qf; grind
theorem Qdo (x:Int):0≤x*x:=by
 rcases Int.le_total 0 x with h | h
 ·exact Int.mul_nonneg h h
 ·exact Int.mul_nonneg_of_nonpos_of_nonpos h h
theorem Qgk {s t:Int} (h:t*t=s*s):t=s∨t = -s:=by
 have:(t - s)*(t+s)=0:=by grind
 rcases Int.mul_eq_zero.1 this with h | h<;>omega
theorem Qct {a b c n y s:Int} {X:Nat} (ha:0 < a) (hs:0≤s) (hq:s*s=b*b*y*y - 4*a*(c*y*y - n)) (hX:s+((b*y).natAbs:Int)≤2*a*X) :
  box (fun x=>ind a b c n x y) X=(if (s - b*y) % (2*a)=0 then 1 else 0)+(if s > 0∧(-s - b*y) % (2*a)=0 then 1 else 0):=by
 have key:∀ x,(qf a b c x y=n↔(2*a*x=s - b*y∨2*a*x = -s - b*y)):=fun x=>by
  have h4:=qf4 a b c x y
  constructor
  ·intro h
   rw [h] at h4
   rcases Qgk (s:=s) (t:=2*a*x+b*y) (by grind) with h | h
   ·left; omega
   ·right; omega
  ·intro h
   have e:(2*a*x+b*y)*(2*a*x+b*y)=s*s:=by
    rcases h with h | h
    ·rw [h]; grind
    ·rw [h]; grind
   have h5:4*a*qf a b c x y=4*a*n:=by rw [h4,e,hq]; grind
   exact Int.eq_of_mul_eq_mul_left (by omega) h5
 have hb1:((s - b*y).natAbs:Int)≤2*a*X:=by omega
 have hb2:((-s - b*y).natAbs:Int)≤2*a*X:=by omega
 by_cases h0:s > 0
 ·rw [show (if s > 0∧(-s - b*y) % (2*a)=0 then (1:Int) else 0)=if (-s - b*y) % (2*a)=0 then 1 else 0 by simp only [h0,true_and],← yk (by omega) hb1,← yk (by omega) hb2,← QeU]
  refine JF fun x _=>?_
  unfold ind
  by_cases e1:2*a*x=s - b*y
  ·rw [if_pos ((key x).2 (.inl e1)),if_pos e1,if_neg (by omega)]; rfl
  ·by_cases e2:2*a*x = -s - b*y
   ·rw [if_pos ((key x).2 (.inr e2)),if_neg e1,if_pos e2]; rfl
   ·rw [if_neg (fun h=>((key x).1 h).elim e1 e2),if_neg e1,if_neg e2]; rfl
 ·rw [if_neg (c:=s > 0∧(-s - b*y) % (2*a)=0) (fun h=>h0 h.1),Int.add_zero,← yk (by omega) hb1]
  refine JF fun x _=>?_
  unfold ind
  by_cases e1:2*a*x=s - b*y
  ·rw [if_pos ((key x).2 (.inl e1)),if_pos e1]
  ·rw [if_neg (fun h=>((key x).1 h).elim e1 (by omega)),if_neg e1]
theorem jm {a b c n y:Int} {X:Nat} (h:∀ s:Int,0≤s→s*s≠b*b*y*y - 4*a*(c*y*y - n)):box (fun x=>ind a b c n x y) X=0:=by
 refine VB fun x _=>?_
 unfold ind
 rw [if_neg]
 intro e
 have h4:=qf4 a b c x y
 rw [e] at h4
 refine h ((2*a*x+b*y).natAbs:Int) (by omega) ?_
 rw [show (((2*a*x+b*y).natAbs:Int))*((2*a*x+b*y).natAbs:Int)=(2*a*x+b*y)*(2*a*x+b*y) from Int.natAbs_mul_self]
 grind
def rp (X Y:Nat) (a b c n:Int):Int:=box (fun y=>box (fun x=>ind a b c n x y) X) Y
theorem Qfl {X Y:Nat} {a b c n:Int}:0≤rp X Y a b c n∧rp X Y a b c n≤(((2*X+1)*(2*Y+1):Nat):Int):=by
 unfold rp box
 rw [Int.natCast_mul]
 exact vH fun y=>vY fun x=>QbV
theorem Qfr {a b c n x y:Int} {X:Nat} (hD:0 < 4*a*c - b*b) (h:4*c*n < (4*a*c - b*b)*(((X+1)*(X+1):Nat):Int)) (hx:X < x.natAbs):ind a b c n x y=0:=by
 unfold ind
 rw [if_neg]
 intro e
 have h4:=qf4' a b c x y
 rw [e] at h4
 have h5:=Qdo (2*c*y+b*x)
 have h6:(((X+1)*(X+1):Nat):Int)≤x*x:=by
  rw [← Int.natAbs_mul_self (a:=x)]
  exact Int.ofNat_le.2 (Nat.mul_le_mul hx hx)
 have h7:=Int.mul_le_mul_of_nonneg_left h6 (Int.le_of_lt hD)
 omega
theorem Qfp {a b c n x y:Int} {Y:Nat} (hD:0 < 4*a*c - b*b) (h:4*a*n < (4*a*c - b*b)*(((Y+1)*(Y+1):Nat):Int)) (hy:Y < y.natAbs):ind a b c n x y=0:=by
 unfold ind
 rw [if_neg]
 intro e
 have h4:=qf4 a b c x y
 rw [e] at h4
 have h5:=Qdo (2*a*x+b*y)
 have h6:(((Y+1)*(Y+1):Nat):Int)≤y*y:=by
  rw [← Int.natAbs_mul_self (a:=y)]
  exact Int.ofNat_le.2 (Nat.mul_le_mul hy hy)
 have h7:=Int.mul_le_mul_of_nonneg_left h6 (Int.le_of_lt hD)
 omega
theorem yU {g:Int→Int} {h H:Nat} (e:∀ x:Int,h < x.natAbs→g x=0) (e':∀ x:Int,H < x.natAbs→g x=0):box g h=box g H:=by
 rcases Nat.le_total h H with hl | hl
 ·exact (Qdz hl e).symm
 ·exact Qdz hl e'
theorem QdW {a b c n:Int} {X Y X' Y':Nat} (hD:0 < 4*a*c - b*b)
  (h1:4*c*n < (4*a*c - b*b)*(((X+1)*(X+1):Nat):Int)) (h2:4*a*n < (4*a*c - b*b)*(((Y+1)*(Y+1):Nat):Int))
  (h3:4*c*n < (4*a*c - b*b)*(((X'+1)*(X'+1):Nat):Int)) (h4:4*a*n < (4*a*c - b*b)*(((Y'+1)*(Y'+1):Nat):Int)):rp X Y a b c n=rp X' Y' a b c n:=by
 unfold rp
 rw [JF (h:=Y) (g':=fun y=>box (fun x=>ind a b c n x y) X') fun y _=>yU (fun x hx=>Qfr hD h1 hx) (fun x hx=>Qfr hD h3 hx)]
 exact yU (fun y hy=>VB fun x _=>Qfp hD h2 hy) (fun y hy=>VB fun x _=>Qfp hD h4 hy)
def Bn:Nat:=65536
def gs (f:Nat→Int):Nat→Int
 | 0=>0
 | k+1=>gs f k+f (k+1)*((Bn ^ (k+1):Nat):Int)
theorem yZ {f g:Nat→Int}:∀ {N:Nat},(∀ k,1≤k→k≤N→f k=g k)→gs f N=gs g N
 | 0,_=>rfl
 | N+1,h=>by
  show gs f N+f (N+1)*_=gs g N+g (N+1)*_
  rw [yZ (N:=N) fun k h1 h2=>h k h1 (by omega),h (N+1) (by omega) (Nat.le_refl _)]
theorem qi:∀ {N:Nat},gs (fun _=>0) N=0
 | 0=>rfl
 | N+1=>by
  show gs _ N+0*_=0
  rw [qi,Int.zero_mul]; rfl
theorem qE {f g:Nat→Int}:∀ {N:Nat},gs (fun n=>f n+g n) N=gs f N+gs g N
 | 0=>rfl
 | N+1=>by
  show gs _ N+(f (N+1)+g (N+1))*_=(gs f N+f (N+1)*_)+(gs g N+g (N+1)*_)
  rw [qE,Int.add_mul]; omega
theorem yc {f:Nat→Int} {w:Int}:∀ {N:Nat},gs (fun n=>w*f n) N=w*gs f N
 | 0=>by show (0:Int)=w*0; rw [Int.mul_zero]
 | N+1=>by
  show gs _ N+w*f (N+1)*_=w*(gs f N+f (N+1)*_)
  rw [yc,Int.mul_add,Int.mul_assoc]
theorem QbU {g:Nat→Int→Int} {lo:Int} {N:Nat}:∀ {k:Nat},gs (fun n=>smI (g n) lo k) N=smI (fun x=>gs (fun n=>g n x) N) lo k
 | 0=>qi
 | k+1=>by
  show gs (fun n=>smI (g n) lo k+g n (lo+k)) N=smI _ lo k+gs (fun n=>g n (lo+k)) N
  rw [qE,QbU]
theorem Qdv {g:Nat→Int→Int} {h N:Nat}:gs (fun n=>box (g n) h) N=box (fun x=>gs (fun n=>g n x) N) h:=QbU
def val (N:Nat):Int→Int
 | .ofNat v=>bif Nat.ble 1 v && Nat.ble v N then ((Bn ^ v:Nat):Int) else 0
 | .negSucc _=>0
theorem QbQ {v:Int}:∀ {N:Nat},gs (fun n=>if v=(n:Int) then 1 else 0) N=val N v
 | 0=>by
  cases v with
  | ofNat v =>
   show 0=val 0 (.ofNat v)
   unfold val
   cases v with
   | zero=>rfl
   | succ v=>rfl
  | negSucc v=>rfl
 | N+1=>by
  show gs _ N+(if v=((N+1:Nat):Int) then 1 else 0)*_=_
  rw [QbQ]
  cases v with
  | ofNat v =>
   unfold val
   by_cases h:v=N+1
   ·subst h
    have h1:Nat.ble (N+1) N=false:=by rw [Bool.eq_false_iff]; exact fun h=>by have:=Nat.le_of_ble_eq_true h; omega
    have h2:Nat.ble 1 (N+1)=true:=Nat.ble_eq_true_of_le (by omega)
    have h3:Nat.ble (N+1) (N+1)=true:=Nat.ble_eq_true_of_le (Nat.le_refl _)
    simp only [h1,h2,h3,Bool.and_false,Bool.and_true,cond_false,cond_true]
    rw [if_pos (show Int.ofNat (N+1)=((N+1:Nat):Int) from rfl),Int.one_mul,Int.zero_add]
   ·have h1:Nat.ble v (N+1)=Nat.ble v N:=by
     rw [Bool.eq_iff_iff]
     exact ⟨fun h=>Nat.ble_eq_true_of_le (by have:=Nat.le_of_ble_eq_true h; omega),fun h=>Nat.ble_eq_true_of_le (by have:=Nat.le_of_ble_eq_true h; omega)⟩
    simp only [h1]
    rw [if_neg (show ¬ (Int.ofNat v=((N+1:Nat):Int)) from fun e=>h (Int.ofNat.inj e)),Int.zero_mul,Int.add_zero]
  | negSucc v =>
   rw [if_neg (fun h=>by omega)]
   unfold val
   rw [Int.zero_mul]; rfl
theorem Qgj {X Y N:Nat} {a b c:Int}:gs (fun n=>rp X Y a b c n) N=box (fun y=>box (fun x=>val N (qf a b c x y)) X) Y:=by
 unfold rp
 rw [Qdv]
 refine JF fun y _=>?_
 rw [Qdv]
 exact JF fun x _=>QbQ
theorem Qfg {f:Nat→Int}:∀ {N:Nat},(∀ k,1≤k→k≤N → -65535≤f k∧f k≤65535) → -((Bn ^ (N+1):Nat):Int) < gs f N∧gs f N < ((Bn ^ (N+1):Nat):Int)
 | 0,_=>by show -((65536 ^ 1:Nat):Int) < 0∧(0:Int) < ((65536 ^ 1:Nat):Int); decide
 | N+1,h=>by
  have h1:=Qfg (N:=N) fun k h1 h2=>h k h1 (by omega)
  obtain ⟨h2,h3⟩:=h (N+1) (by omega) (Nat.le_refl _)
  show -((Bn ^ (N+1+1):Nat):Int) < gs f N+f (N+1)*((Bn ^ (N+1):Nat):Int)∧gs f N+f (N+1)*((Bn ^ (N+1):Nat):Int) < ((Bn ^ (N+1+1):Nat):Int)
  rw [Nat.pow_succ Bn (N+1)]
  obtain ⟨p,hp⟩:∃ p:Int,p=((Bn ^ (N+1):Nat):Int):=⟨_,rfl⟩
  have hp0:0≤p:=by omega
  rw [Int.natCast_mul,← hp,show ((Bn:Nat):Int)=65536 from rfl]
  rw [← hp] at h1
  have m1:=Int.mul_le_mul_of_nonneg_right h2 hp0
  have m2:=Int.mul_le_mul_of_nonneg_right h3 hp0
  omega
theorem Qck {f:Nat→Int}:∀ {N:Nat},(∀ k,1≤k→k≤N → -65535≤f k∧f k≤65535)→gs f N=0→∀ k,1≤k→k≤N→f k=0
 | 0,_,_,k,h1,h2=>by omega
 | N+1,h,e,k,h1,h2=>by
  have hl:=Qfg (N:=N) fun k h1 h2=>h k h1 (by omega)
  have e:gs f N+f (N+1)*((Bn ^ (N+1):Nat):Int)=0:=e
  have h0:f (N+1)=0:=by
   obtain ⟨p,hp⟩:∃ p:Int,p=((Bn ^ (N+1):Nat):Int):=⟨_,rfl⟩
   rw [← hp] at hl e
   rcases Int.lt_trichotomy (f (N+1)) 0 with h4 | h4 | h4
   ·have:=Int.mul_le_mul_of_nonneg_right (show f (N+1) ≤ -1 by omega) (show 0≤p by omega)
    omega
   ·exact h4
   ·have:=Int.mul_le_mul_of_nonneg_right (show 1≤f (N+1) by omega) (show 0≤p by omega)
    omega
  rcases Nat.lt_or_eq_of_le h2 with h5 | h5
  ·refine Qck (N:=N) (fun k h1 h2=>h k h1 (by omega)) ?_ k h1 (by omega)
   rw [h0,Int.zero_mul,Int.add_zero] at e
   exact e
  ·rw [h5]; exact h0
def sN (f:Nat→Int):Nat→Int
 | 0=>0
 | k+1=>sN f k+f (k+1)
theorem Qfk {g:Nat→Nat→Int} {N:Nat}:∀ {k:Nat},gs (fun n=>sN (g n) k) N=sN (fun m=>gs (fun n=>g n m) N) k
 | 0=>qi
 | k+1=>by
  show gs (fun n=>sN (g n) k+g n (k+1)) N=sN _ k+gs (fun n=>g n (k+1)) N
  rw [qE,Qfk]
theorem yJ {f g:Nat→Int}:∀ {N:Nat},(∀ k,1≤k→k≤N→f k=g k)→sN f N=sN g N
 | 0,_=>rfl
 | N+1,h=>by
  show sN f N+f (N+1)=sN g N+g (N+1)
  rw [yJ (N:=N) fun k h1 h2=>h k h1 (by omega),h (N+1) (by omega) (Nat.le_refl _)]
theorem Qfh {f:Nat→Int} (h:∀ k,-1≤f k∧f k≤1):∀ {N:Nat},-(N:Int)≤sN f N∧sN f N≤N
 | 0=>⟨Int.le_refl 0,Int.le_refl 0⟩
 | N+1=>by
  have h1:=Qfh h (N:=N)
  have h2:=h (N+1)
  show -((N+1:Nat):Int)≤sN f N+f (N+1)∧sN f N+f (N+1)≤((N+1:Nat):Int)
  omega
def geo (m:Nat):Nat→Int
 | 0=>0
 | k+1=>geo m k+((Bn ^ (m*(k+1)):Nat):Int)
theorem QcJ {m:Nat} (hm:1≤m):∀ {N:Nat},gs (fun n=>if n % m=0 then 1 else 0) N=geo m (N / m)
 | 0=>by rw [Nat.zero_div]; rfl
 | N+1=>by
  show gs _ N+(if (N+1) % m=0 then 1 else 0)*_=_
  rw [QcJ hm]
  by_cases h:(N+1) % m=0
  ·obtain ⟨q,hq⟩:=Nat.dvd_of_mod_eq_zero h
   have hq1:1≤q:=by
    rcases Nat.eq_zero_or_pos q with h0 | h0
    ·subst h0; omega
    ·exact h0
   obtain ⟨r,rfl⟩:∃ r,q=r+1:=⟨q - 1,by omega⟩
   have e1:(N+1) / m=r+1:=by rw [hq,Nat.mul_div_cancel_left _ (by omega)]
   have e2:N / m=r:=by
    refine Nat.div_eq_of_lt_le ?_ ?_
    ·rw [Nat.mul_comm]; rw [Nat.mul_succ] at hq; omega
    ·rw [Nat.mul_comm]; omega
   rw [if_pos h,e1,e2,Int.one_mul]
   show geo m r+_=geo m r+((Bn ^ (m*(r+1)):Nat):Int)
   rw [← hq]
  ·rw [if_neg h,Int.zero_mul,Int.add_zero,Nat.succ_div,if_neg (fun hd=>h (Nat.mod_eq_zero_of_dvd hd)),Nat.add_zero]
def divs (N n:Nat):List Nat:=(List.range' 1 N).filter fun m=>Nat.beq (n % m) 0
theorem vA {f:Nat→Int} {n:Nat}:∀ {N:Nat},((divs N n).map f).sum=sN (fun m=>if n % m=0 then f m else 0) N
 | 0=>rfl
 | N+1=>by
  have ih:=vA (f:=f) (n:=n) (N:=N)
  unfold divs at ih ⊢
  rw [show List.range' 1 (N+1)=List.range' 1 N++[N+1] by rw [List.range'_concat]; congr 2; omega,List.filter_append,List.map_append,List.sum_append,ih]
  show _=sN _ N+(if n % (N+1)=0 then f (N+1) else 0)
  by_cases h:n % (N+1)=0
  ·rw [List.filter_cons_of_pos (by rw [h]; rfl),if_pos h]; simp
  ·rw [List.filter_cons_of_neg (p:=fun m=>Nat.beq (n % m) 0) (fun e=>h (Nat.eq_of_beq_eq_true e)),if_neg h]; simp
end Go.Rp

/- Representations by the reduced forms of a fundamental discriminant: the finite check. Plain. -/
namespace Go.Rp
def tz:Nat→Nat→Nat
 | 0,_=>0
 | f+1,a=>bif Nat.beq (a % 2) 0 then tz f (a / 2)+1 else 0
def jac:Nat→Nat→Nat→Int→Int
 | 0,_,_,_=>0
 | f+1,a,m,o=>bif Nat.beq a 0 then (bif Nat.beq m 1 then o else 0) else
  jac f (m % (a / 2 ^ tz 9 a)) (a / 2 ^ tz 9 a)
   (bif Nat.beq (a / 2 ^ tz 9 a % 4) 3 && Nat.beq (m % 4) 3 then -(bif Nat.beq (tz 9 a % 2) 1 && (Nat.beq (m % 8) 3 || Nat.beq (m % 8) 5) then -o else o) else (bif Nat.beq (tz 9 a % 2) 1 && (Nat.beq (m % 8) 3 || Nat.beq (m % 8) 5) then -o else o))
def kr (D n:Nat):Int :=
 bif Nat.ble 1 (tz 9 n) && Nat.beq (D % 2) 0 then 0 else
  (bif Nat.beq (tz 9 n % 2) 1 && (Nat.beq ((8 - D % 8) % 8) 3 || Nat.beq ((8 - D % 8) % 8) 5) then -1 else 1)*jac 401 ((n / 2 ^ tz 9 n - D % (n / 2 ^ tz 9 n)) % (n / 2 ^ tz 9 n)) (n / 2 ^ tz 9 n) 1
theorem Qae:∀ {f a m:Nat} {o:Int},(-1≤o∧o≤1) → -1≤jac f a m o∧jac f a m o≤1
 | 0,_,_,_,_=>by show (-1:Int)≤0∧(0:Int)≤1; decide
 | f+1,a,m,o,h=>by
  unfold jac
  cases Nat.beq a 0
  ·rw [cond_false]
   refine Qae ?_
   cases (Nat.beq (a / 2 ^ tz 9 a % 4) 3 && Nat.beq (m % 4) 3)<;>cases (Nat.beq (tz 9 a % 2) 1 && (Nat.beq (m % 8) 3 || Nat.beq (m % 8) 5))<;>simp only [cond_false,cond_true]<;>omega
  ·rw [cond_true]
   cases Nat.beq m 1
   ·rw [cond_false]; decide
   ·rw [cond_true]; exact h
theorem Qci (D n:Nat) : -1≤kr D n∧kr D n≤1:=by
 unfold kr
 cases (Nat.ble 1 (tz 9 n) && Nat.beq (D % 2) 0)
 ·rw [cond_false]
  have h:=Qae (f:=401) (a:=(n / 2 ^ tz 9 n - D % (n / 2 ^ tz 9 n)) % (n / 2 ^ tz 9 n)) (m:=n / 2 ^ tz 9 n) (o:=1) (by decide)
  cases (Nat.beq (tz 9 n % 2) 1 && (Nat.beq ((8 - D % 8) % 8) 3 || Nat.beq ((8 - D % 8) % 8) 5))<;>simp only [cond_false,cond_true]<;>omega
 ·rw [cond_true]; decide
def gcdN (a b:Nat):Nat:=Nat.gcd a b
def clsA (D a:Nat):List (Int × Int × Int):=(List.range (2*a)).filterMap fun i =>
 bif Nat.beq (((bif Nat.ble a (i+1) then i+1 - a else a - (i+1))*(bif Nat.ble a (i+1) then i+1 - a else a - (i+1))+D) % (4*a)) 0 then
  one a (i+1) (bif Nat.ble a (i+1) then i+1 - a else a - (i+1)) (((bif Nat.ble a (i+1) then i+1 - a else a - (i+1))*(bif Nat.ble a (i+1) then i+1 - a else a - (i+1))+D) / (4*a))
 else none
where
 one (a j b c:Nat):Option (Int × Int × Int):=bif Nat.blt c a || (Nat.beq c a && Nat.blt j a) || Nat.blt 1 (gcdN (gcdN a b) c) then none else some ((a:Int),(bif Nat.ble a j then (b:Int) else -(b:Int)),(c:Int))
def cls (D:Nat):List (Int × Int × Int):=(List.range' 1 11).flatMap fun a=>bif Nat.ble (3*(a*a)) D then clsA D a else []
def rtN:Nat→Nat→Nat
 | 0,_=>0
 | k+1,q=>bif Nat.ble ((k+1)*(k+1)) q then k+1 else rtN k q
def bX (D:Nat) (f:Int × Int × Int):Nat:=rtN 40 (1600*f.2.2.toNat / D)
def bY (D:Nat) (f:Int × Int × Int):Nat:=rtN 40 (1600*f.1.toNat / D)
def okF (D:Nat) (f:Int × Int × Int):Bool :=
 decide (0 < f.1∧f.1≤20) && (decide (-f.1 < f.2.1) && (decide (f.2.1≤f.1) && (decide (f.1≤f.2.2) && (decide (f.2.2≤200) && ((decide (f.1 < f.2.2) || decide (0≤f.2.1)) && (decide (4*f.1*f.2.2 - f.2.1*f.2.1=(D:Int)) &&
 (decide (4*f.2.2*400 < (D:Int)*(((bX D f+1)*(bX D f+1):Nat):Int)) && decide (4*f.1*400 < (D:Int)*(((bY D f+1)*(bY D f+1):Nat):Int)))))))))
def wN (D:Nat):Int:=bif Nat.beq D 3 then 6 else bif Nat.beq D 4 then 4 else 2
def lhs (D:Nat):List (Int × Int × Int)→Int
 | []=>0
 | f::r=>box (fun y=>box (fun x=>val 400 (qf f.1 f.2.1 f.2.2 x y)) (bX D f)) (bY D f)+lhs D r
def bds (D:Nat):List (Int × Int × Int)→Nat
 | []=>0
 | f::r=>(2*bX D f+1)*(2*bY D f+1)+bds D r
def rhs (D:Nat):Int:=wN D*sN (fun m=>kr D m*geo m (400 / m)) 400
def chkd (D:Nat):Bool:=(cls D).all (okF D) && (Nat.ble (bds D (cls D)) 50000 && decide (lhs D (cls D)=rhs D))
def rps (D:Nat) (n:Int):List (Int × Int × Int)→Int
 | []=>0
 | f::r=>rp (bX D f) (bY D f) f.1 f.2.1 f.2.2 n+rps D n r
theorem yz {D:Nat} {n:Int}:∀ {l:List (Int × Int × Int)},0≤rps D n l∧rps D n l≤(bds D l:Int)
 | []=>⟨Int.le_refl 0,Int.le_refl 0⟩
 | f::r=>by
  have h1:=yz (D:=D) (n:=n) (l:=r)
  have h2:=Qfl (X:=bX D f) (Y:=bY D f) (a:=f.1) (b:=f.2.1) (c:=f.2.2) (n:=n)
  show 0≤rp _ _ _ _ _ n+rps D n r∧rp _ _ _ _ _ n+rps D n r≤(((2*bX D f+1)*(2*bY D f+1)+bds D r:Nat):Int)
  omega
theorem Qcu {D N:Nat} (hN:N=400):∀ {l:List (Int × Int × Int)},gs (fun n=>rps D n l) N=lhs D l
 | []=>qi
 | f::r=>by
  show gs (fun n=>rp _ _ _ _ _ (n:Int)+rps D n r) N=_+lhs D r
  rw [qE,Qcu hN,Qgj,hN]
theorem Qfo (D:Nat):0≤wN D∧wN D≤6:=by
 unfold wN
 cases Nat.beq D 3<;>cases Nat.beq D 4<;>decide
theorem Qfu {D N m:Nat} (hm:1≤m):gs (fun n=>if n % m=0 then kr D m else 0) N=kr D m*geo m (N / m):=by
 rw [← QcJ hm,← yc]
 refine yZ fun k _ _=>?_
 split
 ·rw [Int.mul_one]
 ·rw [Int.mul_zero]
theorem Qer (D:Nat) {N k:Nat}:sN (fun m=>gs (fun n=>if n % m=0 then kr D m else 0) N) k=sN (fun m=>kr D m*geo m (N / m)) k:=yJ fun _ hm _=>Qfu hm
theorem Qbw {D n:Nat} (h:chkd D=true) (h1:1≤n) (h2:n≤400):rps D n (cls D)=wN D*((divs 400 n).map (kr D)).sum:=by
 unfold chkd at h
 simp only [Bool.and_eq_true,decide_eq_true_eq] at h
 obtain ⟨-,hb,he⟩:=h
 have hb:=Nat.le_of_ble_eq_true hb
 rw [vA]
 have key:=Qck (N:=400) (f:=fun n=>rps D n (cls D)+(-1)*(wN D*sN (fun m=>if n % m=0 then kr D m else 0) 400)) (fun k _ _=>?_) ?_ n h1 h2
 ·have key:rps D n (cls D)+(-1)*(wN D*sN (fun m=>if n % m=0 then kr D m else 0) 400)=0:=key
  omega
 ·have e1:=yz (D:=D) (n:=(k:Int)) (l:=cls D)
  have e2:=Qfh (f:=fun m=>if k % m=0 then kr D m else 0) (fun m=>by
   have:=Qci D m
   show -1≤(if k % m=0 then kr D m else 0)∧(if k % m=0 then kr D m else 0)≤1
   split<;>omega) (N:=400)
  obtain ⟨w0,w6⟩:=Qfo D
  obtain ⟨s,hs⟩:∃ s,s=sN (fun m=>if k % m=0 then kr D m else 0) 400:=⟨_,rfl⟩
  show -65535≤rps D k (cls D)+(-1)*(wN D*sN (fun m=>if k % m=0 then kr D m else 0) 400)∧rps D k (cls D)+(-1)*(wN D*sN (fun m=>if k % m=0 then kr D m else 0) 400)≤65535
  rw [← hs] at e2 ⊢
  have m1:=Int.mul_le_mul_of_nonneg_left e2.1 w0
  have m2:=Int.mul_le_mul_of_nonneg_left e2.2 w0
  omega
 ·rw [qE,yc,yc,Qcu rfl,he,Qfk,Qer D]
  unfold rhs
  omega
end Go.Rp

/- The fundamental discriminants of absolute value up to 400. Plain. -/
namespace Go.Rp
def fd1:List Nat:=[3,4,7,8,11,15,19,20,23,24,31,35,39,40,43,47,51,52,55,56,59,67,68,71,79,83,84,87,88,91,95,103,104,107,111,115,116,119,120,123,127,131,132,136]
def fd2:List Nat:=[139,143,148,151,152,155,159,163,164,167,168,179,183,184,187,191,195,199,203,211,212,215,219,223,227,228,231,232,235,239,244,247,248,251,255,259,260,263,264,267]
def fd3:List Nat:=[271,276,280,283,287,291,292,295,296,299,303,307,308,311,312,319,323,327,328,331,335,339,340,344,347,355,356,359,367,371,372,376,379,383,388,391,395,399]
def fds:List Nat:=fd1++(fd2++fd3)
end Go.Rp
