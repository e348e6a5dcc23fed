/- Texts of this seat's own, merged: each begins with its own remark. -/
import Derived.Test.YthnnlgjlhnmhnaaGreatM19
/- Kernels and systems of equations. No condition. -/
namespace Go.La
section
variable {K:Type} [Fld K]
def aug (n:Nat) (T:Mx K):Mx K:=fun i j=>if j < n then T i j else idm i (j - n)
theorem Qdp {n i j:Nat} {T:Mx K} (h:j < n):aug n T i j=T i j:=if_pos h
theorem QdS {n i j:Nat} {T:Mx K}:aug n T i (n+j)=idm i j:=by unfold aug; rw [if_neg (by omega),Nat.add_sub_cancel_left]
theorem sp_aug {m n:Nat} {T:Mx K} {v:Nat→K}:Sp m (n+m) (aug n T) v↔∀ j,j < n→v j=sm m fun i=>v (n+i)*T i j:=by
 refine ⟨fun ⟨c,hc⟩ j hj=>?_,fun h=>⟨fun i=>v (n+i),fun j hj=>?_⟩⟩
 ·have h1:∀ t,t < m→v (n+t)=c t:=fun t ht=>by
   rw [hc (n+t) (by omega),sm_one t ht (fun k _ hk=>by rw [QdS]; unfold idm; rw [if_neg hk,mul_zero]),QdS,idm,if_pos rfl,mul_one]
  rw [hc j (by omega)]
  exact sm_congr fun i hi=>by rw [h1 i hi,Qdp hj]
 ·rcases Nat.lt_or_ge j n with h1 | h1
  ·rw [h j h1]
   exact sm_congr fun i _=>by rw [Qdp h1]
  ·obtain ⟨t,rfl⟩:∃ t,j=n+t:=⟨j - n,by omega⟩
   rw [sm_one t (by omega) (fun k _ hk=>by rw [QdS]; unfold idm; rw [if_neg hk,mul_zero]),QdS,idm,if_pos rfl,mul_one]
def Ker (m n:Nat) (T:Mx K) (x:Nat→K):Prop:=∀ j,j < n→sm m (fun i=>x i*T i j)=0
structure KerOf (m n s:Nat) (T R:Mx K) (q:Nat→Nat):Prop where
 ech:Ech s m R q
 sp:∀ x,Ker m n T x↔Sp s m R x
theorem red_left {m n r:Nat} {T R:Mx K} {p:Nat→Nat} {d:K} (h:Red m (n+m) n r (aug n T) R p d):Ech r n R p∧Same r m n R T:=by
 refine ⟨⟨h.below,h.ech.mono,h.ech.one,h.ech.zero⟩,⟨fun i hi=>?_,fun i hi=>?_⟩⟩
 ·exact ((h.span.lt i (by have:=h.le; omega)).cut (Nat.le_add_right n m)).congr (fun a j _ hj=>Qdp hj) (fun _ _=>rfl)
 ·have h3:Sp m n R (T i):=((h.span.rt i hi).cut (Nat.le_add_right n m)).congr (fun _ _ _ _=>rfl) (fun j hj=>Qdp hj)
  obtain ⟨c,hc⟩:=h3
  refine ⟨c,fun j hj=>?_⟩
  have hr:=h.le
  rw [hc j hj,show m=r+(m - r) by omega,sm_app,sm_zero (n:=m - r) (fun k hk=>by rw [h.zero (r+k) j (by omega) (by omega) hj,mul_zero]),add_zero]
end
end Go.La

/- Solving by what is left. No condition. -/
namespace Go.La
section
variable {K:Type} [Fld K]
end
end Go.La

/- Solving by the echelon form of [T|I]. No condition. -/
namespace Go.La
section
variable {K:Type} [Fld K]
end
end Go.La

/- Rows times an invertible matrix. No condition. -/
namespace Go.La
section
variable {K:Type} [Fld K]
end
end Go.La
