/- Walks of matrix: elimination. -/
import Derived.Test.YtnjpkncacddplaaGreatDoorM22
import Derived.Test.YtnjpkncacddplaaGreatDoorM19
namespace Go.Proofs.YtnjpkncacddplaaGreatDoor
open Go.Hp
variable {G:World} {U U':UH} {M M':MH}
theorem Vg {α:Type} (f:α→Nat) (a:α):∀ {l:List α} {i:Nat} (h:i < l.length),((l.set i a).map f).sum+f l[i]=(l.map f).sum+f a
 | x::l,0,_=>by simp; omega
 | x::l,i+1,h=>by
  have:=Vg f a (l:=l) (i:=i) (by simpa using h)
  simp only [List.set_cons_succ,List.map_cons,List.sum_cons,List.getElem_cons_succ]
  omega
theorem Qbh {α:Type} {l:List α} {r i:Nat} (hr:r < l.length) (hi:i < l.length):((l.set i l[r]).set r l[i]).Perm l :=
 pm fun f=>by
  have h1:=Vg f l[r] hi
  have h2:=Vg f l[i] (l:=l.set i l[r]) (i:=r) (by simpa using hr)
  have h3:(l.set i l[r])[r]'(by simpa using hr)=l[r]:=by
   rw [List.getElem_set]; split<;>rfl
  rw [h3] at h2
  omega
theorem Gs.congr {R:MH→Option Addr→Nat→Nat→List Value→Prop} {c n:Nat} {svs:List Value} {F:List MH} {A B:Nat→Nat→Rat} (h:Gs R c U svs F A) (hl:svs.length=n) (hR:∀ D q c' vs,R D q c c' vs→vs.length=c) (hz:∀ i j,i < n→j < c→A i j=B i j):Gs R c U svs F B :=
 ⟨h.1,fun i v D h1 h2=>by
  obtain ⟨q,c',vs,h3,h4,h5,h6⟩:=h.2 i v D h1 h2
  exact ⟨q,c',vs,h3,h4,h5,h6.congr (hR _ _ _ _ h5) fun j hj=>hz i j (by rw [← hl]; exact (List.getElem?_eq_some_iff.1 h1).1) hj⟩⟩
theorem Gs.swap {R:MH→Option Addr→Nat→Nat→List Value→Prop} {c r i:Nat} {svs:List Value} {F:List MH} {A:Nat→Nat→Rat} (h:Gs R c U svs F A) (hr:r < svs.length) (hi:i < svs.length) :
  ∃ vr vi F',svs[r]?=some vr∧svs[i]?=some vi∧F'.flatten.Perm F.flatten∧Gs R c U ((svs.set i vr).set r vi) F' (La.swap A r i):=by
 have hrF:r < F.length:=by rw [← h.1]; exact hr
 have hiF:i < F.length:=by rw [← h.1]; exact hi
 refine ⟨svs[r],svs[i],(F.set i F[r]).set r F[i],List.getElem?_eq_getElem hr,List.getElem?_eq_getElem hi,?_,?_,?_⟩
 ·exact List.Perm.flatten (Qbh hrF hiF)
 ·simp [h.1]
 ·intro k v D hv hD
  have key:∀ {a b:Nat} {v:Value} {D:MH},svs[a]?=some v→F[a]?=some D→A a=La.swap A r i b→∃ q c' vs,v = .slice q c c'∧c≤c'∧R D q c c' vs∧El Vq U vs (La.swap A r i b):=fun h1 h2 h3=>by
   rw [← h3]; exact h.2 _ _ _ h1 h2
  by_cases e:k=r
  ·subst e
   rw [List.getElem?_set_self (by simpa using hr)] at hv
   rw [List.getElem?_set_self (by simpa using hrF)] at hD
   exact key (a:=i) ((List.getElem?_eq_getElem hi).trans hv) ((List.getElem?_eq_getElem hiF).trans hD) La.swap_at.1.symm
  ·rw [List.getElem?_set_ne (Ne.symm e)] at hv hD
   by_cases e2:k=i
   ·subst e2
    rw [List.getElem?_set_self hi] at hv
    rw [List.getElem?_set_self hiF] at hD
    exact key (a:=r) ((List.getElem?_eq_getElem hr).trans hv) ((List.getElem?_eq_getElem hrF).trans hD) La.swap_at.2.symm
   ·rw [List.getElem?_set_ne (Ne.symm e2)] at hv hD
    exact key (a:=k) hv hD (La.swap_ne e e2).symm
end Go.Proofs.YtnjpkncacddplaaGreatDoor
