/- Rows and grids of machine integers, or of what they stand for. -/
import Derived.Test.YthnnlgjlhnmhnaaGreatM35
import Derived.Test.YthnnlgjlhnmhnaaGreatB97
namespace Go.Proofs.YthnnlgjlhnmhnaaGreat
open Go.Hp
theorem pq {α:Type} {a b:List α} (h:∀ f:α→Nat,(a.map f).sum=(b.map f).sum:=by intro f; simp only [List.map_append,List.map_cons,List.sum_append,List.sum_cons,List.flatten_cons,List.flatten_append,List.flatten_nil,List.map_nil,List.sum_nil,List.nil_append,List.append_nil]; omega):a.Perm b:=by
 letI:DecidableEq α:=fun a b=>Classical.propDecidable (a=b)
 rw [List.perm_iff_count]
 intro x
 rw [YY,YY]
 exact h _
theorem QdJ {α:Type} {B D R T W:List α} (h:W.Perm (D++R)):(B++(W++T)).Perm (D++(B++(R++T))) :=
 ((h.append_right T).append_left B).trans pq
theorem Qia {α:Type} {l:List α} {r i:Nat} (hr:r < l.length) (hi:i < l.length):((l.set i l[r]).set r l[i]).Perm l :=
 pq fun f=>by
  have h1:=jf f l[r] hi
  have h2:=jf f l[i] (l:=l.set i l[r]) (i:=r) (by simpa using hr)
  have h3:(l.set i l[r])[r]'(by simpa using hr)=l[r]:=by
   rw [List.getElem_set]; split<;>rfl
  rw [h3] at h2
  omega
class KeptC {α:Type} (ok:UH→Value→α→Prop):Prop where
 out:Kept ok
instance:KeptC Vz:=⟨QgY⟩
abbrev TIs:Nat:=22
section
variable {G:World} {U U' U0:UH} {M M':MH} {α:Type} {ok:UH→Value→α→Prop}
def Vrs (ok:UH→Value→α→Prop) (n:Nat) (U:UH) (v:Value) (g:Nat→α):Prop:=Ls ok 1 n U [] v g
instance {n:Nat} [KeptC ok]:KeptC (Vrs ok n):=⟨fun _ _ _ _ hU h=>Ls.up h KeptC.out hU (List.Sublist.refl _)⟩
def Gz (ok:UH→Value→α→Prop) (R:MH→Option Addr→Nat→Nat→List Value→Prop) (c:Nat) (U:UH) (svs:List Value) (F:List MH) (A:Nat→Nat→α):Prop :=
 svs.length=F.length∧∀ i v D,svs[i]?=some v→F[i]?=some D→∃ q c' vs,v = .slice q c c'∧c≤c'∧R D q c c' vs∧El ok U vs (A i)
theorem Gz.up [KeptC ok] {R:MH→Option Addr→Nat→Nat→List Value→Prop} {c:Nat} {svs:List Value} {F:List MH} {A:Nat→Nat→α} (h:Gz ok R c U svs F A) (hU:ULe U U'):Gz ok R c U' svs F A :=
 ⟨h.1,fun i v D h1 h2=>by
  obtain ⟨q,c',vs,h3,h4,h5,h6⟩:=h.2 i v D h1 h2
  exact ⟨q,c',vs,h3,h4,h5,h6.up KeptC.out hU⟩⟩
theorem Gz.nil {R:MH→Option Addr→Nat→Nat→List Value→Prop} {c:Nat} {A:Nat→Nat→α}:Gz ok R c U [] [] A:=⟨rfl,fun i v D h=>by simp at h⟩
theorem Gz.snoc {R:MH→Option Addr→Nat→Nat→List Value→Prop} {c c' n:Nat} {svs vs:List Value} {F:List MH} {D:MH} {q:Option Addr} {A:Nat→Nat→α} (h:Gz ok R c U svs F A) (hn:svs.length=n) (hc:c≤c') (hR:R D q c c' vs) (hel:El ok U vs (A n)) :
  Gz ok R c U (svs++[.slice q c c']) (F++[D]) A:=by
 refine ⟨by rw [List.length_append,List.length_append,h.1]; rfl,fun i v E h1 h2=>?_⟩
 rcases Nat.lt_trichotomy i svs.length with h3 | h3 | h3
 ·rw [List.getElem?_append_left h3] at h1
  rw [List.getElem?_append_left (by rw [← h.1]; exact h3)] at h2
  exact h.2 i v E h1 h2
 ·subst h3
  rw [List.getElem?_concat_length] at h1
  rw [h.1,List.getElem?_concat_length] at h2
  cases h1
  cases h2
  exact ⟨q,c',vs,rfl,hc,hR,by rw [hn]; exact hel⟩
 ·rw [List.getElem?_eq_none (by simp; omega)] at h1; cases h1
theorem Gz.put [KeptC ok] {R:MH→Option Addr→Nat→Nat→List Value→Prop} {c i:Nat} {svs:List Value} {F:List MH} {A:Nat→Nat→α} (h:Gz ok R c U svs F A) (hi:i < svs.length) :
  ∃ q c' vs D,svs[i]?=some (.slice q c c')∧F[i]?=some D∧c≤c'∧R D q c c' vs∧El ok U vs (A i)∧i < F.length ∧
   ∀ (U':UH) (D':MH) (vs':List Value) (A':Nat→Nat→α),ULe U U'→R D' q c c' vs'→El ok U' vs' (A' i)→(∀ k,k≠i→A' k=A k)→Gz ok R c U' svs (F.set i D') A':=by
 have hF:i < F.length:=by rw [← h.1]; exact hi
 have h1:=List.getElem?_eq_getElem hi
 have h2:=List.getElem?_eq_getElem hF
 generalize svs[i]=x at h1
 generalize F[i]=D at h2
 obtain ⟨q,c',vs,rfl,h3,h4,h5⟩:=h.2 i x D h1 h2
 refine ⟨q,c',vs,D,h1,h2,h3,h4,h5,hF,fun U' D' vs' A' hU hR hel hA=>⟨by rw [List.length_set]; exact h.1,fun k y E hk hE=>?_⟩⟩
 by_cases e:k=i
 ·subst e
  rw [List.getElem?_set_self hF] at hE
  cases hE
  rw [h1] at hk
  cases hk
  exact ⟨q,c',vs',rfl,h3,hR,hel⟩
 ·rw [List.getElem?_set_ne (Ne.symm e)] at hE
  obtain ⟨q,c',vs,rfl,h3,h4,h5⟩:=h.2 k y E hk hE
  exact ⟨q,c',vs,rfl,h3,h4,by rw [hA k e]; exact h5.up KeptC.out hU⟩
theorem Gz.congr {R:MH→Option Addr→Nat→Nat→List Value→Prop} {c n:Nat} {svs:List Value} {F:List MH} {A B:Nat→Nat→α} (h:Gz ok R c U svs F A) (hl:svs.length=n) (hR:∀ D q c' vs,R D q c c' vs→vs.length=c) (hz:∀ i j,i < n→j < c→A i j=B i j):Gz ok R c U svs F B :=
 ⟨h.1,fun i v D h1 h2=>by
  obtain ⟨q,c',vs,h3,h4,h5,h6⟩:=h.2 i v D h1 h2
  exact ⟨q,c',vs,h3,h4,h5,h6.congr (hR _ _ _ _ h5) fun j hj=>hz i j (by rw [← hl]; exact (List.getElem?_eq_some_iff.1 h1).1) hj⟩⟩
theorem Gz.swap {R:MH→Option Addr→Nat→Nat→List Value→Prop} {c r i:Nat} {svs:List Value} {F:List MH} {A:Nat→Nat→α} (h:Gz ok R c U svs F A) (hr:r < svs.length) (hi:i < svs.length) :
  ∃ vr vi F',svs[r]?=some vr∧svs[i]?=some vi∧F'.flatten.Perm F.flatten∧Gz ok R c U ((svs.set i vr).set r vi) F' (La.swap A r i):=by
 have hrF:r < F.length:=by rw [← h.1]; exact hr
 have hiF:i < F.length:=by rw [← h.1]; exact hi
 refine ⟨svs[r],svs[i],(F.set i F[r]).set r F[i],List.getElem?_eq_getElem hr,List.getElem?_eq_getElem hi,?_,?_,?_⟩
 ·exact List.Perm.flatten (Qia hrF hiF)
 ·simp [h.1]
 ·intro k v D hv hD
  have key:∀ {a b:Nat} {v:Value} {D:MH},svs[a]?=some v→F[a]?=some D→A a=La.swap A r i b→∃ q c' vs,v = .slice q c c'∧c≤c'∧R D q c c' vs∧El ok U vs (La.swap A r i b):=fun h1 h2 h3=>by
   rw [← h3]; exact h.2 _ _ _ h1 h2
  by_cases e:k=r
  ·subst e
   rw [List.getElem?_set_self (by simpa using hr)] at hv
   rw [List.getElem?_set_self (by simpa using hrF)] at hD
   exact key (a:=i) ((List.getElem?_eq_getElem hi).trans hv) ((List.getElem?_eq_getElem hiF).trans hD) La.swap_at.1.symm
  ·rw [List.getElem?_set_ne (Ne.symm e)] at hv hD
   by_cases e2:k=i
   ·subst e2
    rw [List.getElem?_set_self hi] at hv
    rw [List.getElem?_set_self hiF] at hD
    exact key (a:=r) ((List.getElem?_eq_getElem hr).trans hv) ((List.getElem?_eq_getElem hrF).trans hD) La.swap_at.2.symm
   ·rw [List.getElem?_set_ne (Ne.symm e2)] at hv hD
    exact key (a:=k) hv hD (La.swap_ne e e2).symm
end
end Go.Proofs.YthnnlgjlhnmhnaaGreat
