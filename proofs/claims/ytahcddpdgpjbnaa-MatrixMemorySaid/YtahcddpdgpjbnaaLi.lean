/- Sizes of what is determined: echelon forms, kernels, solutions. No condition. -/
import Derived.Test.YtahcddpdgpjbnaaM19
import Derived.Test.YtahcddpdgpjbnaaM34
namespace Go.Proofs.Ytahcddpdgpjbnaa
open Go.Hp
theorem qh {m n k:Nat} {A:Nat→Nat→Rat} (hs:∀ i j,i < m→j < n→Szq (A i j) k):∃ (r:Nat) (R:Nat→Nat→Rat) (p:Nat→Nat),La.Ech r n R p∧La.Same r m n R A∧r≤m∧∀ i j,i < r→j < n→Szq (R i j) (La.gro k m):=by
 have key:∀ c,c≤n→∃ (r:Nat) (R:Nat→Nat→Rat) (p:Nat→Nat) (a:Nat) (B:Nat→Nat→Rat),La.Elm m n A c r R p a B∧(∀ i j,i < r→j < n→Szq (R i j) (La.gro k r))∧∀ i j,i < a→j < n→Szq (B i j) (La.gro k r):=by
  intro c
  induction c with
  | zero=>exact fun _=>⟨0,A,id,m,A,La.Elm.start,fun i j h=>absurd h (Nat.not_lt_zero i),hs⟩
  | succ c ih =>
   intro hc
   obtain ⟨s,R,p,u,B,hE,sR,sA⟩:=ih (by omega)
   by_cases hz:∀ i,i < u→B i c=0
   ·exact ⟨s,R,p,u,B,hE.pass hz,sR,sA⟩
   obtain ⟨i,hi,hne⟩:∃ i,i < u∧B i c≠0:=by
    apply Classical.byContradiction
    intro hn
    exact hz fun i hi=>Classical.byContradiction fun h=>hn ⟨i,hi,h⟩
   have hcn:c < n:=by omega
   have sx:=sA i c hi hcn
   have sr:Szq (((1:Int):Rat) / B i c) (1+La.gro k s):=Yw.div sx
   have hPe:∃ P:Nat→Rat,P=fun j=>((1:Int):Rat) / B i c*B i j:=⟨_,rfl⟩
   obtain ⟨P,hPe⟩:=hPe
   have hP:∀ j,P j=(B i c)⁻¹*B i j:=fun j=>by
    rw [hPe]
    show ((1:Int):Rat) / B i c*B i j=_
    rw [Rat.div_def,show ((1:Int):Rat)=1 from rfl,Rat.one_mul]
   have sP:∀ j,j < n→Szq (P j) (2*La.gro k s+1):=fun j hj=>by
    rw [hPe]
    exact (sr.mul (sA i j hi hj)).mono (by omega)
   have sC:∀ {f:Nat→Rat},(∀ j,j < n→Szq (f j) (La.gro k s))→∀ j,j < n→Szq (La.clr f P c j) (La.gro k (s+1)):=fun hf j hj=>((hf j hj).add ((hf c hcn).neg.mul (sP j hj))).mono (by show _≤4*La.gro k s+4; omega)
   refine ⟨s+1,fun t=>if t < s then La.clr (R t) P c else P,fun t=>if t < s then p t else c,u - 1,fun t=>La.clr (B (La.skip i t)) P c,
    hE.step hcn hi hne (fun j _=>hP j) (fun t j ht _=>by simp only [if_pos ht]) (fun j _=>by simp only [if_neg (Nat.lt_irrefl s)]) (fun t ht=>if_pos ht) (if_neg (Nat.lt_irrefl s)) ?_ ?_,?_,?_⟩
   ·intro t ht
    exact ⟨La.skip i t,by unfold La.skip; split<;>omega,by unfold La.skip; split<;>omega,fun _ _=>rfl⟩
   ·intro t ht htn
    refine ⟨if t < i then t else t - 1,by split<;>omega,fun j _=>?_⟩
    rw [show La.skip i (if t < i then t else t - 1)=t by
     unfold La.skip
     by_cases e:t < i
     ·rw [if_pos e,if_pos e]
     ·rw [if_neg e,if_neg (by omega)]; omega]
   ·intro t j ht hj
    by_cases e:t < s
    ·simp only [if_pos e]; exact sC (fun j hj=>sR t j e hj) j hj
    ·simp only [if_neg e]; exact (sP j hj).mono (by show _≤4*La.gro k s+4; omega)
   ·intro t j ht hj
    exact sC (fun j hj=>sA _ j (by unfold La.skip; split<;>omega) hj) j hj
 obtain ⟨r,R,p,a,B,hE,sR,-⟩:=key n (Nat.le_refl n)
 obtain ⟨h1,h2⟩:=hE.done (.inl rfl)
 have:=hE.cnt
 exact ⟨r,R,p,h1,h2,by omega,fun i j hi hj=>(sR i j hi hj).mono (La.gro_le (by omega))⟩
theorem Ech.small {m n r k:Nat} {A R:Nat→Nat→Rat} {p:Nat→Nat} (h:La.Ech r n R p) (e:La.Same r m n R A) (hs:∀ i j,i < m→j < n→Szq (A i j) k):∀ i j,i < r→j < n→Szq (R i j) (La.gro k m):=by
 obtain ⟨r',R',p',h1,h2,-,h3⟩:=qh hs
 obtain ⟨rfl,-,q⟩:=h.unique h1 (e.trans h2.symm)
 exact fun i j hi hj=>by rw [q i j hi hj]; exact h3 i j hi hj
theorem Qbi {m n b:Nat} {T:Nat→Nat→Rat} (hb1:1≤b) (hs:∀ i j,i < m→j < n→Szq (T i j) b):∀ i j,i < m→j < n+m→Szq (La.aug n T i j) b:=fun i j hi hj=>by
 unfold La.aug
 split
 ·rename_i h; exact hs i j hi h
 ·unfold La.idm
  split
  ·exact Yw.mono hb1
  ·exact Yk.mono hb1
theorem KerOf.small {m n s k:Nat} {T R:Nat→Nat→Rat} {q:Nat→Nat} (h:La.KerOf m n s T R q) (hk:1≤k) (hs:∀ i j,i < m→j < n→Szq (T i j) k):∀ i j,i < s→j < m→Szq (R i j) (La.gro k m):=by
 obtain ⟨r,S,p,h1,h2,-,h3⟩:=qh (Qbi hk hs)
 obtain ⟨s',hs',hp1,hp2⟩:=La.split_pivots (n:=n) h1.mono
 obtain ⟨h4,-,-,-⟩:=La.kern_ref h1 h2 hs' hp1 hp2
 obtain ⟨rfl,-,h5⟩:=h.unique h4
 exact fun i j hi hj=>by rw [h5 i j hi hj]; exact h3 _ _ (by omega) (by omega)
theorem SolOf.small {m n k b:Nat} {T:Nat→Nat→Rat} {f x:Nat→Rat} (h:La.SolOf m n T f x) (hk:1≤k) (hs:∀ i j,i < m→j < n→Szq (T i j) k) (hb:1≤b) (hf:∀ j,j < n→Szq (f j) b):∀ i,i < m→Szq (x i) (La.dbl (La.gro k m) b m):=by
 obtain ⟨r,R,p,h1,h2,hrm,h3⟩:=qh (Qbi hk hs)
 have key:∀ i,i≤r→∃ rest:Nat→Rat,(∀ j,j < n+m→Szq (rest j) (La.dbl (La.gro k m) b i))∧La.Sp r (n+m) R (fun j=>(if j < n then f j else 0) + -rest j)∧∀ t,t < i→rest (p t)=0:=by
  intro i
  induction i with
  | zero=>exact fun _=>⟨fun j=>if j < n then f j else 0,fun j _=>by
    show Szq (if j < n then f j else 0) b
    split
    ·rename_i h5; exact hf j h5
    ·exact Yk.mono hb,La.Sp.zero.congr (fun _ _ _ _=>rfl) fun j _=>(La.add_neg_self _).symm,fun t h=>absurd h (Nat.not_lt_zero t)⟩
  | succ i ih =>
   intro hi
   obtain ⟨rest,g1,g2,g3⟩:=ih (by omega)
   obtain ⟨g4,g5⟩:=La.rest_step h1 (by omega) g2 g3
   exact ⟨_,fun j hj=>((g1 j hj).add ((g1 (p i) (h1.lt i (by omega))).neg.mul (h3 i j (by omega) hj))).mono (by show _≤2*La.dbl (La.gro k m) b i+La.gro k m+1; omega),g4,g5⟩
 obtain ⟨rest,g1,g2,g3⟩:=key r (Nat.le_refl r)
 obtain ⟨g4,g5⟩:=La.solve_ref h1 h2 g2 g3
 have h6:=h.unique (g4 (g5 x h.1))
 exact fun i hi=>by
  rw [h6 i hi]
  exact (g1 (n+i) (by omega)).neg.mono (La.dbl_le hrm)
end Go.Proofs.Ytahcddpdgpjbnaa
