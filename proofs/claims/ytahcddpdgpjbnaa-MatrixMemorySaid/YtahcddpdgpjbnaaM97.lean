/- Texts of this seat's own, merged: each begins with its own remark. -/
import Derived.Test.YtahcddpdgpjbnaaB92
import Derived.Test.YtahcddpdgpjbnaaM35
import Derived.Test.YtahcddpdgpjbnaaM34
/- The law of layer 9 on determinants. -/
namespace Go.Proofs.Ytahcddpdgpjbnaa
open Go.Hp
variable {G:World} {U U':UH} {M M':MH}
theorem Lit.vm {most n:Nat} {v:Value} {r c:Int} {f:Nat→Rat} (h:Lit most U v r c n f) (hV:Vld r c n):∃ R C:Nat,r=(R:Int)∧c=(C:Int)∧R≤most∧C≤most∧Vm (Wq 1) R C U v (fun i j=>f (i*C+j)):=by
 obtain ⟨h1,h2,a,rfl,h3⟩:=h
 obtain ⟨h4,h5⟩:=h2 hV
 obtain ⟨v1,v2,v3,v4,v5⟩:=hV
 obtain ⟨R,rfl⟩:=Int.eq_ofNat_of_zero_le v1
 obtain ⟨C,rfl⟩:=Int.eq_ofNat_of_zero_le v3
 have hn:n=R*C:=by rw [← Int.natCast_mul] at v5; omega
 subst hn
 refine ⟨R,C,rfl,rfl,by omega,by omega,a,rfl,h3.congr fun k hk=>?_⟩
 obtain ⟨-,hC⟩:=qF hk
 show f k=f (k / C*C+k % C)
 rw [Nat.div_add_mod']
end Go.Proofs.Ytahcddpdgpjbnaa

/- The law of layer 9 on echelon forms. -/
namespace Go.Proofs.Ytahcddpdgpjbnaa
open Go.Hp
variable {G:World} {U U':UH} {M M':MH}
theorem EchOf.unique {m n r r':Nat} {A R R':Nat→Nat→Rat} {p p':Nat→Nat} (h:EchOf m n r A R p) (h':EchOf m n r' A R' p'):r=r'∧(∀ i,i < r→p i=p' i)∧∀ i j,i < r→j < n→R i j=R' i j :=
 h.ech.unique h'.ech (h.same.trans h'.same.symm)
end Go.Proofs.Ytahcddpdgpjbnaa
