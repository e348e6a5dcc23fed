/- Walk of arith.Primes: the sieve. -/
import Derived.Test.YtnjpkncacddplaaGreatDoorM41
import Derived.Test.YtnjpkncacddplaaGreatDoorM21
import Derived.Test.YtnjpkncacddplaaGreatDoorM40
namespace Go.Proofs.YtnjpkncacddplaaGreatDoor
open Go.Hp
open Go.Fq (Prm Sv stk)
variable {G:World} {U U':UH} {M:MH}
structure PrL (p k:Nat) (F:Nat→Nat):Prop where
 prm:∀ i,i < k→Prm (F i)∧F i < p
 mono:∀ i j,i < j→j < k→F i < F j
 all:∀ q,Prm q→q < p→∃ i,i < k∧F i=q
theorem PrL.zero {F:Nat→Nat}:PrL 2 0 F:=⟨fun i h=>absurd h (Nat.not_lt_zero i),fun i j _ h=>absurd h (Nat.not_lt_zero j),fun q h h2=>absurd h.two (by omega)⟩
theorem PrL.skip {p k:Nat} {F:Nat→Nat} (h:PrL p k F) (hp:¬ Prm p):PrL (p+1) k F:=⟨fun i hi=>⟨(h.prm i hi).1,by have:=(h.prm i hi).2; omega⟩,h.mono,fun q hq h2=>by
 rcases Nat.lt_or_eq_of_le (Nat.le_of_lt_succ h2) with h3 | h3
 ·exact h.all q hq h3
 ·exact absurd (h3 ▸ hq) hp⟩
theorem PrL.add {p k:Nat} {F:Nat→Nat} (h:PrL p k F) (hp:Prm p):PrL (p+1) (k+1) (fun i=>if i=k then p else F i):=by
 refine ⟨fun i hi=>?_,fun i j hij hj=>?_,fun q hq h2=>?_⟩
 ·by_cases e:i=k
  ·simp only [if_pos e]; exact ⟨hp,by omega⟩
  ·simp only [if_neg e]; exact ⟨(h.prm i (by omega)).1,by have:=(h.prm i (by omega)).2; omega⟩
 ·simp only [if_neg (show i≠k by omega)]
  by_cases e:j=k
  ·simp only [if_pos e]; exact (h.prm i (by omega)).2
  ·simp only [if_neg e]; exact h.mono i j hij (by omega)
 ·rcases Nat.lt_or_eq_of_le (Nat.le_of_lt_succ h2) with h3 | h3
  ·obtain ⟨i,hi,e⟩:=h.all q hq h3
   exact ⟨i,by omega,by simp only [if_neg (show i≠k by omega)]; exact e⟩
  ·exact ⟨k,by omega,by simp only [if_true]; exact h3.symm⟩
def Vbo (_:UH) (v:Value) (b:Bool):Prop:=v = .bool b
end Go.Proofs.YtnjpkncacddplaaGreatDoor
