/- Texts of this seat's own, merged: each begins with its own remark. -/
import Derived.Test.YtjfkodlddladhaaGreatM56
import Derived.Test.YtjfkodlddladhaaGreatM17
import Derived.Test.YtjfkodlddladhaaGreatM51
import Derived.Test.YtjfkodlddladhaaGreatM50
import Derived.Test.YtjfkodlddladhaaGreatM58
import Derived.Test.YtjfkodlddladhaaGreatM53
import Derived.Test.YtjfkodlddladhaaGreatRt
import Derived.Test.YtjfkodlddladhaaGreatM15
import Derived.Test.YtjfkodlddladhaaGreatB193
import Derived.Test.YtjfkodlddladhaaGreatM43
/- Walks of layer 36's reference: even, Level. -/
namespace Go.Proofs.YtjfkodlddladhaaGreat
open Go.Hp
variable {G : World} {U U' : UH} {M : MH}
def dle (A : Nat → Nat → Rat) (i k : Nat) : Rat := if i = k then A i k * ((1 : Rat) / 2) else A i k
end Go.Proofs.YtjfkodlddladhaaGreat

/- Walks of layer 36's reference: Level. -/
namespace Go.Proofs.YtjfkodlddladhaaGreat
open Go.Hp
variable {G : World} {U U' : UH} {M : MH}
end Go.Proofs.YtjfkodlddladhaaGreat

/- Change of basis: inverses, levels. No condition. -/
namespace Go.La
def Eqm (n : Nat) (A B : Mx Rat) : Prop := ∀ i j, i < n → j < n → A i j = B i j
theorem Eqm.refl {n : Nat} (A : Mx Rat) : Eqm n A A := fun _ _ _ _ => rfl
theorem Eqm.trans {n : Nat} {A B C : Mx Rat} (h : Eqm n A B) (h' : Eqm n B C) : Eqm n A C := fun i j hi hj => (h i j hi hj).trans (h' i j hi hj)
theorem Eqm.symm {n : Nat} {A B : Mx Rat} (h : Eqm n A B) : Eqm n B A := fun i j hi hj => (h i j hi hj).symm
theorem Eqm.mm {n : Nat} {A A' B B' : Mx Rat} (h : Eqm n A A') (h' : Eqm n B B') : Eqm n (mm n A B) (mm n A' B') := fun i j hi hj => sm_congr fun k hk => by rw [h i k hi hk, h' k j hk hj]
theorem Eqm.tr {n : Nat} {A B : Mx Rat} (h : Eqm n A B) : Eqm n (tr A) (tr B) := fun i j hi hj => h j i hj hi
def dge (A : Mx Rat) (i k : Nat) : Rat := if i = k then A i k * ((1 : Rat) / 2) else A i k
end Go.La

/- A change of basis of a form: plain. -/
namespace Go.Proofs.YtjfkodlddladhaaGreat
open Go.Hp
open Go.La (Eqm)
variable {G : World} {U U' : UH} {M : MH}
end Go.Proofs.YtjfkodlddladhaaGreat

/- Laws of layer 36: Expansions. -/
namespace Go.Proofs.YtjfkodlddladhaaGreat
open Go.Hp
variable {G : World} {U U' : UH} {M : MH}
def ExpA (r prec : Int) (N : Nat) (f : Nat → Int) (U : UH) (v : Value) : Prop :=
 (chk r N f ≠ 0 → v = .tuple #[.agg #[.int .i64 0, .slice none 0 0], .int .i64 (chk r N f)]) ∧
  (∀ n : Nat, r = (n : Int) → chk r N f = 0 → ((prec < 0 ∨ 1000 < prec) → v = .tuple #[.agg #[.int .i64 0, .slice none 0 0], .int .i64 2]) ∧ (∀ P : Nat, prec = (P : Int) → P ≤ 1000 → WgtO n f P U v))
end Go.Proofs.YtjfkodlddladhaaGreat

/- A change of basis of a form: the vectors of a number. -/
namespace Go.Proofs.YtjfkodlddladhaaGreat
open Go.Hp
open Go.La (Eqm)
variable {G : World} {U U' : UH} {M : MH}
def act (n : Nat) (W : Nat → Nat → Int) (y : Nat → Int) : Nat → Int := fun a => Lr.sm n fun i => y i * W i a
theorem Skp.congr {g g' : Nat → Rat} {N s : Nat} (h : Skp g N s) (e : ∀ q, q < N → g q = g' q) : Skp g' N s :=
 ⟨h.1, fun a ha => by rw [← e a (by have := h.1; omega)]; exact h.2.1 a ha, fun hs => by rw [← e s hs]; exact h.2.2 hs⟩
end Go.Proofs.YtjfkodlddladhaaGreat

/- Laws of layer 36: Operations. -/
namespace Go.Proofs.YtjfkodlddladhaaGreat
open Go.Hp
open Classical
variable {G : World} {U U' : UH} {M : MH}
def grn (e : Int) (n : Nat) : Nat := if e = 0 then n else 0
end Go.Proofs.YtjfkodlddladhaaGreat

/- Walks of reference 33: free, Fundamental; square of reference 36. -/
namespace Go.Proofs.YtjfkodlddladhaaGreat
open Go.Hp
variable {G : World} {U U' : UH} {M : MH}
def Fdm (z : Int) : Prop := z % 4 = 1 ∧ Fq.Sqf z.natAbs ∨ z % 4 = 0 ∧ (z / 4) % 4 > 1 ∧ Fq.Sqf (z / 4).natAbs
end Go.Proofs.YtjfkodlddladhaaGreat

/- Walks of layer 36's reference: Disc. -/
namespace Go.Proofs.YtjfkodlddladhaaGreat
open Go.Hp
variable {G : World} {U U' : UH} {M : MH}
def dtn (n : Nat) (f : Nat → Int) : Nat := (Lr.det n (gz n f)).natAbs
def sgd (n : Nat) : Int := if n % 4 = 0 then 1 else -1
def DscO (n : Nat) (f : Nat → Int) (v : Value) : Prop :=
 (∃ d : Nat, 1 ≤ d ∧ d ≤ 600 ∧ Fq.Cnd (dtn n f) (sgd n) (sgd n) d ∧ v = .tuple #[.int .i64 (sgd n * d), .int .i64 0]) ∨ ((∀ d : Nat, d ≤ 600 → ¬ Fq.Cnd (dtn n f) (sgd n) (sgd n) d) ∧ v = .tuple #[.int .i64 0, .int .i64 7])
end Go.Proofs.YtjfkodlddladhaaGreat

/- Walks of layer 36: Disc. -/
namespace Go.Proofs.YtjfkodlddladhaaGreat
open Go.Hp
open Go.Fq (Prm Sqf)
variable {G : World} {U U' : UH} {M : MH}
structure Dst (D : Nat) (P : Nat → Nat) (k Fn w lf : Nat) : Prop where
 eq : D = Fn * (w * w) * lf
 w0 : 0 < w
 l0 : 0 < lf
 sq : Sqf Fn
 of : ∀ q, Prm q → q ∣ Fn → ∃ i, i < k ∧ P i = q
 no : ∀ i, i < k → ¬ P i ∣ lf
 le : Fn ≤ 600
theorem Dst.next {D k Fn w lf w' lf' : Nat} {P : Nat → Nat} (h : Dst D P k Fn w lf) (hd : lf' ∣ lf) (h0 : 0 < lf') (hw : 0 < w') (he : D = Fn * (w' * w') * 1 * lf') (hp : ¬ P k ∣ lf') : Dst D P (k + 1) Fn w' lf' :=
 ⟨by rw [he, Nat.mul_one], hw, h0, h.sq, fun q h1 h2 => by
  obtain ⟨i, h3, h4⟩ := h.of q h1 h2
  exact ⟨i, by omega, h4⟩, fun i hi h1 => by
  rcases Nat.lt_or_eq_of_le (Nat.le_of_lt_succ hi) with h2 | h2
  ·exact h.no i h2 (Nat.dvd_trans h1 hd)
  ·exact hp (h2 ▸ h1), h.le⟩
def DscP (n : Nat) (f : Nat → Int) (v : Value) : Prop :=
 (∃ d : Nat, 1 ≤ d ∧ d ≤ 600 ∧ (∀ a : Nat, a ≤ 600 → (Fq.Cnd (dtn n f) (sgd n) (sgd n) a ↔ a = d)) ∧ v = .tuple #[.int .i64 (sgd n * d), .int .i64 0]) ∨ ((∀ d : Nat, d ≤ 600 → ¬ Fq.Cnd (dtn n f) (sgd n) (sgd n) d) ∧ v = .tuple #[.int .i64 0, .int .i64 7])
end Go.Proofs.YtjfkodlddladhaaGreat

/- Laws of layer 36: Forms. -/
namespace Go.Proofs.YtjfkodlddladhaaGreat
open Go.Hp
variable {G : World} {U U' : UH} {M : MH}
end Go.Proofs.YtjfkodlddladhaaGreat
