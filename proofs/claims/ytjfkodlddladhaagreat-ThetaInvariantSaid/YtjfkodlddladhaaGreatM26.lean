/- Texts of this seat's own, merged: each begins with its own remark. -/
import Derived.Test.YtjfkodlddladhaaGreatB104
import Derived.Test.YtjfkodlddladhaaGreatM36
import Derived.Test.YtjfkodlddladhaaGreatM37
import Derived.Test.YtjfkodlddladhaaGreatLi
import Derived.Test.YtjfkodlddladhaaGreatM34
/- The law of layer 9 on kernels. -/
namespace Go.Proofs.YtjfkodlddladhaaGreat
open Go.Hp
variable {G : World} {U U' : UH} {M M' : MH}
end Go.Proofs.YtjfkodlddladhaaGreat

/- The law of layer 9 on inverses. -/
namespace Go.Proofs.YtjfkodlddladhaaGreat
open Go.Hp
variable {G : World} {U U' : UH} {M M' : MH}
theorem Qfb {n : Nat} (X A Y : Nat → Nat → Rat) (i j : Nat) : La.mm n (La.mm n X A) Y i j = La.mm n X (La.mm n A Y) i j := by
 show (La.sm n fun k => (La.sm n fun l => X i l * A l k) * Y k j) = La.sm n fun l => X i l * La.sm n fun k => A l k * Y k j
 rw [La.sm_congr (g := fun k => La.sm n fun l => X i l * A l k * Y k j) fun k _ => by rw [La.sm_mul'], La.sm_comm]
 exact La.sm_congr fun l _ => by
  rw [← La.sm_mul]
  exact La.sm_congr fun k _ => La.mul_assoc _ _ _
theorem Qbg {n : Nat} {X X' A A' : Nat → Nat → Rat} {i j : Nat} (hX : ∀ k, k < n → X i k = X' i k) (hA : ∀ k, k < n → A k j = A' k j) : La.mm n X A i j = La.mm n X' A' i j :=
 La.sm_congr fun k hk => by rw [hX k hk, hA k hk]
theorem QgX {n : Nat} (X : Nat → Nat → Rat) {i j : Nat} (hj : j < n) : La.mm n X La.idm i j = X i j := by
 show (La.sm n fun k => X i k * La.idm k j) = _
 rw [La.sm_one j hj fun k _ hk => by unfold La.idm; rw [if_neg hk, La.mul_zero]]
 unfold La.idm
 rw [if_pos rfl, La.mul_one]
theorem left_right {n : Nat} {A X Y : Nat → Nat → Rat} (hX : ∀ i j, i < n → j < n → La.mm n X A i j = La.idm i j) (hY : ∀ i j, i < n → j < n → La.mm n A Y i j = La.idm i j) : ∀ i j, i < n → j < n → X i j = Y i j := fun i j hi hj => by
 rw [← QgX X hj, ← Qbg (X := X) (A := La.mm n A Y) (fun _ _ => rfl) (fun k hk => hY k j hk hj), ← Qfb, Qbg (fun k hk => hX i k hi hk) (fun _ _ => rfl), La.idm_mm Y hi]
theorem QaM {n b : Nat} {vm : Value} {A : Nat → Nat → Rat} (hm : Vm (Wq b) n n U vm A) (hb1 : 1 ≤ b) (hg1 : 1 + n * La.gro b n ≤ 1000000000) (hgW : La.gro b n ≤ 1000000000) (hn1 : n ≤ 1000) :
  Ct Tryz.prog 133 [vm] G U M fun v U' D => ∃ (r : Nat) (R : Nat → Nat → Rat) (p : Nat → Nat) (vX : Value) (e : Int), v = .tuple #[vX, .int .i64 e] ∧ EchOf n n r A R p ∧ (r < n → e = 11 ∧ vX = .agg #[.int .i64 0, .int .i64 0, .slice none 0 0]) ∧
   (r = n → e = 0 ∧ ∃ X : Nat → Nat → Rat, Vm Vq n n U' vX X ∧ (∀ i j, i < n → j < n → La.mm n X A i j = La.idm i j) ∧ ∀ i j, i < n → j < n → Szq (X i j) (La.gro b n)) ∧ D = [] :=
 (Qbe hm hb1 hg1 hgW hn1).settle.mono fun _ _ _ _ ⟨h1, _, _, ⟨r, R, p, vX, e, h2, h3, h4, h5, _⟩, _, h7, h8⟩ =>
  ⟨r, R, p, vX, e, h2, h3, fun hr => ⟨(h4 hr).1, (h4 hr).2.1⟩, fun hr => by
   obtain ⟨h9, X, ⟨a, h10, h11⟩, h12⟩ := h5 hr
   exact ⟨h9, X, ⟨a, h10, h11.sett QL h7 h8⟩, h12⟩, h1⟩
end Go.Proofs.YtjfkodlddladhaaGreat

/- The law of layer 9 on solutions. -/
namespace Go.Proofs.YtjfkodlddladhaaGreat
open Go.Hp
variable {G : World} {U U' : UH} {M M' : MH}
def Rats (U : UH) (v : Value) (n : Nat) (f : Nat → Rat) : Prop := n ≤ 9223372036854775807 ∧ Ls Xq 4 n U [] v f
end Go.Proofs.YtjfkodlddladhaaGreat

/- Walks of matrix: Identity, Power. -/
namespace Go.Proofs.YtjfkodlddladhaaGreat
open Go.Hp
variable {G : World} {U U' : UH} {M M' : MH}
def mpow (n : Nat) (A : Nat → Nat → Rat) : Nat → Nat → Nat → Rat
 | 0 => La.idm
 | k + 1 => La.mm n (mpow n A k) A
end Go.Proofs.YtjfkodlddladhaaGreat

/- The law of layer 9 on powers. -/
namespace Go.Proofs.YtjfkodlddladhaaGreat
open Go.Hp
variable {G : World} {U U' : UH} {M M' : MH}
def psz (n b : Nat) : Nat → Nat
 | 0 => 1
 | k + 1 => 1 + n * (psz n b k + b + 1)
end Go.Proofs.YtjfkodlddladhaaGreat
