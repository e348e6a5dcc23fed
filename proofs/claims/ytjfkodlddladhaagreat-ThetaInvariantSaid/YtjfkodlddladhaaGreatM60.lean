/- Texts of this seat's own, merged: each begins with its own remark. -/
import Derived.Test.YtjfkodlddladhaaGreatM56
import Derived.Test.YtjfkodlddladhaaGreatM17
import Derived.Test.YtjfkodlddladhaaGreatM51
import Derived.Test.YtjfkodlddladhaaGreatM50
import Derived.Test.YtjfkodlddladhaaGreatM58
import Derived.Test.YtjfkodlddladhaaGreatM53
import Derived.Test.YtjfkodlddladhaaGreatRt
import Derived.Test.YtjfkodlddladhaaGreatM15
import Derived.Test.YtjfkodlddladhaaGreatB193
import Derived.Test.YtjfkodlddladhaaGreatM43
/- Walks of layer 36's reference: even, Level. -/
namespace Go.Proofs.YtjfkodlddladhaaGreat
open Go.Hp
variable {G : World} {U U' : UH} {M : MH}
def dle (A : Nat → Nat → Rat) (i k : Nat) : Rat := if i = k then A i k * ((1 : Rat) / 2) else A i k
end Go.Proofs.YtjfkodlddladhaaGreat

/- Walks of layer 36's reference: Level. -/
namespace Go.Proofs.YtjfkodlddladhaaGreat
open Go.Hp
variable {G : World} {U U' : UH} {M : MH}
theorem Qck {n i k : Nat} {X : Nat → Nat → Rat} (hk : k < n) : dlv n X (i * n + k) = (dle X i k).den := by
 have e1 : (i * n + k) / n = i := by rw [Nat.mul_comm, Nat.mul_add_div (by omega), Nat.div_eq_of_lt hk]; rfl
 have e2 : (i * n + k) % n = k := by rw [Nat.mul_comm, Nat.mul_add_mod, Nat.mod_eq_of_lt hk]
 have e3 : fl n X (i * n + k) = X i k := by show X ((i * n + k) / n) ((i * n + k) % n) = _; rw [e1, e2]
 unfold dlv dle
 rw [e1, e2, e3]
theorem qJ {n m : Nat} {X : Nat → Nat → Rat} : (∀ i k, i < n → k < n → (((m : Int) : Rat) * dle X i k).den = 1) ↔ Fq.lv (dlv n X) (n * n) ∣ m := by
 rw [Fq.lv_dvd]
 constructor
 ·intro h j hj
  obtain ⟨h1, h2⟩ := VV hj
  have h3 := Fq.den_one.1 (h _ _ h1 h2)
  have h4 := Qck (i := j / n) (X := X) h2
  rw [Nat.mul_comm, Nat.div_add_mod] at h4
  rw [h4]
  exact Int.natCast_dvd_natCast.1 h3
 ·intro h i k hi hk
  refine Fq.den_one.2 (Int.natCast_dvd_natCast.2 ?_)
  rw [← Qck hk]
  exact h _ (Jm hi hk)
end Go.Proofs.YtjfkodlddladhaaGreat

/- Change of basis: inverses, levels. No condition. -/
namespace Go.La
def Eqm (n : Nat) (A B : Mx Rat) : Prop := ∀ i j, i < n → j < n → A i j = B i j
theorem Eqm.refl {n : Nat} (A : Mx Rat) : Eqm n A A := fun _ _ _ _ => rfl
theorem Eqm.trans {n : Nat} {A B C : Mx Rat} (h : Eqm n A B) (h' : Eqm n B C) : Eqm n A C := fun i j hi hj => (h i j hi hj).trans (h' i j hi hj)
theorem Eqm.symm {n : Nat} {A B : Mx Rat} (h : Eqm n A B) : Eqm n B A := fun i j hi hj => (h i j hi hj).symm
theorem Eqm.mm {n : Nat} {A A' B B' : Mx Rat} (h : Eqm n A A') (h' : Eqm n B B') : Eqm n (mm n A B) (mm n A' B') := fun i j hi hj => sm_congr fun k hk => by rw [h i k hi hk, h' k j hk hj]
theorem Eqm.tr {n : Nat} {A B : Mx Rat} (h : Eqm n A B) : Eqm n (tr A) (tr B) := fun i j hi hj => h j i hj hi
theorem Yz {n : Nat} (X A Y : Mx Rat) : Eqm n (mm n (mm n X A) Y) (mm n X (mm n A Y)) := fun i j _ _ => mm_asc X A Y i j
theorem jQ {n : Nat} (A : Mx Rat) : Eqm n (mm n idm A) A := fun _ _ hi _ => idm_mm A hi
theorem QbY {n : Nat} (A B : Mx Rat) : Eqm n (mm n (tr B) (tr A)) (tr (mm n A B)) := fun _ _ _ _ => sm_congr fun _ _ => Rat.mul_comm _ _
theorem vw {n : Nat} : Eqm n (tr idm) idm := fun i j _ _ => by
 show (if j = i then (1 : Rat) else 0) = if i = j then 1 else 0
 by_cases e : i = j
 ·rw [if_pos e, if_pos e.symm]
 ·rw [if_neg e, if_neg (Ne.symm e)]
theorem inv_cong {n : Nat} {U V A X : Mx Rat} (hX : Eqm n (mm n X A) idm) (hV : Eqm n (mm n V U) idm) (hU : Eqm n (mm n U V) idm) : Eqm n (mm n (mm n (mm n (tr V) X) V) (mm n (mm n U A) (tr U))) idm := by
 have e1 : Eqm n (mm n V (mm n (mm n U A) (tr U))) (mm n A (tr U)) :=
  (Yz V (mm n U A) (tr U)).symm.trans ((((Yz V U A).symm.trans ((hV.mm (Eqm.refl A)).trans (jQ A)))).mm (Eqm.refl _))
 have e2 : Eqm n (mm n X (mm n A (tr U))) (tr U) := (Yz X A (tr U)).symm.trans ((hX.mm (Eqm.refl _)).trans (jQ _))
 exact (Yz _ _ _).trans (((Eqm.refl _).mm e1).trans ((Yz _ _ _).trans (((Eqm.refl _).mm e2).trans ((QbY U V).trans (hU.tr.trans vw)))))
theorem Qcn {n : Nat} (A : Mx Rat) : Eqm n (mm n A idm) A := fun i j _ hj => by
 show (sm n fun k => A i k * idm k j) = _
 rw [sm_one j hj fun k _ hne => by rw [show (idm k j : Rat) = 0 from if_neg hne, Rat.mul_zero], show (idm j j : Rat) = 1 from if_pos rfl, Rat.mul_one]
theorem left_right {n : Nat} {H Y Z : Mx Rat} (h : Eqm n (mm n Z H) idm) (h' : Eqm n (mm n H Y) idm) : Eqm n Z Y :=
 (Qcn Z).symm.trans (((Eqm.refl Z).mm h'.symm).trans ((Yz Z H Y).symm.trans ((h.mm (Eqm.refl Y)).trans (jQ Y))))
theorem inv_sym {n : Nat} {A X : Mx Rat} (hs : ∀ i j, i < n → j < n → A i j = A j i) (h : Eqm n (mm n A X) idm) : ∀ i j, i < n → j < n → X i j = X j i := fun i j hi hj =>
 (left_right (Z := tr X) (((Eqm.refl (tr X)).mm (fun a b ha hb => hs a b ha hb : Eqm n A (tr A))).trans ((QbY A X).trans (h.tr.trans vw))) h i j hi hj).symm
theorem cong_back {n : Nat} {U V A : Mx Rat} (hV : Eqm n (mm n V U) idm) : Eqm n (mm n (mm n V (mm n (mm n U A) (tr U))) (tr V)) A := by
 have e1 : Eqm n (mm n V (mm n (mm n U A) (tr U))) (mm n A (tr U)) :=
  (Yz V (mm n U A) (tr U)).symm.trans ((((Yz V U A).symm.trans ((hV.mm (Eqm.refl A)).trans (jQ A)))).mm (Eqm.refl _))
 exact (e1.mm (Eqm.refl _)).trans ((Yz _ _ _).trans (((Eqm.refl A).mm ((QbY V U).trans (hV.tr.trans vw))).trans (Qcn A)))
theorem QcI {q : Rat} : q.den = 1 ↔ ∃ z : Int, q = (z : Rat) := by
 constructor
 ·intro h; exact ⟨q.num, Rat.ext (Rat.num_intCast _).symm (h.trans (Rat.den_intCast _).symm)⟩
 ·rintro ⟨z, rfl⟩; exact Rat.den_intCast _
def dge (A : Mx Rat) (i k : Nat) : Rat := if i = k then A i k * ((1 : Rat) / 2) else A i k
theorem dge_cong {n : Nat} {m : Int} {X : Mx Rat} {V : Mx Int} (hs : ∀ i j, i < n → j < n → X i j = X j i) (h : ∀ i k, i < n → k < n → ((m : Rat) * dge X i k).den = 1) :
  ∀ i k, i < n → k < n → ((m : Rat) * dge (fun i j => bl n X (fun l => ((V l i : Int) : Rat)) (fun l => ((V l j : Int) : Rat))) i k).den = 1 := by
 have two : ((2 : Int) : Rat) * ((1 : Rat) / 2) = 1 := by decide +kernel
 have hW : ∀ i k, ∃ w : Int, (i < n → k < n → (m : Rat) * X i k = (w : Rat)) ∧ (i < n → i = k → ∃ z, w = 2 * z) := fun i k => by
  by_cases hi : i < n
  ·by_cases hk : k < n
   ·obtain ⟨z, hz⟩ := QcI.1 (h i k hi hk)
    by_cases e : i = k
    ·subst e
     refine ⟨2 * z, fun _ _ => ?_, fun _ _ => ⟨z, rfl⟩⟩
     unfold dge at hz
     rw [if_pos rfl] at hz
     rw [Rat.intCast_mul, ← hz, Rat.mul_comm ((2 : Int) : Rat), Rat.mul_assoc, Rat.mul_assoc, Rat.mul_comm ((1 : Rat) / 2), two, Rat.mul_one]
    ·unfold dge at hz
     rw [if_neg e] at hz
     exact ⟨z, fun _ _ => hz, fun _ h2 => absurd h2 e⟩
   ·exact ⟨0, fun _ h2 => absurd h2 hk, fun h1 h2 => absurd (h2 ▸ h1) hk⟩
  ·exact ⟨0, fun h1 => absurd h1 hi, fun h1 => absurd h1 hi⟩
 obtain ⟨W, hW⟩ : ∃ W : Mx Int, ∀ i k, (i < n → k < n → (m : Rat) * X i k = (W i k : Rat)) ∧ (i < n → i = k → ∃ z, W i k = 2 * z) := ⟨fun i k => Classical.choose (hW i k), fun i k => Classical.choose_spec (hW i k)⟩
 have hsym : ∀ i j, i < n → j < n → W i j = W j i := fun i j hi hj => by
  have h1 := (hW i j).1 hi hj
  rw [hs i j hi hj, (hW j i).1 hj hi] at h1
  exact (Rat.intCast_inj.1 h1).symm
 have key : ∀ i k, (m : Rat) * bl n X (fun l => ((V l i : Int) : Rat)) (fun l => ((V l k : Int) : Rat)) = ((Lr.sm n fun a => Lr.sm n fun b => V a i * W a b * V b k : Int) : Rat) := fun i k => by
  unfold bl
  rw [Fq.hom_q.sm, Lr.sm_la, ← sm_mul]
  have e1 : ∀ a, a < n → ((Lr.sm n fun b => V a i * W a b * V b k : Int) : Rat) = sm n fun b => ((V a i : Int) : Rat) * ((m : Rat) * X a b) * ((V b k : Int) : Rat) := fun a ha => by
   rw [Fq.hom_q.sm, Lr.sm_la]
   exact sm_congr fun b hb => by rw [Rat.intCast_mul, Rat.intCast_mul, (hW a b).1 ha hb]
  rw [sm_congr e1, sm_comm]
  refine sm_congr fun b _ => ?_
  rw [← sm_mul', ← sm_mul]
  exact sm_congr fun a _ => by
   show (m : Rat) * (((V a i : Int) : Rat) * X a b * ((V b k : Int) : Rat)) = _
   rw [← Rat.mul_assoc, ← Rat.mul_assoc, Rat.mul_comm (m : Rat), Rat.mul_assoc ((V a i : Int) : Rat)]
 intro i k hi hk
 rw [QcI]
 unfold dge
 by_cases e : i = k
 ·subst e
  rw [if_pos rfl, ← Rat.mul_assoc, key]
  obtain ⟨z, hz⟩ := Bx.even_val hsym (fun a ha => (hW a a).2 ha rfl) (fun l => V l i)
  refine ⟨z, ?_⟩
  rw [hz, Rat.intCast_mul, Rat.mul_comm ((2 : Int) : Rat), Rat.mul_assoc, two, Rat.mul_one]
 ·rw [if_neg e, key]
  exact ⟨_, rfl⟩
end Go.La

/- A change of basis of a form: plain. -/
namespace Go.Proofs.YtjfkodlddladhaaGreat
open Go.Hp
open Go.La (Eqm)
variable {G : World} {U U' : UH} {M : MH}
theorem QfB {n i j a : Nat} {f u : Nat → Int} : ∀ b, cin n f u i j a b = Lr.sm b fun k => u (i * n + a) * f (a * n + k) * u (j * n + k)
 | 0 => rfl
 | b + 1 => congrArg (· + _) (QfB b)
theorem Qfh {n i j : Nat} {f u : Nat → Int} : ∀ a, cou n f u i j a = Lr.sm a fun l => cin n f u i j l n
 | 0 => rfl
 | a + 1 => congrArg (· + _) (Qfh a)
theorem Qed {n i j : Nat} {f u : Nat → Int} (hj : j < n) : chf n f u (i * n + j) = Lr.sm n fun l => Lr.sm n fun k => u (i * n + l) * f (l * n + k) * u (j * n + k) := by
 unfold chf
 rw [(dm hj).1, (dm hj).2, Qfh]
 exact Lr.sm_congr fun l _ => QfB n
theorem yH {n i j : Nat} {f u : Nat → Int} (hj : j < n) : gq n (chf n f u) i j = La.bl n (gq n f) (gq n u i) (gq n u j) := by
 show ((chf n f u (i * n + j) : Int) : Rat) = _
 rw [Qed hj, Fq.hom_q.sm, Lr.sm_la]
 have e1 : ∀ l, l < n → ((Lr.sm n fun k => u (i * n + l) * f (l * n + k) * u (j * n + k) : Int) : Rat) = La.sm n fun k => gq n u i l * gq n f l k * gq n u j k := fun l _ => by
  rw [Fq.hom_q.sm, Lr.sm_la]
  exact La.sm_congr fun k _ => by rw [Rat.intCast_mul, Rat.intCast_mul]; rfl
 rw [La.sm_congr e1, La.sm_comm]
 exact La.sm_congr fun k _ => La.sm_mul' _ _ _
theorem vT {n : Nat} {f u : Nat → Int} : Eqm n (gq n (chf n f u)) (La.mm n (La.mm n (gq n u) (gq n f)) (La.tr (gq n u))) := fun _ _ _ hj => yH hj
theorem Qgq {n : Nat} {f u : Nat → Int} (h : Lr.det n (gz n u) = 1 ∨ Lr.det n (gz n u) = -1) : Lr.det n (gz n (chf n f u)) = Lr.det n (gz n f) := by
 have e : La.det n (gq n (chf n f u)) = La.det n (gq n f) := by
  rw [La.det_congr vT, La.det_mm, La.det_mm, La.det_tr, yF, yF]
  rcases h with h | h <;> rw [h]
  ·rw [show (((1 : Int)) : Rat) = 1 from rfl, Rat.one_mul, Rat.mul_one]
  ·rw [show (((-1 : Int)) : Rat) = -1 from rfl, Rat.neg_mul, Rat.one_mul, Rat.mul_neg, Rat.mul_one, Rat.neg_neg]
 rw [yF, yF] at e
 exact Rat.intCast_inj.1 e
theorem QbE {n : Nat} {u : Nat → Int} (h : Lr.det n (gz n u) = 1 ∨ Lr.det n (gz n u) = -1) : ∃ V : Nat → Nat → Int, Eqm n (La.mm n (fun i j => ((V i j : Int) : Rat)) (gq n u)) La.idm ∧ Eqm n (La.mm n (gq n u) (fun i j => ((V i j : Int) : Rat))) La.idm := by
 obtain ⟨e, he⟩ : ∃ e, e = Lr.det n (gz n u) := ⟨_, rfl⟩
 have hee : e * e = 1 := by rcases h with h | h <;> rw [he, h] <;> rfl
 have hX : Eqm n (La.mm n (fun i j => ((e * Lr.adj n (Lr.tr (gz n u)) j i : Int) : Rat)) (gq n u)) La.idm := fun i j hi hj => by
  have h1 := La.adj_rt (A := Lr.tr (gz n u)) hj hi
  rw [Lr.det_tr, ← he] at h1
  show (La.sm n fun k => ((e * Lr.adj n (Lr.tr (gz n u)) k i : Int) : Rat) * gq n u k j) = _
  rw [La.sm_congr (g := fun k => (e : Rat) * (((Lr.tr (gz n u) j k : Int) : Rat) * ((Lr.adj n (Lr.tr (gz n u)) k i : Int) : Rat))) fun k _ => by
   rw [Rat.intCast_mul, Rat.mul_assoc, Rat.mul_comm ((Lr.adj n _ k i : Int) : Rat)]; rfl, La.sm_mul, h1]
  show _ = if i = j then (1 : Rat) else 0
  by_cases e1 : i = j
  ·rw [if_pos e1, if_pos e1.symm, ← Rat.intCast_mul, hee]; rfl
  ·rw [if_neg e1, if_neg (Ne.symm e1), Rat.mul_zero]
 exact ⟨fun i j => e * Lr.adj n (Lr.tr (gz n u)) j i, hX, fun i j hi hj => La.inv_rt (A := gz n u) hX (by rcases h with h | h <;> rw [h] <;> decide) hi hj⟩
theorem Qcb {n : Nat} {A B : La.Mx Rat} (h : Eqm n (La.mm n A B) La.idm) (x : Nat → Rat) {i : Nat} (hi : i < n) : (La.sm n fun j => (La.sm n fun k => x k * A k j) * B j i) = x i := by
 rw [La.sm_congr (g := fun j => La.sm n fun k => x k * (A k j * B j i)) fun j _ => by rw [← La.sm_mul']; exact La.sm_congr fun k _ => Rat.mul_assoc _ _ _, La.sm_comm]
 rw [La.sm_congr (g := fun k => x k * La.idm k i) fun k hk => by rw [La.sm_mul]; exact congrArg (x k * ·) (h k i hk hi)]
 rw [La.sm_one i hi fun k _ hne => by rw [show (La.idm k i : Rat) = 0 from if_neg hne, Rat.mul_zero], show (La.idm i i : Rat) = 1 from if_pos rfl, Rat.mul_one]
theorem Qct {n : Nat} {f u : Nat → Int} (x y : Nat → Rat) : La.bl n (gq n (chf n f u)) x y = La.bl n (gq n f) (fun j => La.sm n fun i => x i * gq n u i j) (fun j => La.sm n fun i => y i * gq n u i j) := by
 rw [La.bl_congr (B := La.mm n (La.mm n (gq n u) (gq n f)) (La.tr (gq n u))) (x' := x) (y' := y) vT (fun _ _ => rfl) (fun _ _ => rfl)]
 exact La.bl_mul
theorem Qhw {n : Nat} {f u : Nat → Int} (hn1 : 1 ≤ n) (hn8 : n ≤ 8) (he : Evn n f) (hp : Pdm n f) (h : Lr.det n (gz n u) = 1 ∨ Lr.det n (gz n u) = -1) (hi : Ins (n * n) (chf n f u)) : chk (n : Int) (n * n) (chf n f u) = 0 := by
 obtain ⟨hs, hpd, -⟩ := JZ he hp
 obtain ⟨V, -, hV⟩ := QbE h
 have hsH : ∀ i j, i < n → j < n → gq n (chf n f u) i j = gq n (chf n f u) j i := fun i j hi hj => by
  rw [yH hj, yH hi]
  exact La.bl_symm hs _ _
 have hev : Evn n (chf n f u) := fun i hi => ⟨fun k hk => Rat.intCast_inj.1 (hsH i k hi hk), by
  have h1 := Bx.even_val (M := gz n f) (fun a b ha hb => (he a ha).1 b hb) (fun a ha => by
   have h2 := (he a ha).2
   exact ⟨f (a * n + a) / 2, by show f (a * n + a) = _; rw [← Int.dvd_iff_tmod_eq_zero] at h2; omega⟩) (fun a => u (i * n + a))
  obtain ⟨z, hz⟩ := h1
  rw [Qed hi]
  rw [show (Lr.sm n fun l => Lr.sm n fun k => u (i * n + l) * f (l * n + k) * u (i * n + k)) = 2 * z from hz]
  exact Int.mul_tmod_right ..⟩
 have hpH : La.Pdf n (gq n (chf n f u)) := fun x ⟨j, hj, hx⟩ => by
  rw [Qct]
  refine hpd _ (Classical.byContradiction fun hno => hx ?_)
  have hz : ∀ a, a < n → (La.sm n fun k => x k * gq n u k a) = 0 := fun a ha => Classical.byContradiction fun h2 => hno ⟨a, ha, h2⟩
  rw [← Qcb hV x hj]
  exact La.sm_zero fun a ha => by rw [hz a ha, Rat.zero_mul]
 have hpm : Pdm n (chf n f u) := fun k _ hk => (La.pdf_minors hsH hpH k hk).2
 unfold chk
 rw [Int.toNat_natCast, if_neg (by omega), if_neg (fun h => h (Int.natCast_mul n n)), if_neg (Classical.not_not.2 (show ∀ k, k < n * n → -1000 ≤ chf n f u k ∧ chf n f u k ≤ 1000 from hi)), if_neg (Classical.not_not.2 hev), if_neg (Classical.not_not.2 hpm)]
theorem QeI {n m : Nat} {f u : Nat → Int} {X Y : Nat → Nat → Rat} (hs : ∀ i j, i < n → j < n → gq n f i j = gq n f j i) (h : Lr.det n (gz n u) = 1 ∨ Lr.det n (gz n u) = -1) (hX : Inv n f X) (hY : Inv n (chf n f u) Y) :
  (∀ i k, i < n → k < n → (((m : Int) : Rat) * dle X i k).den = 1) ↔ (∀ i k, i < n → k < n → (((m : Int) : Rat) * dle Y i k).den = 1) := by
 obtain ⟨V, hV1, hV2⟩ := QbE h
 have hsH : ∀ i j, i < n → j < n → gq n (chf n f u) i j = gq n (chf n f u) j i := fun i j hi hj => by
  rw [yH hj, yH hi]
  exact La.bl_symm hs _ _
 have h1 : Eqm n (fun i j => La.bl n X (fun l => ((V l i : Int) : Rat)) (fun l => ((V l j : Int) : Rat))) Y :=
  La.left_right (H := gq n (chf n f u)) (((Eqm.refl _).mm vT).trans (La.inv_cong hX.left hV1 hV2)) hY.right
 have h2 : Eqm n (fun i j => La.bl n Y (fun l => ((gz n u l i : Int) : Rat)) (fun l => ((gz n u l j : Int) : Rat))) X :=
  La.left_right (H := gq n f) (((Eqm.refl _).mm ((La.cong_back (A := gq n f) hV1).symm.trans (((Eqm.refl _).mm vT.symm).mm (Eqm.refl _)))).trans (La.inv_cong hY.left hV2 hV1)) hX.right
 constructor
 ·intro hx i k hi hk
  have := La.dge_cong (V := V) (La.inv_sym hs hX.right) hx i k hi hk
  rw [show dle Y i k = La.dge (fun i j => La.bl n X (fun l => ((V l i : Int) : Rat)) (fun l => ((V l j : Int) : Rat))) i k by
   unfold dle La.dge; rw [← h1 i k hi hk]]
  exact this
 ·intro hx i k hi hk
  have := La.dge_cong (V := gz n u) (La.inv_sym hsH hY.right) hx i k hi hk
  rw [show dle X i k = La.dge (fun i j => La.bl n Y (fun l => ((gz n u l i : Int) : Rat)) (fun l => ((gz n u l j : Int) : Rat))) i k by
   unfold dle La.dge; rw [← h2 i k hi hk]]
  exact this
end Go.Proofs.YtjfkodlddladhaaGreat

/- Laws of layer 36: Expansions. -/
namespace Go.Proofs.YtjfkodlddladhaaGreat
open Go.Hp
variable {G : World} {U U' : UH} {M : MH}
def ExpA (r prec : Int) (N : Nat) (f : Nat → Int) (U : UH) (v : Value) : Prop :=
 (chk r N f ≠ 0 → v = .tuple #[.agg #[.int .i64 0, .slice none 0 0], .int .i64 (chk r N f)]) ∧
  (∀ n : Nat, r = (n : Int) → chk r N f = 0 → ((prec < 0 ∨ 1000 < prec) → v = .tuple #[.agg #[.int .i64 0, .slice none 0 0], .int .i64 2]) ∧ (∀ P : Nat, prec = (P : Int) → P ≤ 1000 → WgtO n f P U v))
end Go.Proofs.YtjfkodlddladhaaGreat

/- A change of basis of a form: the vectors of a number. -/
namespace Go.Proofs.YtjfkodlddladhaaGreat
open Go.Hp
open Go.La (Eqm)
variable {G : World} {U U' : UH} {M : MH}
theorem QhF {n m : Nat} {f x : Nat → Int} {X : Nat → Nat → Rat} (hs : ∀ i j, i < n → j < n → gq n f i j = gq n f j i) (hpd : La.Pdf n (gq n f)) (hX : Inv n f X) (hq : qp n f x n ≤ 2 * (m : Int)) {i : Nat} (hi : i < n) : -(bd X m i : Int) ≤ x i ∧ x i ≤ bd X m i := by
 have h1 := Bx.coord hs hpd hX.right hi (fun j => ((x j : Int) : Rat))
 rw [← QcA] at h1
 have hp := hX.pos i hi
 have h2 : (((x i * x i : Int)) : Rat) ≤ (((2 * m : Int)) : Rat) * X i i := by
  rw [Rat.intCast_mul]
  exact Rat.le_trans h1 (Rat.mul_le_mul_of_nonneg_right (Rat.intCast_le_intCast.2 hq) (Rat.le_of_lt hp))
 have h3 : x i * x i ≤ ((((2 * m : Int)) : Rat) * X i i).floor := Rat.le_floor_iff.2 h2
 have h4 := Bx.isq_hi ((((2 * m : Int)) : Rat) * X i i).floor.natAbs
 have h5 : (x i).natAbs * (x i).natAbs ≤ ((((2 * m : Int)) : Rat) * X i i).floor.natAbs := by
  have h6 : ((x i).natAbs * (x i).natAbs : Int) = x i * x i := Int.natAbs_mul_self' (x i)
  have h7 : 0 ≤ x i * x i := by rw [← h6, ← Int.natCast_mul]; exact Int.natCast_nonneg _
  generalize ((((2 * m : Int)) : Rat) * X i i).floor = F at h3
  have : (((x i).natAbs * (x i).natAbs : Nat) : Int) ≤ (F.natAbs : Int) := by rw [Int.natCast_mul, h6]; omega
  exact Int.ofNat_le.1 this
 have h8 : (x i).natAbs ≤ bd X m i := by
  unfold bd
  refine Nat.le_of_not_lt fun h9 => ?_
  generalize Bx.isq ((((2 * m : Int)) : Rat) * X i i).floor.natAbs = R at h4 h9
  have h10 : R + 1 ≤ (x i).natAbs := h9
  have := Nat.mul_le_mul h10 h10
  omega
 omega
theorem Qav {n : Nat} {f x y : Nat → Int} (h : ∀ i, i < n → x i = y i) : qp n f x n = qp n f y n := by
 unfold qp rp
 exact Lr.sm_congr fun a ha => by rw [h a ha, Lr.sm_congr fun j hj => by rw [h j hj]]
def act (n : Nat) (W : Nat → Nat → Int) (y : Nat → Int) : Nat → Int := fun a => Lr.sm n fun i => y i * W i a
theorem QgT {n m q : Nat} {f g : Nat → Int} {b' : Nat → Nat} {X : Nat → Nat → Rat} {W : Nat → Nat → Int} (hef : Evn n f) (heg : Evn n g) (hsf : ∀ i j, i < n → j < n → gq n f i j = gq n f j i) (hpf : La.Pdf n (gq n f)) (hpg : La.Pdf n (gq n g)) (hX : Inv n f X)
  (hval : ∀ y : Nat → Int, qp n g y n = qp n f (act n W y) n) (hinj : ∀ y y' : Nat → Int, (∀ a, a < n → act n W y a = act n W y' a) → ∀ i, i < n → y i = y' i) (hq : q ≤ m) :
  cv n g b' (Bx.pre b' n) q ≤ cv n f (bd X m) (Bx.pre (bd X m) n) q := by
 have two : ∀ {h : Nat → Int} {x : Nat → Int}, Evn n h → qp n h x n = 2 * qv n h x := fun he => by
  obtain ⟨z, hz⟩ := QgF he
  unfold qv
  rw [hz, Int.mul_tdiv_cancel_left _ (by decide)]
 have hex : ∀ k, ∃ l, vn n g b' k = q → l < Bx.pre (bd X m) n ∧ ∀ i, i < n → Bx.vec (bd X m) n l i = act n W (Bx.vec b' n k) i := fun k => by
  by_cases e : vn n g b' k = q
  ·have h1 := Qcz (k := k) (b := b') hpg
   rw [e] at h1
   have h2 := two (x := Bx.vec b' n k) heg
   rw [h1, hval] at h2
   obtain ⟨l, h3, h4⟩ := Bx.vec_ex (b := bd X m) n (act n W (Bx.vec b' n k)) fun i hi => QhF hsf hpf hX (by omega) hi
   exact ⟨l, fun _ => ⟨by rw [← Bx.pre_vol]; exact h3, h4⟩⟩
  ·exact ⟨0, fun h => absurd h e⟩
 obtain ⟨s, hs⟩ : ∃ s : Nat → Nat, ∀ k, vn n g b' k = q → s k < Bx.pre (bd X m) n ∧ ∀ i, i < n → Bx.vec (bd X m) n (s k) i = act n W (Bx.vec b' n k) i := ⟨fun k => Classical.choose (hex k), fun k => Classical.choose_spec (hex k)⟩
 refine Bx.cnt_inj s _ _ _ (fun k hk hf => ?_) (fun k l hk hl hf hg e => ?_)
 ·have e := beq_iff_eq.1 hf
  obtain ⟨h1, h2⟩ := hs k e
  refine ⟨h1, beq_iff_eq.2 ?_⟩
  have h3 : qv n f (Bx.vec (bd X m) n (s k)) = qv n g (Bx.vec b' n k) := by
   have h4 := two (x := Bx.vec (bd X m) n (s k)) hef
   rw [Qav h2, ← hval, two heg] at h4
   omega
  have h5 := Qcz (k := s k) (b := bd X m) hpf
  have h6 := Qcz (k := k) (b := b') hpg
  omega
 ·obtain ⟨h1, h2⟩ := hs k (beq_iff_eq.1 hf)
  obtain ⟨h3, h4⟩ := hs l (beq_iff_eq.1 hg)
  rw [← Bx.pre_vol] at hk hl
  exact Bx.vec_inj n hk hl (hinj _ _ fun a ha => by rw [← h2 a ha, ← h4 a ha, e])
theorem vZ {n : Nat} {W : Nat → Nat → Int} {y : Nat → Int} {a : Nat} : ((act n W y a : Int) : Rat) = La.sm n fun i => ((y i : Int) : Rat) * ((W i a : Int) : Rat) := by
 unfold act
 rw [Fq.hom_q.sm, Lr.sm_la]
 exact La.sm_congr fun i _ => Rat.intCast_mul _ _
theorem qH {n : Nat} {V W : Nat → Nat → Int} (h : Eqm n (La.mm n (fun i j => ((V i j : Int) : Rat)) (fun i j => ((W i j : Int) : Rat))) La.idm) (x : Nat → Int) {a : Nat} (ha : a < n) : act n W (act n V x) a = x a := by
 refine Rat.intCast_inj.1 ?_
 rw [vZ, La.sm_congr fun i _ => by rw [vZ]]
 exact Qcb h (fun k => ((x k : Int) : Rat)) ha
theorem Qec {n : Nat} {f u : Nat → Int} (y : Nat → Int) : qp n (chf n f u) y n = qp n f (act n (gz n u) y) n := by
 refine Rat.intCast_inj.1 ?_
 rw [QcA, QcA, Qct]
 refine La.bl_congr (fun _ _ _ _ => rfl) (fun j _ => ?_) (fun j _ => ?_) <;> exact (vZ (W := gz n u)).symm
theorem Qhl {n m q : Nat} {f u : Nat → Int} {X Y : Nat → Nat → Rat} (hef : Evn n f) (heg : Evn n (chf n f u)) (hpf : Pdm n f) (hpg : Pdm n (chf n f u)) (h : Lr.det n (gz n u) = 1 ∨ Lr.det n (gz n u) = -1) (hX : Inv n f X) (hY : Inv n (chf n f u) Y) (hq : q ≤ m) :
  cv n f (bd X m) (Bx.pre (bd X m) n) q = cv n (chf n f u) (bd Y m) (Bx.pre (bd Y m) n) q := by
 obtain ⟨V, hV1, hV2⟩ := QbE h
 obtain ⟨s1, d1, -⟩ := JZ hef hpf
 obtain ⟨s2, d2, -⟩ := JZ heg hpg
 refine Nat.le_antisymm (QgT (W := V) heg hef s2 d2 d1 hY (fun x => ?_) (fun y y' e i hi => ?_) hq) (QgT (W := gz n u) hef heg s1 d1 d2 hX Qec (fun y y' e i hi => ?_) hq)
 ·rw [Qec]
  exact Qav fun i hi => (qH hV1 x hi).symm
 ·rw [← qH hV1 y hi, ← qH hV1 y' hi]
  exact Lr.sm_congr fun k hk => by rw [e k hk]
 ·rw [← qH (V := gz n u) hV2 y hi, ← qH (V := gz n u) hV2 y' hi]
  exact Lr.sm_congr fun k hk => by rw [e k hk]
theorem Skp.congr {g g' : Nat → Rat} {N s : Nat} (h : Skp g N s) (e : ∀ q, q < N → g q = g' q) : Skp g' N s :=
 ⟨h.1, fun a ha => by rw [← e a (by have := h.1; omega)]; exact h.2.1 a ha, fun hs => by rw [← e s hs]; exact h.2.2 hs⟩
theorem Qhy {n n' P : Nat} {f f' : Nat → Int} {X Y : Nat → Nat → Rat} {v v' : Value} (h : WgtO n f P U v) (h' : WgtO n' f' P U' v') (hX : Inv n f X) (hY : Inv n' f' Y) (hbx : Bx.pre (bd X (P - 1)) n ≤ 1048576) (hby : Bx.pre (bd Y (P - 1)) n' ≤ 1048576)
  (hcv : ∀ q, q < P → cv n f (bd X (P - 1)) (Bx.pre (bd X (P - 1)) n) q = cv n' f' (bd Y (P - 1)) (Bx.pre (bd Y (P - 1)) n') q) :
  ∃ (F : Int) (a a' : Value) (K : Nat) (g g' : Nat → Rat), v = .tuple #[.agg #[.int .i64 F, a], .int .i64 0] ∧ v' = .tuple #[.agg #[.int .i64 F, a'], .int .i64 0] ∧ Ls Vq 4 K U [] a g ∧ Ls Vq 4 K U' [] a' g' ∧ K ≤ P ∧ ∀ i, i < K → g i = g' i := by
 obtain ⟨X1, hX1, h1, -⟩ := h
 obtain ⟨Y1, hY1, k1, -⟩ := h'
 have b1 : ∀ i, i < n → bd X1 (P - 1) i = bd X (P - 1) i := fun i hi => Qcm hX1 hX hi
 have b2 : ∀ i, i < n' → bd Y1 (P - 1) i = bd Y (P - 1) i := fun i hi => Qcm hY1 hY hi
 obtain ⟨s, _, e1, rfl, a, rfl, e3⟩ := h1 (by rw [YD b1]; exact hbx)
 obtain ⟨s', _, e4, rfl, a', rfl, e6⟩ := k1 (by rw [YD b2]; exact hby)
 have he : ∀ q, q < P → cv n f (bd X1 (P - 1)) (Bx.pre (bd X1 (P - 1)) n) q = cv n' f' (bd Y1 (P - 1)) (Bx.pre (bd Y1 (P - 1)) n') q := fun q hq => by
  rw [YD b1, jY b1, YD b2, jY b2]
  exact hcv q hq
 obtain rfl := (e1.congr fun q hq => by rw [he q hq]).uniq e4
 have hsP := e4.1
 exact ⟨_, a, a', _, _, _, rfl, rfl, e3, e6, by omega, fun i hi => by rw [he _ (by omega)]⟩
end Go.Proofs.YtjfkodlddladhaaGreat

/- Walks of reference 33: free, Fundamental; square of reference 36. -/
namespace Go.Proofs.YtjfkodlddladhaaGreat
open Go.Hp
variable {G : World} {U U' : UH} {M : MH}
def Fdm (z : Int) : Prop := z % 4 = 1 ∧ Fq.Sqf z.natAbs ∨ z % 4 = 0 ∧ (z / 4) % 4 > 1 ∧ Fq.Sqf (z / 4).natAbs
end Go.Proofs.YtjfkodlddladhaaGreat

/- Walks of layer 36's reference: Disc. -/
namespace Go.Proofs.YtjfkodlddladhaaGreat
open Go.Hp
variable {G : World} {U U' : UH} {M : MH}
def dtn (n : Nat) (f : Nat → Int) : Nat := (Lr.det n (gz n f)).natAbs
def sgd (n : Nat) : Int := if n % 4 = 0 then 1 else -1
theorem QfM (n : Nat) : sgd n = 1 ∨ sgd n = -1 := by unfold sgd; split; exact .inl rfl; exact .inr rfl
def DscO (n : Nat) (f : Nat → Int) (v : Value) : Prop :=
 (∃ d : Nat, 1 ≤ d ∧ d ≤ 600 ∧ Fq.Cnd (dtn n f) (sgd n) (sgd n) d ∧ v = .tuple #[.int .i64 (sgd n * d), .int .i64 0]) ∨ ((∀ d : Nat, d ≤ 600 → ¬ Fq.Cnd (dtn n f) (sgd n) (sgd n) d) ∧ v = .tuple #[.int .i64 0, .int .i64 7])
end Go.Proofs.YtjfkodlddladhaaGreat

/- Walks of layer 36: Disc. -/
namespace Go.Proofs.YtjfkodlddladhaaGreat
open Go.Hp
open Go.Fq (Prm Sqf)
variable {G : World} {U U' : UH} {M : MH}
structure Dst (D : Nat) (P : Nat → Nat) (k Fn w lf : Nat) : Prop where
 eq : D = Fn * (w * w) * lf
 w0 : 0 < w
 l0 : 0 < lf
 sq : Sqf Fn
 of : ∀ q, Prm q → q ∣ Fn → ∃ i, i < k ∧ P i = q
 no : ∀ i, i < k → ¬ P i ∣ lf
 le : Fn ≤ 600
theorem Dst.next {D k Fn w lf w' lf' : Nat} {P : Nat → Nat} (h : Dst D P k Fn w lf) (hd : lf' ∣ lf) (h0 : 0 < lf') (hw : 0 < w') (he : D = Fn * (w' * w') * 1 * lf') (hp : ¬ P k ∣ lf') : Dst D P (k + 1) Fn w' lf' :=
 ⟨by rw [he, Nat.mul_one], hw, h0, h.sq, fun q h1 h2 => by
  obtain ⟨i, h3, h4⟩ := h.of q h1 h2
  exact ⟨i, by omega, h4⟩, fun i hi h1 => by
  rcases Nat.lt_or_eq_of_le (Nat.le_of_lt_succ hi) with h2 | h2
  ·exact h.no i h2 (Nat.dvd_trans h1 hd)
  ·exact hp (h2 ▸ h1), h.le⟩
theorem Dst.odd {D k K p0 Fn w lf w' lf' : Nat} {P : Nat → Nat} (h : Dst D P k Fn w lf) (hP : PrL p0 K P) (hk : k < K) (hd : lf' ∣ lf) (he : D = Fn * (w' * w') * P k * lf') (hp : ¬ P k ∣ lf') :
  Sqf (Fn * P k) ∧ D = Fn * P k * (w' * w') * lf' ∧ (∀ q, Prm q → q ∣ Fn * P k → ∃ i, i < k + 1 ∧ P i = q) ∧ ∀ i, i < k + 1 → ¬ P i ∣ lf' := by
 have hpk := (hP.prm k hk).1
 refine ⟨h.sq.mul hpk fun h1 => ?_, by rw [he]; simp only [Nat.mul_left_comm, Nat.mul_comm], fun q h1 h2 => ?_, fun i hi h1 => ?_⟩
 ·obtain ⟨i, h2, h3⟩ := h.of _ hpk h1
  have := hP.mono i k h2 hk
  omega
 ·rcases Fq.prm_mul h1 h2 with h3 | h3
  ·obtain ⟨i, h4, h5⟩ := h.of q h1 h3
   exact ⟨i, by omega, h5⟩
  ·exact ⟨k, by omega, (Fq.prm_dvd h1 hpk h3).symm⟩
 ·rcases Nat.lt_or_eq_of_le (Nat.le_of_lt_succ hi) with h2 | h2
  ·exact h.no i h2 (Nat.dvd_trans h1 hd)
  ·exact hp (h2 ▸ h1)
theorem Qei {p k : Nat} {F : Nat → Nat} (h : PrL p k F) : ∀ i, i < k → i ≤ F i
 | 0, _ => Nat.zero_le _
 | i + 1, hi => by
  have h1 := Qei h i (by omega)
  have h2 := h.mono i (i + 1) (by omega) hi
  omega
def DscP (n : Nat) (f : Nat → Int) (v : Value) : Prop :=
 (∃ d : Nat, 1 ≤ d ∧ d ≤ 600 ∧ (∀ a : Nat, a ≤ 600 → (Fq.Cnd (dtn n f) (sgd n) (sgd n) a ↔ a = d)) ∧ v = .tuple #[.int .i64 (sgd n * d), .int .i64 0]) ∨ ((∀ d : Nat, d ≤ 600 → ¬ Fq.Cnd (dtn n f) (sgd n) (sgd n) d) ∧ v = .tuple #[.int .i64 0, .int .i64 7])
set_option maxHeartbeats 4000000 in
theorem QaF {r : Int} {N c : Nat} {p : Option Addr} {vs : List Value} {f : Nat → Int} (rw1 : RowAt U [] 1 p N vs) (el : El Vz U vs f) (hN : N ≤ 9223372036854775807) :
  Ct Tryz.prog 41 [.agg #[.int .i64 r, .slice p N c]] G U M fun v _ D => (chk r N f ≠ 0 → v = .tuple #[.int .i64 0, .int .i64 (chk r N f)]) ∧ (∀ n : Nat, r = (n : Int) → chk r N f = 0 → (n % 2 = 1 → v = .tuple #[.int .i64 0, .int .i64 16]) ∧ (n % 2 = 0 → DscP n f v)) ∧ D = [] := by
 refine Qf Tryz.func41 rfl rfl rfl rfl ?_
 repeat (first|refine Qb ?_|refine Qa fun _=>?_|refine w_al fun _=>?_)
 rename_i b1
 refine Qd rfl rfl rfl rfl rfl rfl (fun _ => Vc (rw1.up uc (List.nil_sublist _)) (el.up KeptC.out uc) hN) ?_
 rintro v1 U1 D hU1 ⟨rfl, -, rfl⟩
 rw [List.nil_append]
 repeat (first|refine Qb ?_|refine Qa fun _=>?_|refine w_al fun _=>?_)
 refine QQ rfl (fun h => ?_) (fun h => ?_)
 ·repeat (first|refine Qb ?_|refine Qa fun _=>?_|refine w_al fun _=>?_)
  exact Qe [] sym rfl (.cons (.tmp rfl) (.cons (.tmp rfl) .nil)) uc sb (.inl rfl) ⟨fun _ => rfl, fun _ _ h0 => absurd h0 h, rfl⟩
 obtain ⟨n, rfl, hn1, hn8, rfl, hb, he, hp⟩ := Yn h
 rw [h]
 have hres : ∀ v : Value, (n % 2 = 1 → v = .tuple #[.int .i64 0, .int .i64 16]) ∧ (n % 2 = 0 → DscP n f v) → ((0 : Int) ≠ 0 → v = .tuple #[.int .i64 0, .int .i64 0]) ∧ (∀ n' : Nat, (n : Int) = (n' : Int) → (0 : Int) = 0 → (n' % 2 = 1 → v = .tuple #[.int .i64 0, .int .i64 16]) ∧ (n' % 2 = 0 → DscP n' f v)) := fun v hv => ⟨fun h => absurd rfl h, fun n' e _ => by
  obtain rfl : n = n' := Int.ofNat.inj e
  exact hv⟩
 repeat (first|refine Qb ?_|refine Qa fun _=>?_|refine w_al fun _=>?_)
 rw [show (n : Int).tmod 2 = ((n % 2 : Nat) : Int) from rfl]
 refine QQ rfl (fun h1 => ?_) (fun h1 => ?_)
 ·have hr := hres (tup [.int .i64 0, .int .i64 16]) ⟨fun _ => rfl, fun h2 => by omega⟩
  repeat (first|refine Qb ?_|refine Qa fun _=>?_|refine w_al fun _=>?_)
  exact Qe [] sym rfl (.cons (.tmp rfl) (.cons (.tmp rfl) .nil)) uc sb (.inl rfl) ⟨hr.1, hr.2, rfl⟩
 have hev : n % 2 = 0 := by omega
 replace hres := fun v hv => hres v ⟨fun h => by omega, fun _ => hv⟩
 have hdp := (JZ he hp).2.2 hn1
 obtain ⟨K, hK⟩ : ∃ K, K = dtn n f := ⟨_, rfl⟩
 have hKd : Lr.det n (gz n f) = (K : Int) := by rw [hK]; unfold dtn; omega
 have hK0 : 1 ≤ K := by omega
 have sK : Sz (K : Int) 3 := by
  rw [← hKd]
  exact Nat.lt_of_le_of_lt (La.det_bd hn8 fun i j hi hj => hb _ (Jm hi hj)) (by decide)
 obtain ⟨e, hee⟩ : ∃ e, e = sgd n := ⟨_, rfl⟩
 have heo := QfM n
 rw [← hee] at heo
 repeat (first|refine Jn ?_|refine Qa fun _=>?_|refine w_al fun _=>?_)
 refine QD ?_
 repeat (first|refine Jn ?_|refine Qa fun _=>?_|refine w_al fun _=>?_)
 refine Qo (fun E U' M' => True ∧ E = [(5, .int .i64 e), (1, .pointer (some ⟨b1, 0, none⟩)), (2, .int .i64 0), (3, .int .i64 0)] ∧ ULe U1 U' ∧ M' = (b1, .var (.agg #[.int .i64 (n : Int), .slice p (n * n) c]), 24) :: M) ?_ ?_
 ·try refine Qc ?_
  rw [show (n : Int).tmod 4 = ((n % 4 : Nat) : Int) from rfl]
  refine QQ rfl (fun h2 => ?_) (fun h2 => ?_)
  ·have e1 : e = -1 := by rw [hee]; unfold sgd; rw [if_neg (by omega)]
   rw [e1]
   try refine Qc ?_
   exact Qn (E' := [(5, .int .i64 ((-1 : Int))), (1, .pointer (some ⟨b1, 0, none⟩)), (2, .int .i64 0), (3, .int .i64 0)]) ⟨rfl, rfl, rfl, rfl, trivial⟩ ⟨trivial, rfl, uc, rfl⟩
  ·have e1 : e = 1 := by rw [hee]; unfold sgd; rw [if_pos (by omega)]
   rw [e1]
   try refine Qc ?_
   exact Qn (E' := [(5, .int .i64 ((1 : Int))), (1, .pointer (some ⟨b1, 0, none⟩)), (2, .int .i64 0), (3, .int .i64 0)]) ⟨rfl, rfl, rfl, rfl, trivial⟩ ⟨trivial, rfl, uc, rfl⟩
 rintro E U4 M' ⟨-, rfl, hU4, rfl⟩
 repeat (first|refine Qb ?_|refine Qa fun _=>?_|refine w_al fun _=>?_)
 refine Qd rfl rfl rfl rfl rfl rfl (fun _ => Qai (rw1.up uc (List.nil_sublist _)) (el.up KeptC.out uc) rfl (fun k hk => by have := hb k hk; omega) hn8) ?_
 rintro v Uh35 D hU ⟨xh35, rfl, h35, rfl⟩
 repeat (first|refine Qb ?_|refine Qa fun _=>?_|refine w_al fun _=>?_)
 rename_i b6
 rw [List.nil_append]
 change xh35.nrm Uh35 [] (Lr.det n (gz n f)) at h35
 rw [hKd] at h35
 refine Qd rfl rfl rfl rfl rfl rfl (fun _ => Qdm (n := 600) (by decide) (by decide)) ?_
 rintro v7 U7 D7 hU7 ⟨kp, P, _, rfl, ⟨pp, cp, ps, rfl, hcp, rp, ep⟩, hPr, rfl⟩
 try rw [List.nil_append]
 have hPb : ∀ k, k < kp → 2 ≤ P k ∧ P k ≤ 600 := fun k hk => ⟨(hPr.prm k hk).1.two, by have := (hPr.prm k hk).2; omega⟩
 have hPg := Qei hPr
 have hD0 : Dst K P 0 1 1 K := ⟨by omega, by decide, hK0, Fq.sqf_one, fun q h1 h2 => by
  have := h1.two
  have := Nat.le_of_dvd (by decide) h2
  omega, fun i hi => absurd hi (Nat.not_lt_zero i), by decide⟩
 have hLe : ∀ {a b : Nat}, a ≤ K → Sz (a : Int) 3 := fun {a b} h => by
  unfold Sz at sK ⊢
  omega
 have hz5 : (e : Int) = e * ((1 : Nat) : Int) := by omega
 try refine Qc ?_
 try refine Qz (M' := (b6, .var xh35.v, TJ) :: (b1, .var (.agg #[.int .i64 (n : Int), .slice p (n * n) c]), 24) :: M) (ULe.refl _) sbk ?_
 refine Ql (fun z E U' M' => ∃ (k Fn w lf : Nat) (fr : Int) (x : IV), k ≤ kp ∧ fr = e * (Fn : Int) ∧ Dst K P k Fn w lf ∧ x.nrm U' [] (lf : Int) ∧ E = [(42, .int .i64 (k : Int)), (41, .int .i64 (kp : Int)), (40, .slice pp kp cp), (6, .pointer (some ⟨b6, 0, none⟩)), (5, .int .i64 fr), (1, .pointer (some ⟨b1, 0, none⟩)), (2, .int .i64 0), (3, .int .i64 0)] ∧ ULe U7 U' ∧ M' = (b6, .var x.v, TJ) :: (b1, .var (.agg #[.int .i64 (n : Int), .slice p (n * n) c]), 24) :: M ∧ z = kp - k) (n0 := kp - 0) (E0 := [(42, .int .i64 ((0 : Nat) : Int)), (41, .int .i64 (kp : Int)), (40, .slice pp kp cp), (6, .pointer (some ⟨b6, 0, none⟩)), (5, .int .i64 e), (1, .pointer (some ⟨b1, 0, none⟩)), (2, .int .i64 0), (3, .int .i64 0)]) ⟨rfl, rfl, rfl, rfl, rfl, rfl, rfl, rfl, trivial⟩ ⟨0, 1, 1, K, e, xh35, Nat.zero_le kp, hz5, hD0, h35.up uc (List.Sublist.refl _), rfl, uc, rfl, rfl⟩ ?_
 rintro z E U8 M' ⟨k, Fn, w, lf, fr, x, hk, hfr, hD, hx, rfl, hU8, rfl, rfl⟩
 try refine Qc ?_
 refine Qj rfl (fun h3 => ?_) (fun h3 => ?_)
 ·have hkp : k < kp := by omega
  obtain ⟨v1, hv1⟩ := rp.at hkp
  obtain rfl : v1 = .int .i64 (P k : Int) := ep _ _ hv1
  have hPk := hPb k hkp
  have hPk2 := hPg k hkp
  have hi0 : K = Fn * (w * w) * (if (false : Bool) = true then P k else 1) * lf := by
   rw [if_neg (by decide), Nat.mul_one]; exact hD.eq
  have hlf0 := hD.l0
  have hw0 := hD.w0
  try refine Qc ?_
  refine sl_y (Qg sym rfl rfl rfl rfl rfl rfl ((rp.up uc sb).lt hv1) ((rp.up uc sb).get _ _ hv1).1) rfl rfl rfl rfl ?_; refine sl_y (Qk sym rfl rfl rfl rfl (rp.up uc sb) hv1 rfl) rfl rfl rfl rfl ?_
  try refine Qc ?_
  try refine Qz (M' := (b6, .var x.v, TJ) :: (b1, .var (.agg #[.int .i64 (n : Int), .slice p (n * n) c]), 24) :: M) (ULe.refl _) sbk ?_
  refine Ql (fun z E U' M' => ∃ (w2 lf2 : Nat) (od : Bool) (x : IV), lf2 ∣ lf ∧ 0 < lf2 ∧ 0 < w2 ∧ K = Fn * (w2 * w2) * (if od = true then P k else 1) * lf2 ∧ x.nrm U' [] (lf2 : Int) ∧ E = [(11, .bool od), (10, .int .i64 ((P k) : Int)), (42, .int .i64 (k : Int)), (41, .int .i64 (kp : Int)), (40, .slice pp kp cp), (6, .pointer (some ⟨b6, 0, none⟩)), (5, .int .i64 fr), (1, .pointer (some ⟨b1, 0, none⟩)), (2, .int .i64 0), (3, .int .i64 0)] ∧ ULe U8 U' ∧ M' = (b6, .var x.v, TJ) :: (b1, .var (.agg #[.int .i64 (n : Int), .slice p (n * n) c]), 24) :: M ∧ z = lf2) (n0 := lf) (E0 := [(11, .bool false), (10, .int .i64 ((P k) : Int)), (42, .int .i64 (k : Int)), (41, .int .i64 (kp : Int)), (40, .slice pp kp cp), (6, .pointer (some ⟨b6, 0, none⟩)), (5, .int .i64 fr), (1, .pointer (some ⟨b1, 0, none⟩)), (2, .int .i64 0), (3, .int .i64 0)]) ⟨rfl, rfl, rfl, rfl, rfl, rfl, rfl, rfl, rfl, rfl, trivial⟩ ⟨w, lf, false, x, Nat.dvd_refl lf, hlf0, hw0, hi0, hx, rfl, uc, rfl, rfl⟩ ?_
  clear hx
  rintro z E U9 M' ⟨w2, lf2, od, x, hdv, h02, hw2, heq, hx, rfl, hU9, rfl, hzS⟩
  try refine Qc ?_
  have hlk : lf2 ≤ K := Nat.le_of_dvd hK0 ⟨_, by rw [heq, Nat.mul_comm]⟩
  have slf := hLe (b := 0) hlk
  have spk : Sz (P k : Int) 1 := by unfold Sz; omega
  try refine Qc ?_
  refine QA [10, 11, 12] [0, 1, 2, 3, 4, 5, 6, 7, 8, 9, 10, 11, 12] sym (by kernel_rfl) ?_
  try refine Qc ?_
  refine Qd rfl rfl rfl rfl rfl rfl (fun _ => (qx (z := (P k : Int)) (by omega) (by omega)).settle) ?_
  rintro v Uh49 D hU ⟨rfl, _, _, ⟨xh49, rfl, h49, -⟩, -, -, hs⟩
  replace h49 := h49.sett hs
  clear hs
  repeat (first|refine Qb ?_|refine Qa fun _=>?_|refine w_al fun _=>?_)
  refine Qd rfl rfl rfl rfl rfl rfl (fun _ => Qdb (hx.rep.up uc (List.nil_sublist _)) (hx.le slf (by decide)) (h49.rep.up uc (List.nil_sublist _)) (h49.le spk (by decide)) (by omega)) ?_
  rintro v50 U50 D50 hU50 ⟨q, r, rfl, hq, hr, rfl⟩
  rw [List.nil_append]
  have eq1 : (lf2 : Int) / (P k : Int) = ((lf2 / P k : Nat) : Int) := (Int.natCast_ediv ..).symm
  have er1 : (lf2 : Int) % (P k : Int) = ((lf2 % P k : Nat) : Int) := (Int.natCast_emod ..).symm
  have hrm : lf2 % P k < P k := Nat.mod_lt _ (by omega)
  have srm : Sz ((lf2 % P k : Nat) : Int) 1 := by unfold Sz; omega
  rw [eq1] at hq
  rw [er1] at hr
  repeat (first|refine Qb ?_|refine Qa fun _=>?_|refine w_al fun _=>?_)
  rename_i b12 b13
  refine Qd rfl rfl rfl rfl rfl rfl (fun _ => YS (hr.rep.up uc (List.nil_sublist _)) (hr.le srm (by decide))) ?_
  rintro v U' D hU ⟨rfl, rfl, rfl⟩
  repeat (first|refine Qb ?_|refine Qa fun _=>?_|refine w_al fun _=>?_)
  refine QQ rfl (fun h4 => ?_) (fun h4 => ?_)
  ·have hnd : ¬ P k ∣ lf2 := fun h5 => h4 (by rw [Nat.mod_eq_zero_of_dvd h5]; rfl)
   try refine Qc ?_
   cases od
   ·rw [if_neg (by decide)] at heq
    repeat (first|refine Qb ?_|refine Qa fun _=>?_|refine w_al fun _=>?_)
    refine Yb (M' := (b6, .var x.v, TJ) :: (b1, .var (.agg #[.int .i64 (n : Int), .slice p (n * n) c]), 24) :: M) (ULe.refl _) sbk ?_
    exact Qh (E' := [(42, .int .i64 ((k : Int) + 1)), (41, .int .i64 (kp : Int)), (40, .slice pp kp cp), (6, .pointer (some ⟨b6, 0, none⟩)), (5, .int .i64 fr), (1, .pointer (some ⟨b1, 0, none⟩)), (2, .int .i64 0), (3, .int .i64 0)]) (m := kp - (k + 1)) ⟨rfl, rfl, rfl, rfl, rfl, rfl, rfl, rfl, trivial⟩ (by omega) ⟨k + 1, Fn, w2, lf2, fr, x, by omega, hfr, hD.next hdv h02 hw2 heq hnd, hx.up uc (List.Sublist.refl _), rfl, uc, rfl, rfl⟩
   ·rw [if_pos rfl] at heq
    obtain ⟨o1, o2, o3, o4⟩ := hD.odd hPr hkp hdv heq hnd
    have hFp : Fn * P k ≤ 600 * 600 := Nat.mul_le_mul hD.le hPk.2
    have hfp : fr * (P k : Int) = e * ((Fn * P k : Nat) : Int) := by rw [hfr, Int.natCast_mul, Int.mul_assoc]
    have hbig : 600 < Fn * P k → DscP n f (tup [.int .i64 0, .int .i64 7]) := fun h6 => .inr ⟨fun d hd => by
     rw [← hK]
     exact Fq.disc_none (c := 600) (QfM n) o2 hw2 o1 (fun q h7 h8 h9 => by
      obtain ⟨i, h10, h11⟩ := o3 q h7 h8
      exact o4 i h10 (by rw [h11]; exact h9)) h6 hd, rfl⟩
    have hfl : -360000 ≤ fr * (P k : Int) ∧ fr * (P k : Int) ≤ 360000 := by
     rw [hfp]
     rcases heo with rfl | rfl <;> omega
    repeat (first|refine Qb ?_|refine Qa fun _=>?_|refine w_al fun _=>?_)
    rw [hfp]
    refine Qv rfl rfl (fun h5 => ?_) (fun h5 => ?_)
    ·have hr := hres _ (hbig (by rcases heo with rfl | rfl <;> omega))
     repeat (first|refine Qb ?_|refine Qa fun _=>?_|refine w_al fun _=>?_)
     exact Qe [] sym rfl (.cons (.tmp rfl) (.cons (.tmp rfl) .nil)) uc sb (.inl rfl) ⟨hr.1, hr.2, rfl⟩
    ·repeat (first|refine Qb ?_|refine Qa fun _=>?_|refine w_al fun _=>?_)
     refine Qj rfl (fun h6 => ?_) (fun h6 => ?_)
     ·have hr := hres _ (hbig (by rcases heo with rfl | rfl <;> omega))
      repeat (first|refine Qb ?_|refine Qa fun _=>?_|refine w_al fun _=>?_)
      exact Qe [] sym rfl (.cons (.tmp rfl) (.cons (.tmp rfl) .nil)) uc sb (.inl rfl) ⟨hr.1, hr.2, rfl⟩
     ·repeat (first|refine Qb ?_|refine Qa fun _=>?_|refine w_al fun _=>?_)
      refine Yb (M' := (b6, .var x.v, TJ) :: (b1, .var (.agg #[.int .i64 (n : Int), .slice p (n * n) c]), 24) :: M) (ULe.refl _) sbk ?_
      exact Qh (E' := [(42, .int .i64 ((k : Int) + 1)), (41, .int .i64 (kp : Int)), (40, .slice pp kp cp), (6, .pointer (some ⟨b6, 0, none⟩)), (5, .int .i64 (e * ((Fn * P k : Nat) : Int))), (1, .pointer (some ⟨b1, 0, none⟩)), (2, .int .i64 0), (3, .int .i64 0)]) (m := kp - (k + 1)) ⟨rfl, rfl, rfl, rfl, rfl, rfl, rfl, rfl, trivial⟩ (by omega) ⟨k + 1, Fn * P k, w2, lf2, e * ((Fn * P k : Nat) : Int), x, by omega, rfl, ⟨o2, hw2, h02, o1, o3, o4, by rcases heo with rfl | rfl <;> omega⟩, hx.up uc (List.Sublist.refl _), rfl, uc, rfl, rfl⟩
  ·have hmz : lf2 % P k = 0 := by
    rcases Nat.eq_zero_or_pos (lf2 % P k) with h5 | h5
    ·exact h5
    ·rw [Int.sign_eq_one_of_pos (by omega)] at h4
     exact absurd h4 (by decide)
   have hdm := Nat.div_add_mod lf2 (P k)
   rw [hmz, Nat.add_zero] at hdm
   have hq0 : 0 < lf2 / P k := by
    rcases Nat.eq_zero_or_pos (lf2 / P k) with h5 | h5
    ·rw [h5, Nat.mul_zero] at hdm; omega
    ·exact h5
   have hql : lf2 / P k < lf2 := Nat.div_lt_self h02 (by omega)
   have hqd : lf2 / P k ∣ lf := Nat.dvd_trans ⟨P k, by rw [Nat.mul_comm]; exact hdm.symm⟩ hdv
   repeat (first|refine Qb ?_|refine Qa fun _=>?_|refine w_al fun _=>?_)
   refine Yb (M' := (b6, .var q.v, TJ) :: (b1, .var (.agg #[.int .i64 (n : Int), .slice p (n * n) c]), 24) :: M) (ULe.refl _) sbk ?_
   cases od
   ·exact Qh (E' := [(11, .bool true), (10, .int .i64 ((P k) : Int)), (42, .int .i64 (k : Int)), (41, .int .i64 (kp : Int)), (40, .slice pp kp cp), (6, .pointer (some ⟨b6, 0, none⟩)), (5, .int .i64 fr), (1, .pointer (some ⟨b1, 0, none⟩)), (2, .int .i64 0), (3, .int .i64 0)]) (m := (lf2 / P k)) ⟨rfl, rfl, rfl, rfl, rfl, rfl, rfl, rfl, rfl, rfl, trivial⟩ (by omega) ⟨w2, lf2 / P k, true, q, hqd, hq0, hw2, by rw [if_pos rfl, heq, if_neg (by decide), Nat.mul_one, Nat.mul_assoc (Fn * (w2 * w2)), hdm], hq, rfl, uc, rfl, rfl⟩
   ·have e7 : K = Fn * (w2 * P k * (w2 * P k)) * (if (false : Bool) = true then P k else 1) * (lf2 / P k) := by
     rw [if_pos rfl] at heq
     rw [if_neg (by decide), heq]
     generalize lf2 / P k = qn at hdm ⊢
     rw [← hdm]
     simp only [Nat.mul_one, Nat.mul_left_comm, Nat.mul_comm]
    exact Qh (E' := [(11, .bool false), (10, .int .i64 ((P k) : Int)), (42, .int .i64 (k : Int)), (41, .int .i64 (kp : Int)), (40, .slice pp kp cp), (6, .pointer (some ⟨b6, 0, none⟩)), (5, .int .i64 fr), (1, .pointer (some ⟨b1, 0, none⟩)), (2, .int .i64 0), (3, .int .i64 0)]) (m := (lf2 / P k)) ⟨rfl, rfl, rfl, rfl, rfl, rfl, rfl, rfl, rfl, rfl, trivial⟩ (by omega) ⟨w2 * P k, lf2 / P k, false, q, hqd, hq0, Nat.mul_pos hw2 (by omega), e7, hq, rfl, uc, rfl, rfl⟩
 ·obtain rfl : kp = k := by omega
  have hlk : lf ≤ K := Nat.le_of_dvd hK0 ⟨_, by rw [hD.eq, Nat.mul_comm]⟩
  have slf := hLe (b := 0) hlk
  have hfin : ∀ a : Nat, a ≤ 600 → (Fq.Cnd K e e a ↔ (∃ v, lf = v * v) ∧ e = e ∧ a = if (e * (Fn : Int)) % 4 = 1 then Fn else 4 * Fn) := fun a ha => Fq.disc_some (c := 600) heo hD.eq hD.w0 hD.sq (fun q h6 h7 => by
   have := Nat.le_of_dvd hD.sq.1 h7
   have := hD.le
   omega) (fun q h6 h7 h8 => by
   obtain ⟨i, h9, h10⟩ := hPr.all q h6 (by omega)
   exact hD.no i h9 (by rw [h10]; exact h8)) hD.l0 ha
  repeat (first|refine Qb ?_|refine Qa fun _=>?_|refine w_al fun _=>?_)
  refine Qd rfl rfl rfl rfl rfl rfl (fun _ => Qbh (hx.rep.up uc (List.nil_sublist _)) (hx.le slf (by decide)) (by omega)) ?_
  rintro v73 U73 D73 hU73 ⟨rt, bs, rfl, hrt, hbs, rfl⟩
  try rw [List.nil_append]
  have hf6 := hD.le
  have hf1 := hD.sq.1
  cases bs
  ·have hno : ∀ d : Nat, d ≤ 600 → ¬ Fq.Cnd K e e d := fun a ha hC => by
    obtain ⟨⟨v, hv⟩, -⟩ := (hfin a ha).1 hC
    have := hbs.2 (by
     rw [Int.natAbs_natCast, hv, ← Bx.isq_at (A := v * v) (R := v) (Nat.le_refl _) (by rw [Nat.add_mul, Nat.mul_add]; omega)])
    cases this
   have hr := hres (tup [.int .i64 0, .int .i64 7]) (.inr ⟨fun a ha => by rw [← hK, ← hee]; exact hno a ha, rfl⟩)
   repeat (first|refine Qb ?_|refine Qa fun _=>?_|refine w_al fun _=>?_)
   exact Qe [] sym rfl (.cons (.tmp rfl) (.cons (.tmp rfl) .nil)) uc sb (.inl rfl) ⟨hr.1, hr.2, rfl⟩
  have hsq : ∃ v, lf = v * v := ⟨_, (hbs.1 rfl).symm⟩
  replace hfin : ∀ a : Nat, a ≤ 600 → (Fq.Cnd K e e a ↔ a = if (e * (Fn : Int)) % 4 = 1 then Fn else 4 * Fn) := fun a ha => (hfin a ha).trans ⟨fun h => h.2.2, fun h => ⟨hsq, rfl, h⟩⟩
  obtain ⟨dd, hdd⟩ : ∃ dd, dd = if (e * (Fn : Int)) % 4 = 1 then Fn else 4 * Fn := ⟨_, rfl⟩
  rw [← hdd] at hfin
  have hdb : 1 ≤ dd ∧ dd ≤ 2400 := by rw [hdd]; split <;> omega
  have hmod : (fr.tmod 4 + 4).tmod 4 = fr % 4 ∧ -4 < fr.tmod 4 ∧ fr.tmod 4 < 4 := by
   have e1 : fr.tmod 4 = if 0 ≤ fr then fr % 4 else -((-fr) % 4) := by
    split
    ·rename_i h; exact Int.tmod_eq_emod_of_nonneg h
    ·rename_i h
     have := Int.tmod_eq_emod_of_nonneg (a := -fr) (b := 4) (by omega)
     rw [Int.neg_tmod] at this
     omega
   have e2 : -4 < fr.tmod 4 ∧ fr.tmod 4 < 4 := by rw [e1]; omega
   refine ⟨?_, e2⟩
   rw [Int.tmod_eq_emod_of_nonneg (by omega), e1]
   omega
  have hfb : -600 ≤ fr ∧ fr ≤ 600 := by rcases heo with rfl | rfl <;> omega
  repeat (first|refine Jn ?_|refine Qa fun _=>?_|refine w_al fun _=>?_)
  refine QD ?_
  repeat (first|refine Jn ?_|refine Qa fun _=>?_|refine w_al fun _=>?_)
  rename_i b15
  refine Qo (fun E U' M' => ∃ (y : Int), y = e * (dd : Int) ∧ E = [(5, .int .i64 y), (1, .pointer (some ⟨b1, 0, none⟩)), (2, .int .i64 0), (3, .int .i64 0)] ∧ ULe U73 U' ∧ M' = (b15, .var rt.v, TJ) :: (b6, .var x.v, TJ) :: (b1, .var (.agg #[.int .i64 (n : Int), .slice p (n * n) c]), 24) :: M) ?_ ?_
  ·try refine Qc ?_
   refine QQ rfl (fun h5 => ?_) (fun h5 => ?_)
   ·have e5 : e * (dd : Int) = fr * 4 := by
     rw [hmod.1, hfr] at h5
     rw [hdd, if_neg h5, hfr, Int.natCast_mul, Int.mul_assoc]
     exact congrArg _ (Int.mul_comm _ _)
    try refine Qc ?_
    exact Qn (E' := [(5, .int .i64 ((fr * 4))), (1, .pointer (some ⟨b1, 0, none⟩)), (2, .int .i64 0), (3, .int .i64 0)]) ⟨rfl, rfl, rfl, rfl, trivial⟩ ⟨(fr * 4), e5.symm, rfl, uc, rfl⟩
   ·have e5 : e * (dd : Int) = fr := by
     rw [hmod.1, hfr] at h5
     rw [hdd, if_pos h5, hfr]
    try refine Qc ?_
    exact Qn (E' := [(5, .int .i64 fr), (1, .pointer (some ⟨b1, 0, none⟩)), (2, .int .i64 0), (3, .int .i64 0)]) ⟨rfl, rfl, rfl, rfl, trivial⟩ ⟨fr, e5.symm, rfl, uc, rfl⟩
  rintro E U74 M' ⟨y, hy, rfl, hU74, rfl⟩
  have hyb : -2400 ≤ y ∧ y ≤ 2400 := by rw [hy]; rcases heo with rfl | rfl <;> omega
  have hbig : 600 < dd → DscP n f (tup [.int .i64 0, .int .i64 7]) := fun h6 => .inr ⟨fun a ha => by
   rw [← hK, ← hee]
   exact fun hC => by have := (hfin a ha).1 hC; omega, rfl⟩
  try refine Qc ?_
  refine Qv rfl rfl (fun h5 => ?_) (fun h5 => ?_)
  ·have hr := hres _ (hbig (by rcases heo with rfl | rfl <;> omega))
   repeat (first|refine Qb ?_|refine Qa fun _=>?_|refine w_al fun _=>?_)
   exact Qe [] sym rfl (.cons (.tmp rfl) (.cons (.tmp rfl) .nil)) uc sb (.inl rfl) ⟨hr.1, hr.2, rfl⟩
  ·try refine Qc ?_
   refine Qj rfl (fun h6 => ?_) (fun h6 => ?_)
   ·have hr := hres _ (hbig (by rcases heo with rfl | rfl <;> omega))
    repeat (first|refine Qb ?_|refine Qa fun _=>?_|refine w_al fun _=>?_)
    exact Qe [] sym rfl (.cons (.tmp rfl) (.cons (.tmp rfl) .nil)) uc sb (.inl rfl) ⟨hr.1, hr.2, rfl⟩
   ·have hr := hres (tup [.int .i64 y, .int .i64 0]) (.inl ⟨dd, hdb.1, by rcases heo with rfl | rfl <;> omega, fun a ha => by rw [← hK, ← hee]; exact hfin a ha, by rw [← hee, ← hy]; rfl⟩)
    repeat (first|refine Qb ?_|refine Qa fun _=>?_|refine w_al fun _=>?_)
    exact Qe [] sym rfl (.cons (.tmp rfl) (.cons (.tmp rfl) .nil)) uc sb (.inl rfl) ⟨hr.1, hr.2, rfl⟩
end Go.Proofs.YtjfkodlddladhaaGreat

/- Laws of layer 36: Forms. -/
namespace Go.Proofs.YtjfkodlddladhaaGreat
open Go.Hp
variable {G : World} {U U' : UH} {M : MH}
theorem Qfe {n : Nat} {f : Nat → Int} {v v' : Value} (h : DscP n f v) (h' : DscO n f v') : v' = v := by
 rcases h with ⟨d, h1, h2, h3, rfl⟩ | ⟨h1, rfl⟩
 ·rcases h' with ⟨d', k1, k2, k3, rfl⟩ | ⟨k1, rfl⟩
  ·rw [(h3 d' k2).1 k3]
  ·exact absurd ((h3 d h2).2 rfl) (k1 d h2)
 ·rcases h' with ⟨d', k1, k2, k3, rfl⟩ | ⟨k1, rfl⟩
  ·exact absurd k3 (h1 d' k2)
  ·rfl
theorem Qdy {n : Nat} {f : Nat → Int} {v : Value} (h : DscP n f v) : ∃ a e : Int, v = .tuple #[.int .i64 a, .int .i64 e] := by
 rcases h with ⟨d, h1, h2, h3, rfl⟩ | ⟨h1, rfl⟩
 ·exact ⟨_, _, rfl⟩
 ·exact ⟨_, _, rfl⟩
end Go.Proofs.YtjfkodlddladhaaGreat

/- Laws of layer 36: Operations. -/
namespace Go.Proofs.YtjfkodlddladhaaGreat
open Go.Hp
open Classical
variable {G : World} {U U' : UH} {M : MH}
def grn (e : Int) (n : Nat) : Nat := if e = 0 then n else 0
end Go.Proofs.YtjfkodlddladhaaGreat
