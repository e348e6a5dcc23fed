/- Texts of this seat's own, merged: each begins with its own remark. -/
import Derived.Test.YtjfkodlddladhaaGreatM19
import Derived.Laws.CopyRow
import Derived.Test.YtjfkodlddladhaaGreatM56
import Derived.Test.YtjfkodlddladhaaGreatM53
import Derived.Test.YtjfkodlddladhaaGreatM15
import Derived.Test.YtjfkodlddladhaaGreatHl
import Derived.Test.YtjfkodlddladhaaGreatM26
/- The builtin copy into a part of an own row of elements of one cell. Program in general; no condition. -/
namespace Go.Hp
variable {P : Program} {T : TT} {K : Kont} {N : Nat} {G : World} {E : Env} {U : UH} {M : MH} {L : List Oper} {l : List Ent} {f : Bool} {i : Nat} {o : Oper}
def spl (vs us : List Value) (lo : Nat) : List Value := vs.take lo ++ us ++ vs.drop (lo + us.length)
end Go.Hp

/- Walks of layer 36: Sum. -/
namespace Go.Proofs.YtjfkodlddladhaaGreat
open Go.Hp
variable {G : World} {U U' : UH} {M : MH}
def GrO (e : Int) (n : Nat) (g : Nat → Int) (U' : UH) (v : Value) : Prop :=
 (e ≠ 0 → v = .tuple #[.agg #[.int .i64 0, .slice none 0 0], .int .i64 e]) ∧ (e = 0 → ∃ s, v = .tuple #[.agg #[.int .i64 (n : Int), s], .int .i64 0] ∧ Ls Vz 1 (n * n) U' [] s g)
def GrC (e : Int) (n : Nat) (g : Nat → Int) (U' : UH) (D : MH) (v : Value) : Prop :=
 (e ≠ 0 → v = .tuple #[.agg #[.int .i64 0, .slice none 0 0], .int .i64 e]) ∧ (e = 0 → ∃ s, v = .tuple #[.agg #[.int .i64 (n : Int), s], .int .i64 0] ∧ Lo Vz TInt 1 (n * n) U' D s g)
theorem QdA {e : Int} {n : Nat} {g : Nat → Int} {f : Nat} {args : List Value} (h : Ct Tryz.prog f args G U M fun v U' D => GrC e n g U' D v) : Ct Tryz.prog f args G U M fun v U' D => GrO e n g U' v ∧ D = [] :=
 h.settle.mono fun _ _ _ _ ⟨h1, _, _, ⟨k1, k2⟩, _, h5, h6⟩ => ⟨⟨k1, fun e1 => by
  obtain ⟨s, e3, e4⟩ := k2 e1
  exact ⟨s, e3, e4.sett KeptC.out h5 h6⟩⟩, h1⟩
def sgc (n n1 n2 : Nat) (f1 f2 : Nat → Int) (a b : Nat) (k : Nat) : Int :=
 if k / n < a ∧ k % n < n1 then f1 (k / n * n1 + k % n) else if n1 ≤ k / n ∧ k / n < n1 + b ∧ n1 ≤ k % n then f2 ((k / n - n1) * n2 + (k % n - n1)) else 0
theorem dm {n q s : Nat} (hs : s < n) : (q * n + s) / n = q ∧ (q * n + s) % n = s := by
 refine ⟨?_, ?_⟩
 ·rw [Nat.mul_comm, Nat.mul_add_div (by omega), Nat.div_eq_of_lt hs]; rfl
 ·rw [Nat.mul_comm, Nat.mul_add_mod, Nat.mod_eq_of_lt hs]
noncomputable def esum (r1 : Int) (N1 : Nat) (f1 : Nat → Int) (r2 : Int) (N2 : Nat) (f2 : Nat → Int) : Int :=
 if chk r1 N1 f1 ≠ 0 then chk r1 N1 f1 else if chk r2 N2 f2 ≠ 0 then chk r2 N2 f2 else if r1 + r2 > 8 then 2 else 0
end Go.Proofs.YtjfkodlddladhaaGreat

/- Walks of layer 36: Scale. -/
namespace Go.Proofs.YtjfkodlddladhaaGreat
open Go.Hp
open Classical
variable {G : World} {U U' : UH} {M : MH}
def scf (f : Nat → Int) (d : Int) (k : Nat) : Int := f k * min d 1001
noncomputable def escl (r : Int) (N : Nat) (f : Nat → Int) (d : Int) : Int :=
 if chk r N f ≠ 0 then chk r N f else if d < 1 then 2 else if Ins N (scf f d) then 0 else 7
end Go.Proofs.YtjfkodlddladhaaGreat

/- Walks of layer 36: Change. -/
namespace Go.Proofs.YtjfkodlddladhaaGreat
open Go.Hp
open Classical
variable {G : World} {U U' : UH} {M : MH}
def cin (n : Nat) (f u : Nat → Int) (i j a : Nat) : Nat → Int
 | 0 => 0
 | b + 1 => cin n f u i j a b + u (i * n + a) * f (a * n + b) * u (j * n + b)
def cou (n : Nat) (f u : Nat → Int) (i j : Nat) : Nat → Int
 | 0 => 0
 | a + 1 => cou n f u i j a + cin n f u i j a n
def chf (n : Nat) (f u : Nat → Int) (k : Nat) : Int := cou n f u (k / n) (k % n) n
theorem Qeb {n i j a b : Nat} {f u : Nat → Int} (hb : ∀ k, k < n * n → -1000 ≤ f k ∧ f k ≤ 1000) (hu : ∀ k, k < n * n → -100 ≤ u k ∧ u k ≤ 100) (hi : i < n) (hj : j < n) (ha : a < n) (hbn : b < n) :
  (-100000 ≤ u (i * n + a) * f (a * n + b) ∧ u (i * n + a) * f (a * n + b) ≤ 100000) ∧ (-10000000 ≤ u (i * n + a) * f (a * n + b) * u (j * n + b) ∧ u (i * n + a) * f (a * n + b) * u (j * n + b) ≤ 10000000) := by
 have h1 := jo (hu _ (Jm hi ha)) (hb _ (Jm ha hbn))
 have h2 := jo h1 (hu _ (Jm hj hbn))
 omega
theorem QbG {n i j a : Nat} {f u : Nat → Int} (hb : ∀ k, k < n * n → -1000 ≤ f k ∧ f k ≤ 1000) (hu : ∀ k, k < n * n → -100 ≤ u k ∧ u k ≤ 100) (hi : i < n) (hj : j < n) (ha : a < n) : ∀ b, b ≤ n → -(10000000 * (b : Int)) ≤ cin n f u i j a b ∧ cin n f u i j a b ≤ 10000000 * (b : Int)
 | 0, _ => ⟨Int.le_refl 0, Int.le_refl 0⟩
 | b + 1, h => by
  have h1 := QbG hb hu hi hj ha b (by omega)
  have h2 := (Qeb hb hu hi hj ha (show b < n by omega)).2
  show _ ≤ _ + _ ∧ _ + _ ≤ _
  omega
theorem QbN {n i j : Nat} {f u : Nat → Int} (hn : n ≤ 8) (hb : ∀ k, k < n * n → -1000 ≤ f k ∧ f k ≤ 1000) (hu : ∀ k, k < n * n → -100 ≤ u k ∧ u k ≤ 100) (hi : i < n) (hj : j < n) : ∀ a, a ≤ n → -(80000000 * (a : Int)) ≤ cou n f u i j a ∧ cou n f u i j a ≤ 80000000 * (a : Int)
 | 0, _ => ⟨Int.le_refl 0, Int.le_refl 0⟩
 | a + 1, h => by
  have h1 := QbN hn hb hu hi hj a (by omega)
  have h2 := QbG hb hu hi hj (show a < n by omega) n (Nat.le_refl n)
  show _ ≤ _ + _ ∧ _ + _ ≤ _
  omega
noncomputable def echg (r : Int) (N : Nat) (f : Nat → Int) (Nu : Nat) (u : Nat → Int) : Int :=
 if chk r N f ≠ 0 then chk r N f else if Nu ≠ N then 4 else if ¬ (∀ k, k < Nu → -100 ≤ u k ∧ u k ≤ 100) then 2 else
  if smb (Lr.det r.toNat fun i j => u (i * r.toNat + j)) = false ∨ (smv (Lr.det r.toNat fun i j => u (i * r.toNat + j)) ≠ 1 ∧ smv (Lr.det r.toNat fun i j => u (i * r.toNat + j)) ≠ -1) then 11 else if Ins N (chf r.toNat f u) then 0 else 7
set_option maxHeartbeats 8000000 in
theorem Qbn {r : Int} {N Nu c cu : Nat} {p pu : Option Addr} {vs us : List Value} {f u : Nat → Int} (rw1 : RowAt U [] 1 p N vs) (el : El Vz U vs f) (hN : N ≤ 9223372036854775807) (hc : N ≤ c) (rwu : RowAt U [] 1 pu Nu us) (elu : El Vz U us u) (hNu : Nu ≤ 9223372036854775807) (hcu : Nu ≤ cu) :
  Ct Tryz.prog 52 [.agg #[.int .i64 r, .slice p N c], .slice pu Nu cu] G U M fun v U' D => GrO (echg r N f Nu u) r.toNat (chf r.toNat f u) U' v ∧ D = [] := by
 refine QdA ?_
 refine Qf Tryz.func52 rfl rfl rfl rfl ?_
 repeat (first|refine Qb ?_|refine Qa fun _=>?_|refine w_al fun _=>?_)
 rename_i b2 b4
 refine Qd rfl rfl rfl rfl rfl rfl (fun _ => Vc (rw1.up uc (List.nil_sublist _)) (el.up KeptC.out uc) hN) ?_
 rintro v1 U1 D hU1 ⟨rfl, -, rfl⟩
 rw [List.nil_append]
 repeat (first|refine Qb ?_|refine Qa fun _=>?_|refine w_al fun _=>?_)
 refine QQ rfl (fun h => ?_) (fun h => ?_)
 ·repeat (first|refine Qb ?_|refine Qa fun _=>?_|refine w_al fun _=>?_)
  exact Qe [] sym rfl (.cons (.cell 0 rfl rfl rfl) (.cons (.tmp rfl) .nil)) uc sb (.inl rfl) (by
   unfold echg
   rw [if_pos h]
   exact ⟨fun _ => rfl, fun h2 => absurd h2 h⟩)
 unfold echg
 rw [if_neg (Classical.not_not.2 h)]
 obtain ⟨n, rfl, h1, h8, rfl, hb, he, hp⟩ := Yn h
 have h8' := h8
 have hnn : n * n ≤ 8 * 8 := Nat.mul_le_mul h8 h8
 have hnn2 : (n : Int) * (n : Int) = ((n * n : Nat) : Int) := (Int.natCast_mul n n).symm
 rw [h]
 rw [show ((n : Nat) : Int).toNat = n from rfl]
 repeat (first|refine Qb ?_|refine Qa fun _=>?_|refine w_al fun _=>?_)
 refine QQ rfl (fun h2 => ?_) (fun h2 => ?_)
 ·repeat (first|refine Qb ?_|refine Qa fun _=>?_|refine w_al fun _=>?_)
  exact Qe [] sym rfl (.cons (.cell 0 rfl rfl rfl) (.cons (.tmp rfl) .nil)) uc sb (.inl rfl) (by
   rw [if_pos (by omega)]
   exact ⟨fun _ => rfl, fun h2 => absurd h2 (by decide)⟩)
 obtain rfl : Nu = n * n := by omega
 rw [if_neg (by omega)]
 repeat (first|refine Qb ?_|refine Qa fun _=>?_|refine w_al fun _=>?_)
 try refine Qz (M' := (b4, .var (.agg #[.int .i64 0, .slice none 0 0]), 24) :: (b2, .var (.agg #[.int .i64 (n : Int), .slice p (n * n) c]), 24) :: M) (ULe.refl _) sbk ?_
 refine Ql (fun z E U' M' => ∃ (k : Nat), k ≤ n * n ∧ (∀ a, a < k → -100 ≤ u a ∧ u a ≤ 100) ∧ U1 = U' ∧ E = [(35, .int .i64 (k : Int)), (34, .int .i64 ((n * n) : Int)), (33, .slice pu (n * n) cu), (7, .int .i64 (n : Int)), (1, .slice pu (n * n) cu), (4, .pointer (some ⟨b4, 0, none⟩)), (2, .pointer (some ⟨b2, 0, none⟩)), (5, .int .i64 0)] ∧ ULe U1 U' ∧ M' = (b4, .var (.agg #[.int .i64 0, .slice none 0 0]), 24) :: (b2, .var (.agg #[.int .i64 (n : Int), .slice p (n * n) c]), 24) :: M ∧ z = n * n - k) (n0 := n * n - 0) (E0 := [(35, .int .i64 ((0 : Nat) : Int)), (34, .int .i64 ((n * n) : Int)), (33, .slice pu (n * n) cu), (7, .int .i64 (n : Int)), (1, .slice pu (n * n) cu), (4, .pointer (some ⟨b4, 0, none⟩)), (2, .pointer (some ⟨b2, 0, none⟩)), (5, .int .i64 0)]) ⟨rfl, rfl, rfl, rfl, rfl, rfl, rfl, rfl, trivial⟩ ⟨0, by omega, (fun k h => absurd h (Nat.not_lt_zero k)), rfl, rfl, uc, rfl, rfl⟩ ?_
 rintro z E U2 M' ⟨k, hk, hall, rfl, rfl, hU2, rfl, rfl⟩
 try refine Qc ?_
 refine Qj rfl (fun h3 => ?_) (fun h3 => ?_)
 ·have hin : k < n * n := by omega
  obtain ⟨v1, hv1⟩ := rwu.at hin
  obtain ⟨rfl, hz⟩ := elu _ _ hv1
  repeat (first|refine Qb ?_|refine Qa fun _=>?_|refine w_al fun _=>?_)
  refine sl_y (Qg sym rfl rfl rfl rfl rfl rfl ((rwu.up uc sb).lt hv1) ((rwu.up uc sb).get _ _ hv1).1) rfl rfl rfl rfl ?_; refine sl_y (Qk sym rfl rfl rfl rfl (rwu.up uc sb) hv1 rfl) rfl rfl rfl rfl ?_
  repeat (first|refine Qb ?_|refine Qa fun _=>?_|refine w_al fun _=>?_)
  refine Qv rfl rfl (fun h1 => ?_) (fun h1 => ?_)
  ·repeat (first|refine Qb ?_|refine Qa fun _=>?_|refine w_al fun _=>?_)
   exact Qe [] sym rfl (.cons (.cell 0 rfl rfl rfl) (.cons (.tmp rfl) .nil)) uc sb (.inl rfl) (by
    rw [if_pos (fun h2 => by have := h2 k hin; omega)]
    exact ⟨fun _ => rfl, fun h2 => absurd h2 (by decide)⟩)
  repeat (first|refine Qb ?_|refine Qa fun _=>?_|refine w_al fun _=>?_)
  refine Qj rfl (fun h2 => ?_) (fun h2 => ?_)
  ·repeat (first|refine Qb ?_|refine Qa fun _=>?_|refine w_al fun _=>?_)
   exact Qe [] sym rfl (.cons (.cell 0 rfl rfl rfl) (.cons (.tmp rfl) .nil)) uc sb (.inl rfl) (by
    rw [if_pos (fun h2 => by have := h2 k hin; omega)]
    exact ⟨fun _ => rfl, fun h2 => absurd h2 (by decide)⟩)
  repeat (first|refine Qb ?_|refine Qa fun _=>?_|refine w_al fun _=>?_)
  exact Qh (E' := [(35, .int .i64 ((k : Int) + 1)), (34, .int .i64 ((n * n) : Int)), (33, .slice pu (n * n) cu), (7, .int .i64 (n : Int)), (1, .slice pu (n * n) cu), (4, .pointer (some ⟨b4, 0, none⟩)), (2, .pointer (some ⟨b2, 0, none⟩)), (5, .int .i64 0)]) (m := n * n - (k + 1)) ⟨rfl, rfl, rfl, rfl, rfl, rfl, rfl, rfl, trivial⟩ (by omega) ⟨k + 1, by omega, (fun a ha => by
   rcases Nat.lt_or_eq_of_le (Nat.le_of_lt_succ ha) with h5 | h5
   ·exact hall a h5
   ·rw [h5]; omega), rfl, rfl, uc, rfl, rfl⟩
 obtain rfl : n * n = k := by omega
 rw [if_neg (Classical.not_not.2 hall)]
 obtain ⟨dt, hdt⟩ : ∃ dt, dt = Lr.det n fun i j => u (i * n + j) := ⟨_, rfl⟩
 have s50 : Sz dt 3 := by
  rw [hdt]
  exact Nat.lt_of_le_of_lt (La.det_bd h8 fun i j hi hj => by have := hall _ (Jm hi hj); omega) (by decide)
 rw [← hdt]
 repeat (first|refine Jn ?_|refine Qa fun _=>?_|refine w_al fun _=>?_)
 refine Qo (fun E U' M' => smb dt = true ∧ (smv dt = 1 ∨ smv dt = -1) ∧ E = [(7, .int .i64 (n : Int)), (1, .slice pu (n * n) cu), (4, .pointer (some ⟨b4, 0, none⟩)), (2, .pointer (some ⟨b2, 0, none⟩)), (5, .int .i64 0)] ∧ ULe U1 U' ∧ M' = (b4, .var (.agg #[.int .i64 0, .slice none 0 0]), 24) :: (b2, .var (.agg #[.int .i64 (n : Int), .slice p (n * n) c]), 24) :: M) ?_ ?_
 ·repeat (first|refine Qb ?_|refine Qa fun _=>?_|refine w_al fun _=>?_)
  refine Qd rfl rfl rfl rfl rfl rfl (fun _ => Qai (rwu.up uc (List.nil_sublist _)) (elu.up KeptC.out uc) rfl (fun k hk => by have := hall k hk; omega) h8) ?_
  rintro v Uh50 D hU ⟨xh50, rfl, h50, rfl⟩
  repeat (first|refine Qb ?_|refine Qa fun _=>?_|refine w_al fun _=>?_)
  rw [← hdt] at h50
  refine Qd rfl rfl rfl rfl rfl rfl (fun _ => yd (h50.rep.up uc (List.nil_sublist _)) (h50.le s50 (by decide))) ?_
  rintro v28 U28 D28 hU28 ⟨rfl, rfl, rfl⟩
  rw [List.nil_append]
  clear hdt
  generalize smb dt = ok
  generalize smv dt = dv
  cases ok
  ·repeat (first|refine Qb ?_|refine Qa fun _=>?_|refine w_al fun _=>?_)
   exact Qe [] sym rfl (.cons (.cell 0 rfl rfl rfl) (.cons (.tmp rfl) .nil)) uc sb (.inl rfl) (by
    rw [if_pos (.inl rfl)]
    exact ⟨fun _ => rfl, fun h2 => absurd h2 (by decide)⟩)
  repeat (first|refine Qb ?_|refine Qa fun _=>?_|refine w_al fun _=>?_)
  refine Qv rfl rfl (fun h5 => ?_) (fun h5 => ?_)
  ·repeat (first|refine Qb ?_|refine Qa fun _=>?_|refine w_al fun _=>?_)
   refine QQ rfl (fun h6 => ?_) (fun h6 => ?_)
   ·repeat (first|refine Qb ?_|refine Qa fun _=>?_|refine w_al fun _=>?_)
    exact Qe [] sym rfl (.cons (.cell 0 rfl rfl rfl) (.cons (.tmp rfl) .nil)) uc sb (.inl rfl) (by
     rw [if_pos (.inr ⟨h5, h6⟩)]
     exact ⟨fun _ => rfl, fun h2 => absurd h2 (by decide)⟩)
   ·repeat (first|refine Qb ?_|refine Qa fun _=>?_|refine w_al fun _=>?_)
    exact Qn (E' := [(7, .int .i64 (n : Int)), (1, .slice pu (n * n) cu), (4, .pointer (some ⟨b4, 0, none⟩)), (2, .pointer (some ⟨b2, 0, none⟩)), (5, .int .i64 0)]) ⟨rfl, rfl, rfl, rfl, rfl, trivial⟩ ⟨rfl, .inr h6, rfl, uc, rfl⟩
  ·repeat (first|refine Qb ?_|refine Qa fun _=>?_|refine w_al fun _=>?_)
   exact Qn (E' := [(7, .int .i64 (n : Int)), (1, .slice pu (n * n) cu), (4, .pointer (some ⟨b4, 0, none⟩)), (2, .pointer (some ⟨b2, 0, none⟩)), (5, .int .i64 0)]) ⟨rfl, rfl, rfl, rfl, rfl, trivial⟩ ⟨rfl, .inl (Classical.not_not.1 h5), rfl, uc, rfl⟩
 rintro E U3 M' ⟨hsm, hsv, rfl, hU3, rfl⟩
 rw [if_neg (fun h5 => by
  rcases h5 with h5 | h5
  ·rw [hsm] at h5; cases h5
  ·rcases hsv with h6 | h6
   ·exact h5.1 h6
   ·exact h5.2 h6)]
 repeat (first|refine Qb ?_|refine Qa fun _=>?_|refine w_al fun _=>?_)
 rename_i b12
 have hch : ∀ i j, i < n → j < n → chf n f u (i * n + j) = cou n f u i j n := fun i j hi hj => by
  unfold chf
  rw [(dm hj).1, (dm hj).2]
 try refine Qz (M' := (b12, .var (.agg #[.int .i64 (n : Int), .slice none 0 0]), 24) :: (b4, .var (.agg #[.int .i64 0, .slice none 0 0]), 24) :: (b2, .var (.agg #[.int .i64 (n : Int), .slice p (n * n) c]), 24) :: (([]) ++ M)) (ULe.refl _) sbk ?_
 refine Ql (fun z E U' M' => ∃ (i : Nat) (w : Nat) (Q : Option Addr) (C : Nat) (xs : List Value) (D : MH), i ≤ n ∧ w = i * n ∧ RowO TInt 1 D Q w C xs ∧ El Vz U' xs (chf n f u) ∧ E = [(68, .int .i64 (i : Int)), (67, .int .i64 (n : Int)), (12, .pointer (some ⟨b12, 0, none⟩)), (7, .int .i64 (n : Int)), (1, .slice pu (n * n) cu), (4, .pointer (some ⟨b4, 0, none⟩)), (2, .pointer (some ⟨b2, 0, none⟩)), (5, .int .i64 0)] ∧ ULe U3 U' ∧ M' = (b12, .var (.agg #[.int .i64 (n : Int), .slice Q w C]), 24) :: (b4, .var (.agg #[.int .i64 0, .slice none 0 0]), 24) :: (b2, .var (.agg #[.int .i64 (n : Int), .slice p (n * n) c]), 24) :: (D ++ M) ∧ z = n - i) (n0 := n - 0) (E0 := [(68, .int .i64 ((0 : Nat) : Int)), (67, .int .i64 (n : Int)), (12, .pointer (some ⟨b12, 0, none⟩)), (7, .int .i64 (n : Int)), (1, .slice pu (n * n) cu), (4, .pointer (some ⟨b4, 0, none⟩)), (2, .pointer (some ⟨b2, 0, none⟩)), (5, .int .i64 0)]) ⟨rfl, rfl, rfl, rfl, rfl, rfl, rfl, rfl, trivial⟩ ⟨0, 0, none, 0, [], [], by omega, by omega, RowO.nil, El.nil, rfl, uc, rfl, rfl⟩ ?_
 rintro z E U4 M' ⟨i, w, Q, C, xs, D, hi, hw, hrow, hel, rfl, hU4, rfl, rfl⟩
 try refine Qc ?_
 refine Qj rfl (fun h5 => ?_) (fun h5 => ?_)
 ·have hin : i < n := by omega
  try refine Qc ?_
  try refine Qz (M' := (b12, .var (.agg #[.int .i64 (n : Int), .slice Q w C]), 24) :: (b4, .var (.agg #[.int .i64 0, .slice none 0 0]), 24) :: (b2, .var (.agg #[.int .i64 (n : Int), .slice p (n * n) c]), 24) :: (D ++ M)) (ULe.refl _) sbk ?_
  refine Ql (fun z E U' M' => ∃ (j : Nat) (w : Nat) (Q : Option Addr) (C : Nat) (xs : List Value) (D : MH), j ≤ n ∧ w = i * n + j ∧ RowO TInt 1 D Q w C xs ∧ El Vz U' xs (chf n f u) ∧ E = [(72, .int .i64 (j : Int)), (71, .int .i64 (n : Int)), (13, .int .i64 (i : Int)), (68, .int .i64 (i : Int)), (67, .int .i64 (n : Int)), (12, .pointer (some ⟨b12, 0, none⟩)), (7, .int .i64 (n : Int)), (1, .slice pu (n * n) cu), (4, .pointer (some ⟨b4, 0, none⟩)), (2, .pointer (some ⟨b2, 0, none⟩)), (5, .int .i64 0)] ∧ ULe U4 U' ∧ M' = (b12, .var (.agg #[.int .i64 (n : Int), .slice Q w C]), 24) :: (b4, .var (.agg #[.int .i64 0, .slice none 0 0]), 24) :: (b2, .var (.agg #[.int .i64 (n : Int), .slice p (n * n) c]), 24) :: (D ++ M) ∧ z = n - j) (n0 := n - 0) (E0 := [(72, .int .i64 ((0 : Nat) : Int)), (71, .int .i64 (n : Int)), (13, .int .i64 (i : Int)), (68, .int .i64 (i : Int)), (67, .int .i64 (n : Int)), (12, .pointer (some ⟨b12, 0, none⟩)), (7, .int .i64 (n : Int)), (1, .slice pu (n * n) cu), (4, .pointer (some ⟨b4, 0, none⟩)), (2, .pointer (some ⟨b2, 0, none⟩)), (5, .int .i64 0)]) ⟨rfl, rfl, rfl, rfl, rfl, rfl, rfl, rfl, rfl, rfl, rfl, trivial⟩ ⟨0, w, Q, C, xs, D, by omega, by omega, hrow, hel, rfl, uc, rfl, rfl⟩ ?_
  clear hrow hel hw
  rintro z E U5 M' ⟨j, w, Q, C, xs, D, hj, hw, hrow, hel, rfl, hU5, rfl, rfl⟩
  try refine Qc ?_
  refine Qj rfl (fun h6 => ?_) (fun h6 => ?_)
  ·have hjn : j < n := by omega
   have hij := Jm hin hjn
   try refine Qc ?_
   try refine Qz (M' := (b12, .var (.agg #[.int .i64 (n : Int), .slice Q w C]), 24) :: (b4, .var (.agg #[.int .i64 0, .slice none 0 0]), 24) :: (b2, .var (.agg #[.int .i64 (n : Int), .slice p (n * n) c]), 24) :: (D ++ M)) (ULe.refl _) sbk ?_
   refine Ql (fun z E U' M' => ∃ (a : Nat), a ≤ n ∧ U5 = U' ∧ E = [(76, .int .i64 (a : Int)), (75, .int .i64 (n : Int)), (15, .int .i64 (cou n f u i j a + cin n f u i j a 0)), (14, .int .i64 (j : Int)), (72, .int .i64 (j : Int)), (71, .int .i64 (n : Int)), (13, .int .i64 (i : Int)), (68, .int .i64 (i : Int)), (67, .int .i64 (n : Int)), (12, .pointer (some ⟨b12, 0, none⟩)), (7, .int .i64 (n : Int)), (1, .slice pu (n * n) cu), (4, .pointer (some ⟨b4, 0, none⟩)), (2, .pointer (some ⟨b2, 0, none⟩)), (5, .int .i64 0)] ∧ ULe U5 U' ∧ M' = (b12, .var (.agg #[.int .i64 (n : Int), .slice Q w C]), 24) :: (b4, .var (.agg #[.int .i64 0, .slice none 0 0]), 24) :: (b2, .var (.agg #[.int .i64 (n : Int), .slice p (n * n) c]), 24) :: (D ++ M) ∧ z = n - a) (n0 := n - 0) (E0 := [(76, .int .i64 ((0 : Nat) : Int)), (75, .int .i64 (n : Int)), (15, .int .i64 (cou n f u i j 0 + cin n f u i j 0 0)), (14, .int .i64 (j : Int)), (72, .int .i64 (j : Int)), (71, .int .i64 (n : Int)), (13, .int .i64 (i : Int)), (68, .int .i64 (i : Int)), (67, .int .i64 (n : Int)), (12, .pointer (some ⟨b12, 0, none⟩)), (7, .int .i64 (n : Int)), (1, .slice pu (n * n) cu), (4, .pointer (some ⟨b4, 0, none⟩)), (2, .pointer (some ⟨b2, 0, none⟩)), (5, .int .i64 0)]) ⟨rfl, rfl, rfl, rfl, rfl, rfl, rfl, rfl, rfl, rfl, rfl, rfl, rfl, rfl, rfl, trivial⟩ ⟨0, by omega, rfl, rfl, uc, rfl, rfl⟩ ?_
   rintro z E U6 M' ⟨a, ha, rfl, rfl, hU6, rfl, rfl⟩
   try refine Qc ?_
   refine Qj rfl (fun h7 => ?_) (fun h7 => ?_)
   ·have han : a < n := by omega
    try refine Qc ?_
    try refine Qz (M' := (b12, .var (.agg #[.int .i64 (n : Int), .slice Q w C]), 24) :: (b4, .var (.agg #[.int .i64 0, .slice none 0 0]), 24) :: (b2, .var (.agg #[.int .i64 (n : Int), .slice p (n * n) c]), 24) :: (D ++ M)) (ULe.refl _) sbk ?_
    refine Ql (fun z E U' M' => ∃ (k : Nat), k ≤ n ∧ U5 = U' ∧ E = [(80, .int .i64 (k : Int)), (79, .int .i64 (n : Int)), (16, .int .i64 (a : Int)), (76, .int .i64 (a : Int)), (75, .int .i64 (n : Int)), (15, .int .i64 (cou n f u i j a + cin n f u i j a k)), (14, .int .i64 (j : Int)), (72, .int .i64 (j : Int)), (71, .int .i64 (n : Int)), (13, .int .i64 (i : Int)), (68, .int .i64 (i : Int)), (67, .int .i64 (n : Int)), (12, .pointer (some ⟨b12, 0, none⟩)), (7, .int .i64 (n : Int)), (1, .slice pu (n * n) cu), (4, .pointer (some ⟨b4, 0, none⟩)), (2, .pointer (some ⟨b2, 0, none⟩)), (5, .int .i64 0)] ∧ ULe U5 U' ∧ M' = (b12, .var (.agg #[.int .i64 (n : Int), .slice Q w C]), 24) :: (b4, .var (.agg #[.int .i64 0, .slice none 0 0]), 24) :: (b2, .var (.agg #[.int .i64 (n : Int), .slice p (n * n) c]), 24) :: (D ++ M) ∧ z = n - k) (n0 := n - 0) (E0 := [(80, .int .i64 ((0 : Nat) : Int)), (79, .int .i64 (n : Int)), (16, .int .i64 (a : Int)), (76, .int .i64 (a : Int)), (75, .int .i64 (n : Int)), (15, .int .i64 (cou n f u i j a + cin n f u i j a 0)), (14, .int .i64 (j : Int)), (72, .int .i64 (j : Int)), (71, .int .i64 (n : Int)), (13, .int .i64 (i : Int)), (68, .int .i64 (i : Int)), (67, .int .i64 (n : Int)), (12, .pointer (some ⟨b12, 0, none⟩)), (7, .int .i64 (n : Int)), (1, .slice pu (n * n) cu), (4, .pointer (some ⟨b4, 0, none⟩)), (2, .pointer (some ⟨b2, 0, none⟩)), (5, .int .i64 0)]) ⟨rfl, rfl, rfl, rfl, rfl, rfl, rfl, rfl, rfl, rfl, rfl, rfl, rfl, rfl, rfl, rfl, rfl, rfl, trivial⟩ ⟨0, by omega, rfl, rfl, uc, rfl, rfl⟩ ?_
    rintro z E U7 M' ⟨k, hk, rfl, rfl, hU7, rfl, rfl⟩
    try refine Qc ?_
    refine Qj rfl (fun h8 => ?_) (fun h8 => ?_)
    ·have hkn : k < n := by omega
     have l1 := Jm hin han
     have l2 := Jm han hkn
     have l3 := Jm hjn hkn
     obtain ⟨u1, hu1⟩ := rwu.at l1
     obtain ⟨hv1, hz1⟩ := elu _ _ hu1
     subst hv1
     obtain ⟨u2, hu2⟩ := rw1.at l2
     obtain ⟨hv2, hz2⟩ := el _ _ hu2
     subst hv2
     obtain ⟨u3, hu3⟩ := rwu.at l3
     obtain ⟨hv3, hz3⟩ := elu _ _ hu3
     subst hv3
     obtain ⟨m1, m2⟩ := Qeb hb hall hin hjn han hkn
     have q1 := QbN h8' hb hall hin hjn a ha
     have q2 := QbG hb hall hin hjn han k hk
     have e1 : cou n f u i j a + cin n f u i j a (k + 1) = cou n f u i j a + cin n f u i j a k + u (i * n + a) * f (a * n + k) * u (j * n + k) := (Int.add_assoc _ _ _).symm
     have e2 : (i : Int) * (n : Int) = ((i * n : Nat) : Int) := (Int.natCast_mul i n).symm
     have e3 : (a : Int) * (n : Int) = ((a * n : Nat) : Int) := (Int.natCast_mul a n).symm
     have e4 : (j : Int) * (n : Int) = ((j * n : Nat) : Int) := (Int.natCast_mul j n).symm
     try refine Qc ?_
     refine QA [29] [0, 1, 2, 3, 4, 5, 6, 7, 8, 9, 10, 11, 12, 13, 14, 15, 16, 17, 18, 19, 20, 21, 22, 23, 24, 25, 26, 27, 28, 29] sym (by kernel_rfl) ?_
     try refine Qc ?_
     refine sl_y (Qg sym rfl rfl rfl rfl rfl ( (show _ = ((i * n + a : Nat) : Int) by omega)) ((rwu.up uc sb).lt hu1) ((rwu.up uc sb).get _ _ hu1).1) rfl rfl rfl rfl ?_; refine sl_y (Qk sym rfl rfl rfl rfl (rwu.up uc sb) hu1 rfl) rfl rfl rfl rfl ?_
     try refine Qc ?_
     refine sl_y (Qg sym rfl rfl rfl rfl rfl ( (show _ = ((a * n + k : Nat) : Int) by omega)) ((rw1.up uc sb).lt hu2) ((rw1.up uc sb).get _ _ hu2).1) rfl rfl rfl rfl ?_; refine sl_y (Qk sym rfl rfl rfl rfl (rw1.up uc sb) hu2 rfl) rfl rfl rfl rfl ?_
     try refine Qc ?_
     refine sl_y (Qg sym rfl rfl rfl rfl rfl ( (show _ = ((j * n + k : Nat) : Int) by omega)) ((rwu.up uc sb).lt hu3) ((rwu.up uc sb).get _ _ hu3).1) rfl rfl rfl rfl ?_; refine sl_y (Qk sym rfl rfl rfl rfl (rwu.up uc sb) hu3 rfl) rfl rfl rfl rfl ?_
     try refine Qc ?_
     rw [← e1]
     exact Qh (E' := [(80, .int .i64 ((k : Int) + 1)), (79, .int .i64 (n : Int)), (16, .int .i64 (a : Int)), (76, .int .i64 (a : Int)), (75, .int .i64 (n : Int)), (15, .int .i64 (cou n f u i j a + cin n f u i j a (k + 1))), (14, .int .i64 (j : Int)), (72, .int .i64 (j : Int)), (71, .int .i64 (n : Int)), (13, .int .i64 (i : Int)), (68, .int .i64 (i : Int)), (67, .int .i64 (n : Int)), (12, .pointer (some ⟨b12, 0, none⟩)), (7, .int .i64 (n : Int)), (1, .slice pu (n * n) cu), (4, .pointer (some ⟨b4, 0, none⟩)), (2, .pointer (some ⟨b2, 0, none⟩)), (5, .int .i64 0)]) (m := n - (k + 1)) ⟨rfl, rfl, rfl, rfl, rfl, rfl, rfl, rfl, rfl, rfl, rfl, rfl, rfl, rfl, rfl, rfl, rfl, rfl, trivial⟩ (by omega) ⟨k + 1, by omega, rfl, rfl, uc, rfl, rfl⟩
    ·obtain rfl : n = k := by omega
     have e1 : cou n f u i j (a + 1) + cin n f u i j (a + 1) 0 = cou n f u i j a + cin n f u i j a n := Int.add_zero _
     rw [← e1]
     try refine Qc ?_
     exact Qh (E' := [(76, .int .i64 ((a : Int) + 1)), (75, .int .i64 (n : Int)), (15, .int .i64 (cou n f u i j (a + 1) + cin n f u i j (a + 1) 0)), (14, .int .i64 (j : Int)), (72, .int .i64 (j : Int)), (71, .int .i64 (n : Int)), (13, .int .i64 (i : Int)), (68, .int .i64 (i : Int)), (67, .int .i64 (n : Int)), (12, .pointer (some ⟨b12, 0, none⟩)), (7, .int .i64 (n : Int)), (1, .slice pu (n * n) cu), (4, .pointer (some ⟨b4, 0, none⟩)), (2, .pointer (some ⟨b2, 0, none⟩)), (5, .int .i64 0)]) (m := n - (a + 1)) ⟨rfl, rfl, rfl, rfl, rfl, rfl, rfl, rfl, rfl, rfl, rfl, rfl, rfl, rfl, rfl, trivial⟩ (by omega) ⟨a + 1, by omega, rfl, rfl, uc, rfl, rfl⟩
   ·obtain rfl : n = a := by omega
    have e1 : cou n f u i j n + cin n f u i j n 0 = chf n f u (i * n + j) := by rw [hch i j hin hjn]; exact Int.add_zero _
    have q1 := QbN h8' hb hall hin hjn n (Nat.le_refl n)
    have q2 := hch i j hin hjn
    rw [e1]
    try refine Qc ?_
    refine Yw hrow (X := (b12, .var (.agg #[.int .i64 (n : Int), .slice Q w C]), 24) :: (b4, .var (.agg #[.int .i64 0, .slice none 0 0]), 24) :: (b2, .var (.agg #[.int .i64 (n : Int), .slice p (n * n) c]), 24) :: M) pgs (fun b P2 C2 D2 hr2 => ?_)
    refine Qi (M' := (b12, .var (.agg #[.int .i64 (n : Int), .slice Q w C]), 24) :: (b4, .var (.agg #[.int .i64 0, .slice none 0 0]), 24) :: (b2, .var (.agg #[.int .i64 (n : Int), .slice p (n * n) c]), 24) :: (D2 ++ M)) ?_ pgs
    try refine Qc ?_
    refine VY 0 sym rfl rfl rfl rfl rfl rfl rfl rfl rfl rfl rfl ?_
    try refine Qc ?_
    exact Qh (E' := [(72, .int .i64 ((j : Int) + 1)), (71, .int .i64 (n : Int)), (13, .int .i64 (i : Int)), (68, .int .i64 (i : Int)), (67, .int .i64 (n : Int)), (12, .pointer (some ⟨b12, 0, none⟩)), (7, .int .i64 (n : Int)), (1, .slice pu (n * n) cu), (4, .pointer (some ⟨b4, 0, none⟩)), (2, .pointer (some ⟨b2, 0, none⟩)), (5, .int .i64 0)]) (m := n - (j + 1)) ⟨rfl, rfl, rfl, rfl, rfl, rfl, rfl, rfl, rfl, rfl, rfl, trivial⟩ (by omega) ⟨j + 1, w + 1, P2, C2, _, D2, by omega, by omega, hr2, JL hrow.len.1 (hel.up KeptC.out uc) (by rw [hw]; exact ⟨rfl, by omega⟩), rfl, uc, rfl, rfl⟩
  ·obtain rfl : n = j := by omega
   try refine Qc ?_
   exact Qh (E' := [(68, .int .i64 ((i : Int) + 1)), (67, .int .i64 (n : Int)), (12, .pointer (some ⟨b12, 0, none⟩)), (7, .int .i64 (n : Int)), (1, .slice pu (n * n) cu), (4, .pointer (some ⟨b4, 0, none⟩)), (2, .pointer (some ⟨b2, 0, none⟩)), (5, .int .i64 0)]) (m := n - (i + 1)) ⟨rfl, rfl, rfl, rfl, rfl, rfl, rfl, rfl, trivial⟩ (by omega) ⟨i + 1, w, Q, C, xs, D, by omega, by rw [Nat.add_mul]; omega, hrow, hel, rfl, uc, rfl, rfl⟩
 obtain rfl : n = i := by omega
 subst hw
 repeat (first|refine Qb ?_|refine Qa fun _=>?_|refine w_al fun _=>?_)
 refine Qd rfl rfl rfl rfl rfl rfl (fun _ => yA (hrow.at sb) hel (by omega)) ?_
 rintro v3 U8 D3 hU3 ⟨bb, rfl, hbb, rfl, rfl⟩
 rw [List.nil_append]
 cases bb
 ·have hno : ¬ Ins (n * n) (chf n f u) := fun h2 => by have := hbb.2 h2; cases this
  repeat (first|refine Qb ?_|refine Qa fun _=>?_|refine w_al fun _=>?_)
  exact Qe [] sym rfl (.cons (.cell 1 rfl rfl rfl) (.cons (.tmp rfl) .nil)) uc sb (.inl rfl) (by
   rw [if_neg hno]
   exact ⟨fun _ => rfl, fun h2 => absurd h2 (by decide)⟩)
 ·have hyes : Ins (n * n) (chf n f u) := hbb.1 rfl
  rw [if_pos hyes]
  repeat (first|refine Qb ?_|refine Qa fun _=>?_|refine w_al fun _=>?_)
  exact Qe D sym rfl (.cons (.cell 1 rfl rfl rfl) (.cons (.tmp rfl) .nil)) uc sb (.inl rfl) ⟨fun h2 => absurd rfl h2, fun _ => ⟨_, rfl, _, _, _, rfl, hrow, hel⟩⟩
end Go.Proofs.YtjfkodlddladhaaGreat

/- Walks of reference 33: zero, Result. -/
namespace Go.Proofs.YtjfkodlddladhaaGreat
open Go.Hp
variable {G : World} {U U' : UH} {M : MH}
end Go.Proofs.YtjfkodlddladhaaGreat

/- Polynomials of layer 36: their values; the reference's at and form. -/
namespace Go.Hp
end Go.Hp
namespace Go.Proofs.YtjfkodlddladhaaGreat
open Go.Hp
variable {G : World} {U U' : UH} {M M' : MH}
abbrev TMo : Nat := 65
def Mon (b : Nat) (U : UH) (M : MH) (v : Value) (ne : Nat) (e : Nat → Int) (q : Rat) : Prop :=
 ∃ (pe : Option Addr) (ce : Nat) (xs : List Value) (x : QV), v = .agg #[.slice pe ne ce, .bool x.num.neg, .slice x.num.p x.num.n x.num.c, .bool x.den.neg, .slice x.den.p x.den.n x.den.c] ∧ ne ≤ ce ∧ RowAt U M 1 pe ne xs ∧ El Vz U xs e ∧ x.rep U M q ∧ x.le b
theorem Mon.up {b ne : Nat} {v : Value} {e : Nat → Int} {q : Rat} (h : Mon b U M v ne e q) (hU : ULe U U') (hM : M.Sublist M') : Mon b U' M' v ne e q := by
 obtain ⟨pe, ce, xs, x, h1, h2, h3, h4, h5, h6⟩ := h
 exact ⟨pe, ce, xs, x, h1, h2, h3.up hU hM, h4, h5.up hU hM, h6⟩
def Pol (b : Nat) (U : UH) (M : MH) (v : Value) (np : Nat) (ne : Nat → Nat) (e : Nat → Nat → Int) (q : Nat → Rat) : Prop :=
 ∃ (p : Option Addr) (c : Nat) (ms : List Value), v = .slice p np c ∧ np ≤ c ∧ RowAt U M 5 p np ms ∧ ∀ i u, ms[i]? = some u → Mon b U M u (ne i) (e i) (q i)
theorem Pol.up {b np : Nat} {v : Value} {ne : Nat → Nat} {e : Nat → Nat → Int} {q : Nat → Rat} (h : Pol b U M v np ne e q) (hU : ULe U U') (hM : M.Sublist M') : Pol b U' M' v np ne e q := by
 obtain ⟨p, c, ms, h1, h2, h3, h4⟩ := h
 exact ⟨p, c, ms, h1, h2, h3.up hU hM, fun i u hi => (h4 i u hi).up hU hM⟩
def pwr (r : Rat) : Nat → Rat
 | 0 => 1
 | j + 1 => pwr r j * r
def mpx (e : Nat → Int) (x : Nat → Int) : Nat → Rat
 | 0 => 1
 | k + 1 => mpx e x k * pwr ((x k : Int) : Rat) (e k).toNat
def pex (np n : Nat) (e : Nat → Nat → Int) (q : Nat → Rat) (x : Nat → Int) : Rat := La.sm np fun i => q i * mpx (e i) x n
def exs (e : Nat → Int) : Nat → Nat
 | 0 => 0
 | k + 1 => exs e k + (e k).toNat
def Fit (np n : Nat) (ne : Nat → Nat) (e : Nat → Nat → Int) : Prop := np ≤ 60 ∧ ∀ i, i < np → ne i = n ∧ ∀ k, k < n → 0 ≤ e i k ∧ e i k ≤ 6
end Go.Proofs.YtjfkodlddladhaaGreat

/- Walks of layer 36's reference: Weighted, Expansion. -/
namespace Go.Proofs.YtjfkodlddladhaaGreat
open Go.Hp
variable {G : World} {U U' : UH} {M : MH}
def ww (n : Nat) (f : Nat → Int) (b : Nat → Nat) (w : Nat → Rat) : Nat → Nat → Rat
 | 0, _ => 0
 | k + 1, q => if vn n f b k = q then ww n f b w k q + w k else ww n f b w k q
def WgtP (n : Nat) (f : Nat → Int) (P : Nat) (pw : (Nat → Int) → Rat) (U' : UH) (v : Value) : Prop :=
 ∃ X, Inv n f X ∧ (Bx.pre (bd X (P - 1)) n ≤ 1048576 → ∃ s r, Skp (ww n f (bd X (P - 1)) (fun k => pw (Bx.vec (bd X (P - 1)) n k)) (Bx.pre (bd X (P - 1)) n)) P s ∧ v = .tuple #[r, .int .i64 0] ∧ Vser Vq U' [] r (s : Int) (P - s) (fun k => ww n f (bd X (P - 1)) (fun k => pw (Bx.vec (bd X (P - 1)) n k)) (Bx.pre (bd X (P - 1)) n) (s + k))) ∧
  (1048576 < Bx.pre (bd X (P - 1)) n → v = .tuple #[.agg #[.int .i64 0, .slice none 0 0], .int .i64 7])
def WSz (n : Nat) (f : Nat → Int) (P B : Nat) (pw : (Nat → Int) → Rat) : Prop :=
 ∀ X, Inv n f X → Bx.pre (bd X (P - 1)) n ≤ 1048576 → ∀ k, k < Bx.pre (bd X (P - 1)) n → Szq (pw (Bx.vec (bd X (P - 1)) n k)) B ∧ ∀ q, Szq (ww n f (bd X (P - 1)) (fun k => pw (Bx.vec (bd X (P - 1)) n k)) (k + 1) q) B
end Go.Proofs.YtjfkodlddladhaaGreat

/- Walks of layer 36's reference: Change. -/
namespace Go.Proofs.YtjfkodlddladhaaGreat
open Go.Hp
open Classical
variable {G : World} {U U' : UH} {M : MH}
end Go.Proofs.YtjfkodlddladhaaGreat
