/- Texts of this seat's own, merged: each begins with its own remark. -/
import Derived.Test.YtjfkodlddladhaaGreatM56
import Derived.Test.YtjfkodlddladhaaGreatM54
import Derived.Test.YtjfkodlddladhaaGreatHy
/- Walks of layer 36: Sum. -/
namespace Go.Proofs.YtjfkodlddladhaaGreat
open Go.Hp
variable {G : World} {U U' : UH} {M : MH}
def GrO (e : Int) (n : Nat) (g : Nat → Int) (U' : UH) (v : Value) : Prop :=
 (e ≠ 0 → v = .tuple #[.agg #[.int .i64 0, .slice none 0 0], .int .i64 e]) ∧ (e = 0 → ∃ s, v = .tuple #[.agg #[.int .i64 (n : Int), s], .int .i64 0] ∧ Ls Vz 1 (n * n) U' [] s g)
def GrC (e : Int) (n : Nat) (g : Nat → Int) (U' : UH) (D : MH) (v : Value) : Prop :=
 (e ≠ 0 → v = .tuple #[.agg #[.int .i64 0, .slice none 0 0], .int .i64 e]) ∧ (e = 0 → ∃ s, v = .tuple #[.agg #[.int .i64 (n : Int), s], .int .i64 0] ∧ Lo Vz TInt 1 (n * n) U' D s g)
theorem gr_settle {e : Int} {n : Nat} {g : Nat → Int} {f : Nat} {args : List Value} (h : Ct Tryz.prog f args G U M fun v U' D => GrC e n g U' D v) : Ct Tryz.prog f args G U M fun v U' D => GrO e n g U' v ∧ D = [] :=
 h.settle.mono fun _ _ _ _ ⟨h1, _, _, ⟨k1, k2⟩, _, h5, h6⟩ => ⟨⟨k1, fun e1 => by
  obtain ⟨s, e3, e4⟩ := k2 e1
  exact ⟨s, e3, e4.sett KeptC.out h5 h6⟩⟩, h1⟩
def sgc (n n1 n2 : Nat) (f1 f2 : Nat → Int) (a b : Nat) (k : Nat) : Int :=
 if k / n < a ∧ k % n < n1 then f1 (k / n * n1 + k % n) else if n1 ≤ k / n ∧ k / n < n1 + b ∧ n1 ≤ k % n then f2 ((k / n - n1) * n2 + (k % n - n1)) else 0
theorem dm {n q s : Nat} (hs : s < n) : (q * n + s) / n = q ∧ (q * n + s) % n = s := by
 refine ⟨?_, ?_⟩
 ·rw [Nat.mul_comm, Nat.mul_add_div (by omega), Nat.div_eq_of_lt hs]; rfl
 ·rw [Nat.mul_comm, Nat.mul_add_mod, Nat.mod_eq_of_lt hs]
theorem blk_iff {n m lo q i s : Nat} (hs : s < n) (hm : lo + m ≤ n) : (i * n + lo ≤ q * n + s ∧ q * n + s < i * n + lo + m) ↔ q = i ∧ lo ≤ s ∧ s < lo + m := by
 constructor
 ·rintro ⟨h1, h2⟩
  rcases Nat.lt_trichotomy q i with e | e | e
  ·have := Nat.mul_le_mul_right n (show q + 1 ≤ i by omega)
   rw [Nat.add_mul] at this
   omega
  ·subst e; exact ⟨rfl, by omega, by omega⟩
  ·have := Nat.mul_le_mul_right n (show i + 1 ≤ q by omega)
   rw [Nat.add_mul] at this
   omega
 ·rintro ⟨rfl, h1, h2⟩
  omega
theorem sgc_one {n n1 n2 i k : Nat} {f1 f2 : Nat → Int} (hn : n = n1 + n2) (h1 : 1 ≤ n1) (hi : i < n1) :
  sgc n n1 n2 f1 f2 (i + 1) 0 k = if i * n ≤ k ∧ k < i * n + n1 then f1 (i * n1 + (k - i * n)) else sgc n n1 n2 f1 f2 i 0 k := by
 have hk := Nat.div_add_mod k n
 rw [Nat.mul_comm] at hk
 have hs := Nat.mod_lt k (show n > 0 by omega)
 unfold sgc
 generalize k / n = q at hk ⊢
 generalize k % n = s at hk hs ⊢
 subst hk
 have hb := blk_iff (i := i) (q := q) (lo := 0) (m := n1) hs (by omega)
 simp only [Nat.add_zero, Nat.zero_le, true_and, Nat.zero_add] at hb
 simp only [hb]
 by_cases e : q = i
 ·subst e
  by_cases e2 : s < n1
  ·rw [if_pos ⟨by omega, e2⟩, if_pos ⟨rfl, e2⟩]
   congr 1
   omega
  ·rw [if_neg (by omega), if_neg (by omega), if_neg (by omega : ¬ (q = q ∧ s < n1)), if_neg (by omega)]
 ·rw [if_neg (by omega : ¬ (q = i ∧ s < n1))]
  have e3 : (q < i + 1 ∧ s < n1) ↔ (q < i ∧ s < n1) := by omega
  simp only [e3]
theorem sgc_two {n n1 n2 i k : Nat} {f1 f2 : Nat → Int} (hn : n = n1 + n2) (h1 : 1 ≤ n1) (_hi : i < n2) :
  sgc n n1 n2 f1 f2 n1 (i + 1) k = if (n1 + i) * n + n1 ≤ k ∧ k < (n1 + i) * n + n1 + n2 then f2 (i * n2 + (k - ((n1 + i) * n + n1))) else sgc n n1 n2 f1 f2 n1 i k := by
 have hk := Nat.div_add_mod k n
 rw [Nat.mul_comm] at hk
 have hs := Nat.mod_lt k (show n > 0 by omega)
 unfold sgc
 generalize k / n = q at hk ⊢
 generalize k % n = s at hk hs ⊢
 subst hk
 have hb := blk_iff (i := n1 + i) (q := q) (lo := n1) (m := n2) hs (by omega)
 simp only [hb]
 by_cases e : q = n1 + i
 ·subst e
  by_cases e2 : n1 ≤ s
  ·rw [if_neg (by omega), if_pos ⟨by omega, by omega, e2⟩, if_pos ⟨rfl, e2, by omega⟩]
   congr 1
   rw [show n1 + i - n1 = i by omega]
   omega
  ·rw [if_neg (by omega), if_neg (by omega), if_neg (by omega : ¬ (n1 + i = n1 + i ∧ n1 ≤ s ∧ s < n1 + n2)), if_neg (by omega), if_neg (by omega)]
 ·rw [if_neg (by omega : ¬ (q = n1 + i ∧ n1 ≤ s ∧ s < n1 + n2))]
  have e3 : (n1 ≤ q ∧ q < n1 + (i + 1) ∧ n1 ≤ s) ↔ (n1 ≤ q ∧ q < n1 + i ∧ n1 ≤ s) := by omega
  simp only [e3]
theorem sgc_zero {n n1 n2 k : Nat} {f1 f2 : Nat → Int} : sgc n n1 n2 f1 f2 0 0 k = 0 := by
 unfold sgc
 generalize k / n = q
 generalize k % n = s
 rw [if_neg (by omega), if_neg (by omega)]
theorem spl_step {xs us : List Value} {lo m n' : Nat} {g g' F : Nat → Int} (hl : lo + m ≤ xs.length) (hus : us.length = m) (hF : ∀ j, j < m → us[j]? = some (.int .i64 (F j))) (hx : ∀ k, k < n' → xs[k]? = some (.int .i64 (g k))) (hg : ∀ k, g' k = if lo ≤ k ∧ k < lo + m then F (k - lo) else g k) : ∀ k, k < n' → (spl xs us lo)[k]? = some (.int .i64 (g' k)) := fun k hk => by
 rw [spl_at (by omega), hg, hus]
 by_cases e : lo ≤ k ∧ k < lo + m
 ·rw [if_pos e, if_pos e]; exact hF _ (by omega)
 ·rw [if_neg e, if_neg e]; exact hx k hk
theorem part_at {p : Option Addr} {vs : List Value} {f : Nat → Int} {N i m : Nat} (rw1 : RowAt U M 1 p N vs) (el : El Vz U vs f) (h : i * m + m ≤ N) : ∀ j, j < m → ((vs.drop (i * m)).take m)[j]? = some (.int .i64 (f (i * m + j))) := fun j hj => by
 rw [List.getElem?_take_of_lt hj, List.getElem?_drop]
 obtain ⟨v, hv⟩ := rw1.at (k := i * m + j) (by omega)
 obtain ⟨rfl, -⟩ := el _ _ hv
 exact hv
theorem row_in {n i m : Nat} (hi : i < n) : i * m + m ≤ n * m := by
 have := Nat.mul_le_mul_right m (show i + 1 ≤ n by omega)
 rw [Nat.add_mul] at this
 omega
theorem sgc_bd {n n1 n2 k : Nat} {f1 f2 : Nat → Int} (hn : n = n1 + n2) (h1 : ∀ k, k < n1 * n1 → -1000 ≤ f1 k ∧ f1 k ≤ 1000) (h2 : ∀ k, k < n2 * n2 → -1000 ≤ f2 k ∧ f2 k ≤ 1000) (hk : k < n * n) : -1000 ≤ sgc n n1 n2 f1 f2 n1 n2 k ∧ sgc n n1 n2 f1 f2 n1 n2 k ≤ 1000 := by
 obtain ⟨h3, h4⟩ := fl_lt hk
 unfold sgc
 generalize k / n = q at h3 ⊢
 generalize k % n = s at h4 ⊢
 split
 ·rename_i h; exact h1 _ (ij_lt h.1 h.2)
 ·split
  ·exact h2 _ (ij_lt (by omega) (by omega))
  ·exact ⟨by decide, by decide⟩
noncomputable def esum (r1 : Int) (N1 : Nat) (f1 : Nat → Int) (r2 : Int) (N2 : Nat) (f2 : Nat → Int) : Int :=
 if chk r1 N1 f1 ≠ 0 then chk r1 N1 f1 else if chk r2 N2 f2 ≠ 0 then chk r2 N2 f2 else if r1 + r2 > 8 then 2 else 0
set_option maxHeartbeats 4000000 in
theorem tSum_ct {r1 r2 : Int} {N1 N2 c1 c2 : Nat} {p1 p2 : Option Addr} {vs1 vs2 : List Value} {f1 f2 : Nat → Int} (rw1 : RowAt U [] 1 p1 N1 vs1) (el1 : El Vz U vs1 f1) (hN1 : N1 ≤ 9223372036854775807) (hc1 : N1 ≤ c1) (rw2 : RowAt U [] 1 p2 N2 vs2) (el2 : El Vz U vs2 f2) (hN2 : N2 ≤ 9223372036854775807) (hc2 : N2 ≤ c2) :
  Ct Tryz.prog 45 [.agg #[.int .i64 r1, .slice p1 N1 c1], .agg #[.int .i64 r2, .slice p2 N2 c2]] G U M fun v U' D => GrO (esum r1 N1 f1 r2 N2 f2) (r1 + r2).toNat (sgc (r1 + r2).toNat r1.toNat r2.toNat f1 f2 r1.toNat r2.toNat) U' v ∧ D = [] := by
 refine gr_settle ?_
 refine ct_of_st Tryz.func45 rfl rfl rfl rfl ?_
 repeat (first|refine run_S ?_|refine w_box fun _=>?_|refine w_al fun _=>?_)
 rename_i b2 b3 b4
 refine sl_call rfl rfl rfl rfl rfl rfl (fun _ => tCheck_ct (rw1.up uc (List.nil_sublist _)) (el1.up KeptC.out uc) hN1) ?_
 rintro v1 U1 D hU1 ⟨rfl, -, rfl⟩
 rw [List.nil_append]
 repeat (first|refine run_S ?_|refine w_box fun _=>?_|refine w_al fun _=>?_)
 refine st_ne rfl (fun h => ?_) (fun h => ?_)
 ·repeat (first|refine run_S ?_|refine w_box fun _=>?_|refine w_al fun _=>?_)
  exact sk_ret [] sym rfl (.cons (.cell 0 rfl rfl rfl) (.cons (.tmp rfl) .nil)) uc sb (.inl rfl) (by
   unfold esum
   rw [if_pos h]
   exact ⟨fun _ => rfl, fun h2 => absurd h2 h⟩)
 repeat (first|refine run_S ?_|refine w_box fun _=>?_|refine w_al fun _=>?_)
 refine sl_call rfl rfl rfl rfl rfl rfl (fun _ => tCheck_ct (rw2.up uc (List.nil_sublist _)) (el2.up KeptC.out uc) hN2) ?_
 rintro v1 U2 D hU2 ⟨rfl, -, rfl⟩
 rw [List.nil_append]
 repeat (first|refine run_S ?_|refine w_box fun _=>?_|refine w_al fun _=>?_)
 refine st_ne rfl (fun h2 => ?_) (fun h2 => ?_)
 ·repeat (first|refine run_S ?_|refine w_box fun _=>?_|refine w_al fun _=>?_)
  exact sk_ret [] sym rfl (.cons (.cell 0 rfl rfl rfl) (.cons (.tmp rfl) .nil)) uc sb (.inl rfl) (by
   unfold esum
   rw [if_neg (Classical.not_not.2 h), if_pos h2]
   exact ⟨fun _ => rfl, fun h3 => absurd h3 h2⟩)
 unfold esum
 rw [if_neg (Classical.not_not.2 h), if_neg (Classical.not_not.2 h2)]
 obtain ⟨n1, rfl, h11, h18, rfl, hb1, -⟩ := chk_zero h
 obtain ⟨n2, rfl, h21, h28, rfl, hb2, -⟩ := chk_zero h2
 rw [h, h2]
 obtain ⟨n, hn⟩ : ∃ n, n = n1 + n2 := ⟨_, rfl⟩
 have hni : (n1 : Int) + (n2 : Int) = (n : Int) := by omega
 repeat (first|refine run_S ?_|refine w_box fun _=>?_|refine w_al fun _=>?_)
 rw [hni]
 refine st_dec rfl (fun h3 => ?_) (fun h3 => ?_)
 ·repeat (first|refine run_S ?_|refine w_box fun _=>?_|refine w_al fun _=>?_)
  exact sk_ret [] sym rfl (.cons (.cell 0 rfl rfl rfl) (.cons (.tmp rfl) .nil)) uc sb (.inl rfl) (by
   rw [if_pos (by omega)]
   exact ⟨fun _ => rfl, fun h3 => absurd h3 (by decide)⟩)
 rw [if_neg (by omega)]
 have hnn : n * n ≤ 8 * 8 := Nat.mul_le_mul (by omega) (by omega)
 have hnn2 : (n : Int) * (n : Int) = ((n * n : Nat) : Int) := (Int.natCast_mul n n).symm
 have h0n : 1 ≤ n := by omega
 rw [show ((n : Nat) : Int).toNat = n from rfl, show ((n1 : Nat) : Int).toNat = n1 from rfl, show ((n2 : Nat) : Int).toNat = n2 from rfl]
 repeat (first|refine run_S ?_|refine w_box fun _=>?_|refine w_al fun _=>?_)
 refine sl_make (m := n * n) (n := n * n) sym rfl rfl rfl rfl rfl hnn2 hnn2 rfl rfl (Nat.le_refl _) (by omega) (by omega) rfl rfl rfl rfl (fun bm => ?_)
 have hrow := rowO_make (e := TInt) (s := 1) (b := bm) (n := n * n) (z := .int .i64 0) rfl (by omega)
 repeat (first|refine run_S ?_|refine w_box fun _=>?_|refine w_al fun _=>?_)
 rename_i b9
 have hx0 : ∀ k, k < n * n → (List.replicate (n * n) (Value.int .i64 0))[k]? = some (.int .i64 (sgc n n1 n2 f1 f2 0 0 k)) := fun k hk => by
  rw [List.getElem?_replicate, if_pos hk, sgc_zero]
 refine st_perm (M' := (b9, .var (.agg #[.int .i64 (n : Int), .slice (some ⟨bm, 0, none⟩) (n * n) (n * n)]), 24) :: (([(bm, Blk.arr (List.replicate (n * n) (.int .i64 0)), TInt)] : MH) ++ ((b4, .var (.agg #[.int .i64 0, .slice none 0 0]), 24) :: (b3, .var (.agg #[.int .i64 (n2 : Int), .slice p2 (n2 * n2) c2]), 24) :: (b2, .var (.agg #[.int .i64 (n1 : Int), .slice p1 (n1 * n1) c1]), 24) :: M))) (List.Perm.refl _) ?_
 refine st_perm (M' := (b9, .var (.agg #[.int .i64 (n : Int), .slice (some ⟨bm, 0, none⟩) (n * n) (n * n)]), 24) :: (b4, .var (.agg #[.int .i64 0, .slice none 0 0]), 24) :: (b3, .var (.agg #[.int .i64 (n2 : Int), .slice p2 (n2 * n2) c2]), 24) :: (b2, .var (.agg #[.int .i64 (n1 : Int), .slice p1 (n1 * n1) c1]), 24) :: (([(bm, Blk.arr (List.replicate (n * n) (.int .i64 0)), TInt)] : MH) ++ M)) pgs ?_
 generalize List.replicate (n * n) (Value.int .i64 0) = xs0 at hrow hx0 ⊢
 generalize [(bm, Blk.arr xs0, TInt)] = D0 at hrow ⊢
 try refine st_anti (M' := (b9, .var (.agg #[.int .i64 (n : Int), .slice (some ⟨bm, 0, none⟩) (n * n) (n * n)]), 24) :: (b4, .var (.agg #[.int .i64 0, .slice none 0 0]), 24) :: (b3, .var (.agg #[.int .i64 (n2 : Int), .slice p2 (n2 * n2) c2]), 24) :: (b2, .var (.agg #[.int .i64 (n1 : Int), .slice p1 (n1 * n1) c1]), 24) :: (D0 ++ M)) (ULe.refl _) sbk ?_
 refine st_loop (fun z E U' M' => ∃ (i : Nat) (xs : List Value) (Dx : MH), i ≤ n1 ∧ RowO TInt 1 Dx (some ⟨bm, 0, none⟩) (n * n) (n * n) xs ∧ (∀ k, k < n * n → xs[k]? = some (.int .i64 (sgc n n1 n2 f1 f2 i 0 k))) ∧ E = [(40, .int .i64 (i : Int)), (39, .int .i64 (n1 : Int)), (8, .int .i64 (n : Int)), (9, .pointer (some ⟨b9, 0, none⟩)), (5, .int .i64 0), (4, .pointer (some ⟨b4, 0, none⟩)), (3, .pointer (some ⟨b3, 0, none⟩)), (2, .pointer (some ⟨b2, 0, none⟩))] ∧ ULe U2 U' ∧ M' = (b9, .var (.agg #[.int .i64 (n : Int), .slice (some ⟨bm, 0, none⟩) (n * n) (n * n)]), 24) :: (b4, .var (.agg #[.int .i64 0, .slice none 0 0]), 24) :: (b3, .var (.agg #[.int .i64 (n2 : Int), .slice p2 (n2 * n2) c2]), 24) :: (b2, .var (.agg #[.int .i64 (n1 : Int), .slice p1 (n1 * n1) c1]), 24) :: (Dx ++ M) ∧ z = n1 - i) (n0 := n1 - 0) (E0 := [(40, .int .i64 ((0 : Nat) : Int)), (39, .int .i64 (n1 : Int)), (8, .int .i64 (n : Int)), (9, .pointer (some ⟨b9, 0, none⟩)), (5, .int .i64 0), (4, .pointer (some ⟨b4, 0, none⟩)), (3, .pointer (some ⟨b3, 0, none⟩)), (2, .pointer (some ⟨b2, 0, none⟩))]) ⟨rfl, rfl, rfl, rfl, rfl, rfl, rfl, rfl, trivial⟩ ⟨0, xs0, D0, by omega, hrow, hx0, rfl, uc, rfl, rfl⟩ ?_
 clear hrow hx0
 rintro z E U3 M' ⟨i, xs, Dx, hi, hrow, hx, rfl, hU3, rfl, rfl⟩
 try refine run_s ?_
 refine st_dec rfl (fun h5 => ?_) (fun h5 => ?_)
 ·have hin : i < n1 := by omega
  have e1 : (i : Int) * (n : Int) = ((i * n : Nat) : Int) := (Int.natCast_mul i n).symm
  have e2 : (i : Int) * (n1 : Int) = ((i * n1 : Nat) : Int) := (Int.natCast_mul i n1).symm
  have e3 : ((i : Int) + 1) * (n1 : Int) = ((i * n1 + n1 : Nat) : Int) := by rw [Int.add_mul, e2]; omega
  have m1 := row_in (m := n) (show i < n by omega)
  have m2 := row_in (m := n1) hin
  have hlen := hrow.len.1
  try refine run_s ?_
  refine st_drawM [18] [0, 1, 2, 3, 4, 5, 6, 7, 8, 9, 10, 11, 12, 13, 14, 15, 16, 17, 18] sym (by kernel_rfl) ?_
  try refine run_s ?_
  refine w_sFrom (lo := i * n) (n := n * n) (c := n * n) (by omega) (by omega) ?_ (hv := e1)
  try refine run_s ?_
  refine w_sPart (lo := i * n1) (hi := i * n1 + n1) (n := n1 * n1) (c := c1) (by omega) (by omega) ?_ (hv := e2) (hv' := e3)
  have hpart := (rw1.up (M' := (b9, .var (.agg #[.int .i64 (n : Int), .slice (some ⟨bm, 0, none⟩) (n * n) (n * n)]), 24) :: (b4, .var (.agg #[.int .i64 0, .slice none 0 0]), 24) :: (b3, .var (.agg #[.int .i64 (n2 : Int), .slice p2 (n2 * n2) c2]), 24) :: (b2, .var (.agg #[.int .i64 (n1 : Int), .slice p1 (n1 * n1) c1]), 24) :: (Dx ++ M)) (hU1.trans (hU2.trans hU3)) (List.nil_sublist _)).part (lo := i * n1) (hi := i * n1 + n1) (c := c1) (by omega) (by omega) hc1
  rw [show i * n1 + n1 - i * n1 = n1 by omega] at hpart ⊢
  try refine run_s ?_
  have hpa := part_at rw1 el1 m2
  refine sl_copyR (X := (b9, .var (.agg #[.int .i64 (n : Int), .slice (some ⟨bm, 0, none⟩) (n * n) (n * n)]), 24) :: (b4, .var (.agg #[.int .i64 0, .slice none 0 0]), 24) :: (b3, .var (.agg #[.int .i64 (n2 : Int), .slice p2 (n2 * n2) c2]), 24) :: (b2, .var (.agg #[.int .i64 (n1 : Int), .slice p1 (n1 * n1) c1]), 24) :: M) sym rfl rfl rfl rfl rfl hrow pgs hpart (fun v hv => by
   obtain ⟨k, hk⟩ := List.getElem?_of_mem hv
   have hkl := (List.getElem?_eq_some_iff.1 hk).1
   rw [hpa k (by rw [List.length_take] at hkl; omega)] at hk
   cases hk; rfl) h11 (by omega) rfl rfl rfl rfl (fun D3 hr3 => ?_)
  refine sl_perm (M' := (b9, .var (.agg #[.int .i64 (n : Int), .slice (some ⟨bm, 0, none⟩) (n * n) (n * n)]), 24) :: (b4, .var (.agg #[.int .i64 0, .slice none 0 0]), 24) :: (b3, .var (.agg #[.int .i64 (n2 : Int), .slice p2 (n2 * n2) c2]), 24) :: (b2, .var (.agg #[.int .i64 (n1 : Int), .slice p1 (n1 * n1) c1]), 24) :: (D3 ++ M)) ?_ pgs
  have hx' := spl_step (g' := sgc n n1 n2 f1 f2 (i + 1) 0) (lo := i * n) (by omega) hpart.len hpa hx (fun k => sgc_one hn h11 hin)
  try refine run_s ?_
  exact sk_again (E' := [(40, .int .i64 ((i : Int) + 1)), (39, .int .i64 (n1 : Int)), (8, .int .i64 (n : Int)), (9, .pointer (some ⟨b9, 0, none⟩)), (5, .int .i64 0), (4, .pointer (some ⟨b4, 0, none⟩)), (3, .pointer (some ⟨b3, 0, none⟩)), (2, .pointer (some ⟨b2, 0, none⟩))]) (m := n1 - (i + 1)) ⟨rfl, rfl, rfl, rfl, rfl, rfl, rfl, rfl, trivial⟩ (by omega) ⟨i + 1, _, D3, by omega, hr3, hx', rfl, uc, rfl, rfl⟩
 obtain rfl : n1 = i := by omega
 try refine run_s ?_
 try refine st_anti (M' := (b9, .var (.agg #[.int .i64 (n : Int), .slice (some ⟨bm, 0, none⟩) (n * n) (n * n)]), 24) :: (b4, .var (.agg #[.int .i64 0, .slice none 0 0]), 24) :: (b3, .var (.agg #[.int .i64 (n2 : Int), .slice p2 (n2 * n2) c2]), 24) :: (b2, .var (.agg #[.int .i64 (n1 : Int), .slice p1 (n1 * n1) c1]), 24) :: (Dx ++ M)) (ULe.refl _) sbk ?_
 refine st_loop (fun z E U' M' => ∃ (i : Nat) (xs : List Value) (Dx : MH), i ≤ n2 ∧ RowO TInt 1 Dx (some ⟨bm, 0, none⟩) (n * n) (n * n) xs ∧ (∀ k, k < n * n → xs[k]? = some (.int .i64 (sgc n n1 n2 f1 f2 n1 i k))) ∧ E = [(65, .int .i64 (i : Int)), (64, .int .i64 (n2 : Int)), (8, .int .i64 (n : Int)), (9, .pointer (some ⟨b9, 0, none⟩)), (5, .int .i64 0), (4, .pointer (some ⟨b4, 0, none⟩)), (3, .pointer (some ⟨b3, 0, none⟩)), (2, .pointer (some ⟨b2, 0, none⟩))] ∧ ULe U3 U' ∧ M' = (b9, .var (.agg #[.int .i64 (n : Int), .slice (some ⟨bm, 0, none⟩) (n * n) (n * n)]), 24) :: (b4, .var (.agg #[.int .i64 0, .slice none 0 0]), 24) :: (b3, .var (.agg #[.int .i64 (n2 : Int), .slice p2 (n2 * n2) c2]), 24) :: (b2, .var (.agg #[.int .i64 (n1 : Int), .slice p1 (n1 * n1) c1]), 24) :: (Dx ++ M) ∧ z = n2 - i) (n0 := n2 - 0) (E0 := [(65, .int .i64 ((0 : Nat) : Int)), (64, .int .i64 (n2 : Int)), (8, .int .i64 (n : Int)), (9, .pointer (some ⟨b9, 0, none⟩)), (5, .int .i64 0), (4, .pointer (some ⟨b4, 0, none⟩)), (3, .pointer (some ⟨b3, 0, none⟩)), (2, .pointer (some ⟨b2, 0, none⟩))]) ⟨rfl, rfl, rfl, rfl, rfl, rfl, rfl, rfl, trivial⟩ ⟨0, xs, Dx, by omega, hrow, hx, rfl, uc, rfl, rfl⟩ ?_
 clear hrow hx
 rintro z E U4 M' ⟨i, xs, Dx, hi, hrow, hx, rfl, hU4, rfl, rfl⟩
 try refine run_s ?_
 refine st_dec rfl (fun h5 => ?_) (fun h5 => ?_)
 ·have hin : i < n2 := by omega
  have e1 : ((n1 : Int) + (i : Int)) * (n : Int) = (((n1 + i) * n : Nat) : Int) := by rw [Int.natCast_mul, Int.natCast_add]
  have e2 : (i : Int) * (n2 : Int) = ((i * n2 : Nat) : Int) := (Int.natCast_mul i n2).symm
  have e3 : ((i : Int) + 1) * (n2 : Int) = ((i * n2 + n2 : Nat) : Int) := by rw [Int.add_mul, e2]; omega
  have m1 := row_in (m := n) (show n1 + i < n by omega)
  have m2 := row_in (m := n2) hin
  have hlen := hrow.len.1
  try refine run_s ?_
  refine st_drawM [24] [0, 1, 2, 3, 4, 5, 6, 7, 8, 9, 10, 11, 12, 13, 14, 15, 16, 17, 18, 19, 20, 21, 22, 23, 24] sym (by kernel_rfl) ?_
  try refine run_s ?_
  refine w_sFrom (lo := (n1 + i) * n + n1) (n := n * n) (c := n * n) (by omega) (by omega) ?_ (hv := by omega)
  try refine run_s ?_
  refine w_sPart (lo := i * n2) (hi := i * n2 + n2) (n := n2 * n2) (c := c2) (by omega) (by omega) ?_ (hv := e2) (hv' := e3)
  have hpart := (rw2.up (M' := (b9, .var (.agg #[.int .i64 (n : Int), .slice (some ⟨bm, 0, none⟩) (n * n) (n * n)]), 24) :: (b4, .var (.agg #[.int .i64 0, .slice none 0 0]), 24) :: (b3, .var (.agg #[.int .i64 (n2 : Int), .slice p2 (n2 * n2) c2]), 24) :: (b2, .var (.agg #[.int .i64 (n1 : Int), .slice p1 (n1 * n1) c1]), 24) :: (Dx ++ M)) (hU1.trans (hU2.trans (hU3.trans hU4))) (List.nil_sublist _)).part (lo := i * n2) (hi := i * n2 + n2) (c := c2) (by omega) (by omega) hc2
  rw [show i * n2 + n2 - i * n2 = n2 by omega] at hpart ⊢
  try refine run_s ?_
  have hpa := part_at rw2 el2 m2
  refine sl_copyR (X := (b9, .var (.agg #[.int .i64 (n : Int), .slice (some ⟨bm, 0, none⟩) (n * n) (n * n)]), 24) :: (b4, .var (.agg #[.int .i64 0, .slice none 0 0]), 24) :: (b3, .var (.agg #[.int .i64 (n2 : Int), .slice p2 (n2 * n2) c2]), 24) :: (b2, .var (.agg #[.int .i64 (n1 : Int), .slice p1 (n1 * n1) c1]), 24) :: M) sym rfl rfl rfl rfl rfl hrow pgs hpart (fun v hv => by
   obtain ⟨k, hk⟩ := List.getElem?_of_mem hv
   have hkl := (List.getElem?_eq_some_iff.1 hk).1
   rw [hpa k (by rw [List.length_take] at hkl; omega)] at hk
   cases hk; rfl) h21 (by omega) rfl rfl rfl rfl (fun D3 hr3 => ?_)
  refine sl_perm (M' := (b9, .var (.agg #[.int .i64 (n : Int), .slice (some ⟨bm, 0, none⟩) (n * n) (n * n)]), 24) :: (b4, .var (.agg #[.int .i64 0, .slice none 0 0]), 24) :: (b3, .var (.agg #[.int .i64 (n2 : Int), .slice p2 (n2 * n2) c2]), 24) :: (b2, .var (.agg #[.int .i64 (n1 : Int), .slice p1 (n1 * n1) c1]), 24) :: (D3 ++ M)) ?_ pgs
  have hx' := spl_step (g' := sgc n n1 n2 f1 f2 n1 (i + 1)) (lo := (n1 + i) * n + n1) (by omega) hpart.len hpa hx (fun k => sgc_two hn h11 hin)
  try refine run_s ?_
  exact sk_again (E' := [(65, .int .i64 ((i : Int) + 1)), (64, .int .i64 (n2 : Int)), (8, .int .i64 (n : Int)), (9, .pointer (some ⟨b9, 0, none⟩)), (5, .int .i64 0), (4, .pointer (some ⟨b4, 0, none⟩)), (3, .pointer (some ⟨b3, 0, none⟩)), (2, .pointer (some ⟨b2, 0, none⟩))]) (m := n2 - (i + 1)) ⟨rfl, rfl, rfl, rfl, rfl, rfl, rfl, rfl, trivial⟩ (by omega) ⟨i + 1, _, D3, by omega, hr3, hx', rfl, uc, rfl, rfl⟩
 obtain rfl : n2 = i := by omega
 repeat (first|refine run_S ?_|refine w_box fun _=>?_|refine w_al fun _=>?_)
 exact sk_ret Dx sym rfl (.cons (.cell 1 rfl rfl rfl) (.cons (.tmp rfl) .nil)) uc sb (.inl rfl) ⟨fun h2 => absurd rfl h2, fun _ => ⟨_, rfl, _, _, xs, rfl, hrow, fun k x hk => by
  have hkn : k < n * n := by
   have := (List.getElem?_eq_some_iff.1 hk).1
   have := hrow.len.1
   omega
  rw [hx k hkn] at hk
  cases hk
  exact ⟨rfl, by have := sgc_bd (k := k) hn hb1 hb2 hkn; omega⟩⟩⟩
set_option maxHeartbeats 4000000 in
theorem r36Sum_ct {r1 r2 : Int} {N1 N2 c1 c2 : Nat} {p1 p2 : Option Addr} {vs1 vs2 : List Value} {f1 f2 : Nat → Int} (rw1 : RowAt U [] 1 p1 N1 vs1) (el1 : El Vz U vs1 f1) (hN1 : N1 ≤ 9223372036854775807) (hc1 : N1 ≤ c1) (rw2 : RowAt U [] 1 p2 N2 vs2) (el2 : El Vz U vs2 f2) (hN2 : N2 ≤ 9223372036854775807) (hc2 : N2 ≤ c2) :
  Ct Tryz.prog 50 [.agg #[.int .i64 r1, .slice p1 N1 c1], .agg #[.int .i64 r2, .slice p2 N2 c2]] G U M fun v U' D => GrO (esum r1 N1 f1 r2 N2 f2) (r1 + r2).toNat (sgc (r1 + r2).toNat r1.toNat r2.toNat f1 f2 r1.toNat r2.toNat) U' v ∧ D = [] := by
 refine gr_settle ?_
 refine ct_of_st Tryz.func50 rfl rfl rfl rfl ?_
 repeat (first|refine run_S ?_|refine w_box fun _=>?_|refine w_al fun _=>?_)
 rename_i b2 b3 b4
 refine sl_call rfl rfl rfl rfl rfl rfl (fun _ => r36Check_ct (rw1.up uc (List.nil_sublist _)) (el1.up KeptC.out uc) hc1 hN1) ?_
 rintro v1 U1 D hU1 ⟨rfl, -, rfl⟩
 rw [List.nil_append]
 repeat (first|refine run_S ?_|refine w_box fun _=>?_|refine w_al fun _=>?_)
 refine st_ne rfl (fun h => ?_) (fun h => ?_)
 ·repeat (first|refine run_S ?_|refine w_box fun _=>?_|refine w_al fun _=>?_)
  exact sk_ret [] sym rfl (.cons (.cell 0 rfl rfl rfl) (.cons (.tmp rfl) .nil)) uc sb (.inl rfl) (by
   unfold esum
   rw [if_pos h]
   exact ⟨fun _ => rfl, fun h2 => absurd h2 h⟩)
 repeat (first|refine run_S ?_|refine w_box fun _=>?_|refine w_al fun _=>?_)
 refine sl_call rfl rfl rfl rfl rfl rfl (fun _ => r36Check_ct (rw2.up uc (List.nil_sublist _)) (el2.up KeptC.out uc) hc2 hN2) ?_
 rintro v1 U2 D hU2 ⟨rfl, -, rfl⟩
 rw [List.nil_append]
 repeat (first|refine run_S ?_|refine w_box fun _=>?_|refine w_al fun _=>?_)
 refine st_ne rfl (fun h2 => ?_) (fun h2 => ?_)
 ·repeat (first|refine run_S ?_|refine w_box fun _=>?_|refine w_al fun _=>?_)
  exact sk_ret [] sym rfl (.cons (.cell 0 rfl rfl rfl) (.cons (.tmp rfl) .nil)) uc sb (.inl rfl) (by
   unfold esum
   rw [if_neg (Classical.not_not.2 h), if_pos h2]
   exact ⟨fun _ => rfl, fun h3 => absurd h3 h2⟩)
 unfold esum
 rw [if_neg (Classical.not_not.2 h), if_neg (Classical.not_not.2 h2)]
 obtain ⟨n1, rfl, h11, h18, rfl, hb1, -⟩ := chk_zero h
 obtain ⟨n2, rfl, h21, h28, rfl, hb2, -⟩ := chk_zero h2
 rw [h, h2]
 obtain ⟨n, hn⟩ : ∃ n, n = n1 + n2 := ⟨_, rfl⟩
 have hni : (n1 : Int) + (n2 : Int) = (n : Int) := by omega
 repeat (first|refine run_S ?_|refine w_box fun _=>?_|refine w_al fun _=>?_)
 rw [hni]
 refine st_dec rfl (fun h3 => ?_) (fun h3 => ?_)
 ·repeat (first|refine run_S ?_|refine w_box fun _=>?_|refine w_al fun _=>?_)
  exact sk_ret [] sym rfl (.cons (.cell 0 rfl rfl rfl) (.cons (.tmp rfl) .nil)) uc sb (.inl rfl) (by
   rw [if_pos (by omega)]
   exact ⟨fun _ => rfl, fun h3 => absurd h3 (by decide)⟩)
 rw [if_neg (by omega)]
 have hnn : n * n ≤ 8 * 8 := Nat.mul_le_mul (by omega) (by omega)
 have hnn2 : (n : Int) * (n : Int) = ((n * n : Nat) : Int) := (Int.natCast_mul n n).symm
 have h0n : 1 ≤ n := by omega
 rw [show ((n : Nat) : Int).toNat = n from rfl, show ((n1 : Nat) : Int).toNat = n1 from rfl, show ((n2 : Nat) : Int).toNat = n2 from rfl]
 repeat (first|refine run_S ?_|refine w_box fun _=>?_|refine w_al fun _=>?_)
 refine sl_make (m := n * n) (n := n * n) sym rfl rfl rfl rfl rfl hnn2 hnn2 rfl rfl (Nat.le_refl _) (by omega) (by omega) rfl rfl rfl rfl (fun bm => ?_)
 have hrow := rowO_make (e := TInt) (s := 1) (b := bm) (n := n * n) (z := .int .i64 0) rfl (by omega)
 repeat (first|refine run_S ?_|refine w_box fun _=>?_|refine w_al fun _=>?_)
 rename_i b9
 have hx0 : ∀ k, k < n * n → (List.replicate (n * n) (Value.int .i64 0))[k]? = some (.int .i64 (sgc n n1 n2 f1 f2 0 0 k)) := fun k hk => by
  rw [List.getElem?_replicate, if_pos hk, sgc_zero]
 refine st_perm (M' := (b9, .var (.agg #[.int .i64 (n : Int), .slice (some ⟨bm, 0, none⟩) (n * n) (n * n)]), 24) :: (([(bm, Blk.arr (List.replicate (n * n) (.int .i64 0)), TInt)] : MH) ++ ((b4, .var (.agg #[.int .i64 0, .slice none 0 0]), 24) :: (b3, .var (.agg #[.int .i64 (n2 : Int), .slice p2 (n2 * n2) c2]), 24) :: (b2, .var (.agg #[.int .i64 (n1 : Int), .slice p1 (n1 * n1) c1]), 24) :: M))) (List.Perm.refl _) ?_
 refine st_perm (M' := (b9, .var (.agg #[.int .i64 (n : Int), .slice (some ⟨bm, 0, none⟩) (n * n) (n * n)]), 24) :: (b4, .var (.agg #[.int .i64 0, .slice none 0 0]), 24) :: (b3, .var (.agg #[.int .i64 (n2 : Int), .slice p2 (n2 * n2) c2]), 24) :: (b2, .var (.agg #[.int .i64 (n1 : Int), .slice p1 (n1 * n1) c1]), 24) :: (([(bm, Blk.arr (List.replicate (n * n) (.int .i64 0)), TInt)] : MH) ++ M)) pgs ?_
 generalize List.replicate (n * n) (Value.int .i64 0) = xs0 at hrow hx0 ⊢
 generalize [(bm, Blk.arr xs0, TInt)] = D0 at hrow ⊢
 try refine st_anti (M' := (b9, .var (.agg #[.int .i64 (n : Int), .slice (some ⟨bm, 0, none⟩) (n * n) (n * n)]), 24) :: (b4, .var (.agg #[.int .i64 0, .slice none 0 0]), 24) :: (b3, .var (.agg #[.int .i64 (n2 : Int), .slice p2 (n2 * n2) c2]), 24) :: (b2, .var (.agg #[.int .i64 (n1 : Int), .slice p1 (n1 * n1) c1]), 24) :: (D0 ++ M)) (ULe.refl _) sbk ?_
 refine st_loop (fun z E U' M' => ∃ (i : Nat) (xs : List Value) (Dx : MH), i ≤ n1 ∧ RowO TInt 1 Dx (some ⟨bm, 0, none⟩) (n * n) (n * n) xs ∧ (∀ k, k < n * n → xs[k]? = some (.int .i64 (sgc n n1 n2 f1 f2 i 0 k))) ∧ E = [(10, .int .i64 (i : Int)), (8, .int .i64 (n : Int)), (9, .pointer (some ⟨b9, 0, none⟩)), (5, .int .i64 0), (4, .pointer (some ⟨b4, 0, none⟩)), (3, .pointer (some ⟨b3, 0, none⟩)), (2, .pointer (some ⟨b2, 0, none⟩))] ∧ ULe U2 U' ∧ M' = (b9, .var (.agg #[.int .i64 (n : Int), .slice (some ⟨bm, 0, none⟩) (n * n) (n * n)]), 24) :: (b4, .var (.agg #[.int .i64 0, .slice none 0 0]), 24) :: (b3, .var (.agg #[.int .i64 (n2 : Int), .slice p2 (n2 * n2) c2]), 24) :: (b2, .var (.agg #[.int .i64 (n1 : Int), .slice p1 (n1 * n1) c1]), 24) :: (Dx ++ M) ∧ z = n1 - i) (n0 := n1 - 0) (E0 := [(10, .int .i64 ((0 : Nat) : Int)), (8, .int .i64 (n : Int)), (9, .pointer (some ⟨b9, 0, none⟩)), (5, .int .i64 0), (4, .pointer (some ⟨b4, 0, none⟩)), (3, .pointer (some ⟨b3, 0, none⟩)), (2, .pointer (some ⟨b2, 0, none⟩))]) ⟨rfl, rfl, rfl, rfl, rfl, rfl, rfl, trivial⟩ ⟨0, xs0, D0, by omega, hrow, hx0, rfl, uc, rfl, rfl⟩ ?_
 clear hrow hx0
 rintro z E U3 M' ⟨i, xs, Dx, hi, hrow, hx, rfl, hU3, rfl, rfl⟩
 try refine run_s ?_
 refine st_dec rfl (fun h5 => ?_) (fun h5 => ?_)
 ·have hin : i < n1 := by omega
  have e1 : (i : Int) * (n : Int) = ((i * n : Nat) : Int) := (Int.natCast_mul i n).symm
  have e2 : (i : Int) * (n1 : Int) = ((i * n1 : Nat) : Int) := (Int.natCast_mul i n1).symm
  have e3 : ((i : Int) + 1) * (n1 : Int) = ((i * n1 + n1 : Nat) : Int) := by rw [Int.add_mul, e2]; omega
  have m1 := row_in (m := n) (show i < n by omega)
  have m2 := row_in (m := n1) hin
  have hlen := hrow.len.1
  try refine run_s ?_
  refine st_drawM [18] [0, 1, 2, 3, 4, 5, 6, 7, 8, 9, 10, 11, 12, 13, 14, 15, 16, 17, 18] sym (by kernel_rfl) ?_
  try refine run_s ?_
  refine w_sFrom (lo := i * n) (n := n * n) (c := n * n) (by omega) (by omega) ?_ (hv := e1)
  try refine run_s ?_
  refine w_sPart (lo := i * n1) (hi := i * n1 + n1) (n := n1 * n1) (c := c1) (by omega) (by omega) ?_ (hv := e2) (hv' := e3)
  have hpart := (rw1.up (M' := (b9, .var (.agg #[.int .i64 (n : Int), .slice (some ⟨bm, 0, none⟩) (n * n) (n * n)]), 24) :: (b4, .var (.agg #[.int .i64 0, .slice none 0 0]), 24) :: (b3, .var (.agg #[.int .i64 (n2 : Int), .slice p2 (n2 * n2) c2]), 24) :: (b2, .var (.agg #[.int .i64 (n1 : Int), .slice p1 (n1 * n1) c1]), 24) :: (Dx ++ M)) (hU1.trans (hU2.trans hU3)) (List.nil_sublist _)).part (lo := i * n1) (hi := i * n1 + n1) (c := c1) (by omega) (by omega) hc1
  rw [show i * n1 + n1 - i * n1 = n1 by omega] at hpart ⊢
  try refine run_s ?_
  have hpa := part_at rw1 el1 m2
  refine sl_copyR (X := (b9, .var (.agg #[.int .i64 (n : Int), .slice (some ⟨bm, 0, none⟩) (n * n) (n * n)]), 24) :: (b4, .var (.agg #[.int .i64 0, .slice none 0 0]), 24) :: (b3, .var (.agg #[.int .i64 (n2 : Int), .slice p2 (n2 * n2) c2]), 24) :: (b2, .var (.agg #[.int .i64 (n1 : Int), .slice p1 (n1 * n1) c1]), 24) :: M) sym rfl rfl rfl rfl rfl hrow pgs hpart (fun v hv => by
   obtain ⟨k, hk⟩ := List.getElem?_of_mem hv
   have hkl := (List.getElem?_eq_some_iff.1 hk).1
   rw [hpa k (by rw [List.length_take] at hkl; omega)] at hk
   cases hk; rfl) h11 (by omega) rfl rfl rfl rfl (fun D3 hr3 => ?_)
  refine sl_perm (M' := (b9, .var (.agg #[.int .i64 (n : Int), .slice (some ⟨bm, 0, none⟩) (n * n) (n * n)]), 24) :: (b4, .var (.agg #[.int .i64 0, .slice none 0 0]), 24) :: (b3, .var (.agg #[.int .i64 (n2 : Int), .slice p2 (n2 * n2) c2]), 24) :: (b2, .var (.agg #[.int .i64 (n1 : Int), .slice p1 (n1 * n1) c1]), 24) :: (D3 ++ M)) ?_ pgs
  have hx' := spl_step (g' := sgc n n1 n2 f1 f2 (i + 1) 0) (lo := i * n) (by omega) hpart.len hpa hx (fun k => sgc_one hn h11 hin)
  try refine run_s ?_
  exact sk_again (E' := [(10, .int .i64 ((i : Int) + 1)), (8, .int .i64 (n : Int)), (9, .pointer (some ⟨b9, 0, none⟩)), (5, .int .i64 0), (4, .pointer (some ⟨b4, 0, none⟩)), (3, .pointer (some ⟨b3, 0, none⟩)), (2, .pointer (some ⟨b2, 0, none⟩))]) (m := n1 - (i + 1)) ⟨rfl, rfl, rfl, rfl, rfl, rfl, rfl, trivial⟩ (by omega) ⟨i + 1, _, D3, by omega, hr3, hx', rfl, uc, rfl, rfl⟩
 obtain rfl : n1 = i := by omega
 try refine run_s ?_
 try refine st_anti (M' := (b9, .var (.agg #[.int .i64 (n : Int), .slice (some ⟨bm, 0, none⟩) (n * n) (n * n)]), 24) :: (b4, .var (.agg #[.int .i64 0, .slice none 0 0]), 24) :: (b3, .var (.agg #[.int .i64 (n2 : Int), .slice p2 (n2 * n2) c2]), 24) :: (b2, .var (.agg #[.int .i64 (n1 : Int), .slice p1 (n1 * n1) c1]), 24) :: (Dx ++ M)) (ULe.refl _) sbk ?_
 refine st_loop (fun z E U' M' => ∃ (i : Nat) (xs : List Value) (Dx : MH), i ≤ n2 ∧ RowO TInt 1 Dx (some ⟨bm, 0, none⟩) (n * n) (n * n) xs ∧ (∀ k, k < n * n → xs[k]? = some (.int .i64 (sgc n n1 n2 f1 f2 n1 i k))) ∧ E = [(11, .int .i64 (i : Int)), (8, .int .i64 (n : Int)), (9, .pointer (some ⟨b9, 0, none⟩)), (5, .int .i64 0), (4, .pointer (some ⟨b4, 0, none⟩)), (3, .pointer (some ⟨b3, 0, none⟩)), (2, .pointer (some ⟨b2, 0, none⟩))] ∧ ULe U3 U' ∧ M' = (b9, .var (.agg #[.int .i64 (n : Int), .slice (some ⟨bm, 0, none⟩) (n * n) (n * n)]), 24) :: (b4, .var (.agg #[.int .i64 0, .slice none 0 0]), 24) :: (b3, .var (.agg #[.int .i64 (n2 : Int), .slice p2 (n2 * n2) c2]), 24) :: (b2, .var (.agg #[.int .i64 (n1 : Int), .slice p1 (n1 * n1) c1]), 24) :: (Dx ++ M) ∧ z = n2 - i) (n0 := n2 - 0) (E0 := [(11, .int .i64 ((0 : Nat) : Int)), (8, .int .i64 (n : Int)), (9, .pointer (some ⟨b9, 0, none⟩)), (5, .int .i64 0), (4, .pointer (some ⟨b4, 0, none⟩)), (3, .pointer (some ⟨b3, 0, none⟩)), (2, .pointer (some ⟨b2, 0, none⟩))]) ⟨rfl, rfl, rfl, rfl, rfl, rfl, rfl, trivial⟩ ⟨0, xs, Dx, by omega, hrow, hx, rfl, uc, rfl, rfl⟩ ?_
 clear hrow hx
 rintro z E U4 M' ⟨i, xs, Dx, hi, hrow, hx, rfl, hU4, rfl, rfl⟩
 try refine run_s ?_
 refine st_dec rfl (fun h5 => ?_) (fun h5 => ?_)
 ·have hin : i < n2 := by omega
  have e1 : ((n1 : Int) + (i : Int)) * (n : Int) = (((n1 + i) * n : Nat) : Int) := by rw [Int.natCast_mul, Int.natCast_add]
  have e2 : (i : Int) * (n2 : Int) = ((i * n2 : Nat) : Int) := (Int.natCast_mul i n2).symm
  have e3 : ((i : Int) + 1) * (n2 : Int) = ((i * n2 + n2 : Nat) : Int) := by rw [Int.add_mul, e2]; omega
  have m1 := row_in (m := n) (show n1 + i < n by omega)
  have m2 := row_in (m := n2) hin
  have hlen := hrow.len.1
  try refine run_s ?_
  refine st_drawM [24] [0, 1, 2, 3, 4, 5, 6, 7, 8, 9, 10, 11, 12, 13, 14, 15, 16, 17, 18, 19, 20, 21, 22, 23, 24] sym (by kernel_rfl) ?_
  try refine run_s ?_
  refine w_sFrom (lo := (n1 + i) * n + n1) (n := n * n) (c := n * n) (by omega) (by omega) ?_ (hv := by omega)
  try refine run_s ?_
  refine w_sPart (lo := i * n2) (hi := i * n2 + n2) (n := n2 * n2) (c := c2) (by omega) (by omega) ?_ (hv := e2) (hv' := e3)
  have hpart := (rw2.up (M' := (b9, .var (.agg #[.int .i64 (n : Int), .slice (some ⟨bm, 0, none⟩) (n * n) (n * n)]), 24) :: (b4, .var (.agg #[.int .i64 0, .slice none 0 0]), 24) :: (b3, .var (.agg #[.int .i64 (n2 : Int), .slice p2 (n2 * n2) c2]), 24) :: (b2, .var (.agg #[.int .i64 (n1 : Int), .slice p1 (n1 * n1) c1]), 24) :: (Dx ++ M)) (hU1.trans (hU2.trans (hU3.trans hU4))) (List.nil_sublist _)).part (lo := i * n2) (hi := i * n2 + n2) (c := c2) (by omega) (by omega) hc2
  rw [show i * n2 + n2 - i * n2 = n2 by omega] at hpart ⊢
  try refine run_s ?_
  have hpa := part_at rw2 el2 m2
  refine sl_copyR (X := (b9, .var (.agg #[.int .i64 (n : Int), .slice (some ⟨bm, 0, none⟩) (n * n) (n * n)]), 24) :: (b4, .var (.agg #[.int .i64 0, .slice none 0 0]), 24) :: (b3, .var (.agg #[.int .i64 (n2 : Int), .slice p2 (n2 * n2) c2]), 24) :: (b2, .var (.agg #[.int .i64 (n1 : Int), .slice p1 (n1 * n1) c1]), 24) :: M) sym rfl rfl rfl rfl rfl hrow pgs hpart (fun v hv => by
   obtain ⟨k, hk⟩ := List.getElem?_of_mem hv
   have hkl := (List.getElem?_eq_some_iff.1 hk).1
   rw [hpa k (by rw [List.length_take] at hkl; omega)] at hk
   cases hk; rfl) h21 (by omega) rfl rfl rfl rfl (fun D3 hr3 => ?_)
  refine sl_perm (M' := (b9, .var (.agg #[.int .i64 (n : Int), .slice (some ⟨bm, 0, none⟩) (n * n) (n * n)]), 24) :: (b4, .var (.agg #[.int .i64 0, .slice none 0 0]), 24) :: (b3, .var (.agg #[.int .i64 (n2 : Int), .slice p2 (n2 * n2) c2]), 24) :: (b2, .var (.agg #[.int .i64 (n1 : Int), .slice p1 (n1 * n1) c1]), 24) :: (D3 ++ M)) ?_ pgs
  have hx' := spl_step (g' := sgc n n1 n2 f1 f2 n1 (i + 1)) (lo := (n1 + i) * n + n1) (by omega) hpart.len hpa hx (fun k => sgc_two hn h11 hin)
  try refine run_s ?_
  exact sk_again (E' := [(11, .int .i64 ((i : Int) + 1)), (8, .int .i64 (n : Int)), (9, .pointer (some ⟨b9, 0, none⟩)), (5, .int .i64 0), (4, .pointer (some ⟨b4, 0, none⟩)), (3, .pointer (some ⟨b3, 0, none⟩)), (2, .pointer (some ⟨b2, 0, none⟩))]) (m := n2 - (i + 1)) ⟨rfl, rfl, rfl, rfl, rfl, rfl, rfl, trivial⟩ (by omega) ⟨i + 1, _, D3, by omega, hr3, hx', rfl, uc, rfl, rfl⟩
 obtain rfl : n2 = i := by omega
 repeat (first|refine run_S ?_|refine w_box fun _=>?_|refine w_al fun _=>?_)
 exact sk_ret Dx sym rfl (.cons (.cell 1 rfl rfl rfl) (.cons (.tmp rfl) .nil)) uc sb (.inl rfl) ⟨fun h2 => absurd rfl h2, fun _ => ⟨_, rfl, _, _, xs, rfl, hrow, fun k x hk => by
  have hkn : k < n * n := by
   have := (List.getElem?_eq_some_iff.1 hk).1
   have := hrow.len.1
   omega
  rw [hx k hkn] at hk
  cases hk
  exact ⟨rfl, by have := sgc_bd (k := k) hn hb1 hb2 hkn; omega⟩⟩⟩
end Go.Proofs.YtjfkodlddladhaaGreat

/- Walks of layer 36: Scale. -/
namespace Go.Proofs.YtjfkodlddladhaaGreat
open Go.Hp
open Classical
variable {G : World} {U U' : UH} {M : MH}
def scf (f : Nat → Int) (d : Int) (k : Nat) : Int := f k * min d 1001
noncomputable def escl (r : Int) (N : Nat) (f : Nat → Int) (d : Int) : Int :=
 if chk r N f ≠ 0 then chk r N f else if d < 1 then 2 else if Ins N (scf f d) then 0 else 7
theorem pdm_first {n : Nat} {f : Nat → Int} (h1 : 1 ≤ n) (hp : Pdm n f) : 1 ≤ f 0 := by
 have h := hp 1 (Nat.le_refl 1) h1
 have e : (La.det 1 fun i j => ((f (i * n + j) : Int) : Rat)) = ((f 0 : Int) : Rat) := by
  rw [det_pdm]
  have : Lr.det 1 (fun i j => f (i * n + j)) = f 0 := by
   simp only [Lr.det, Lr.sm]
   rw [show (0 : Nat) * n + 0 = 0 by omega]
   show (0 : Int) + 1 * (f 0 * 1) = f 0
   omega
  rw [this]
 rw [e] at h
 have := Rat.intCast_lt_intCast.1 (show ((0 : Int) : Rat) < ((f 0 : Int) : Rat) from h)
 omega
set_option maxHeartbeats 4000000 in
theorem tScale_ct {r d : Int} {N c : Nat} {p : Option Addr} {vs : List Value} {f : Nat → Int} (rw1 : RowAt U [] 1 p N vs) (el : El Vz U vs f) (hN : N ≤ 9223372036854775807) (hc : N ≤ c) :
  Ct Tryz.prog 47 [.agg #[.int .i64 r, .slice p N c], .int .i64 d] G U M fun v U' D => GrO (escl r N f d) r.toNat (scf f d) U' v ∧ D = [] := by
 refine gr_settle ?_
 refine ct_of_st Tryz.func47 rfl rfl rfl rfl ?_
 repeat (first|refine run_S ?_|refine w_box fun _=>?_|refine w_al fun _=>?_)
 rename_i b2 b4
 refine sl_call rfl rfl rfl rfl rfl rfl (fun _ => tCheck_ct (rw1.up uc (List.nil_sublist _)) (el.up KeptC.out uc) hN) ?_
 rintro v1 U1 D hU1 ⟨rfl, -, rfl⟩
 rw [List.nil_append]
 repeat (first|refine run_S ?_|refine w_box fun _=>?_|refine w_al fun _=>?_)
 refine st_ne rfl (fun h => ?_) (fun h => ?_)
 ·repeat (first|refine run_S ?_|refine w_box fun _=>?_|refine w_al fun _=>?_)
  exact sk_ret [] sym rfl (.cons (.cell 0 rfl rfl rfl) (.cons (.tmp rfl) .nil)) uc sb (.inl rfl) (by
   unfold escl
   rw [if_pos h]
   exact ⟨fun _ => rfl, fun h2 => absurd h2 h⟩)
 unfold escl
 rw [if_neg (Classical.not_not.2 h)]
 obtain ⟨n, rfl, h1, h8, rfl, hb, he, hp⟩ := chk_zero h
 have hnn : n * n ≤ 8 * 8 := Nat.mul_le_mul h8 h8
 have hn1 : 1 * 1 ≤ n * n := Nat.mul_le_mul h1 h1
 rw [h]
 repeat (first|refine run_S ?_|refine w_box fun _=>?_|refine w_al fun _=>?_)
 refine st_dec rfl (fun h2 => ?_) (fun h2 => ?_)
 ·repeat (first|refine run_S ?_|refine w_box fun _=>?_|refine w_al fun _=>?_)
  exact sk_ret [] sym rfl (.cons (.cell 0 rfl rfl rfl) (.cons (.tmp rfl) .nil)) uc sb (.inl rfl) (by
   rw [if_pos h2]
   exact ⟨fun _ => rfl, fun h2 => absurd h2 (by decide)⟩)
 rw [if_neg h2]
 repeat (first|refine run_S ?_|refine w_box fun _=>?_|refine w_al fun _=>?_)
 refine st_dec rfl (fun h3 => ?_) (fun h3 => ?_)
 ·have hno : ¬ Ins (n * n) (scf f d) := fun hi => by
   have h4 := (hi 0 (by omega)).2
   have h5 := pdm_first h1 hp
   unfold scf at h4
   rw [Int.min_eq_right (by omega)] at h4
   omega
  repeat (first|refine run_S ?_|refine w_box fun _=>?_|refine w_al fun _=>?_)
  exact sk_ret [] sym rfl (.cons (.cell 0 rfl rfl rfl) (.cons (.tmp rfl) .nil)) uc sb (.inl rfl) (by
   rw [if_neg hno]
   exact ⟨fun _ => rfl, fun h2 => absurd h2 (by decide)⟩)
 have hmin : min d 1001 = d := Int.min_eq_left (by omega)
 have hsc : ∀ k, scf f d k = d * f k := fun k => by unfold scf; rw [hmin, Int.mul_comm]
 have hsb : ∀ k, k < n * n → -1000000 ≤ d * f k ∧ d * f k ≤ 1000000 := fun k hk => by
  have := mul_bd (show -1000 ≤ d ∧ d ≤ 1000 by omega) (hb k hk)
  omega
 repeat (first|refine run_S ?_|refine w_box fun _=>?_|refine w_al fun _=>?_)
 rename_i b7
 try refine st_anti (M' := (b7, .var (.agg #[.int .i64 (n : Int), .slice none 0 0]), 24) :: (b4, .var (.agg #[.int .i64 0, .slice none 0 0]), 24) :: (b2, .var (.agg #[.int .i64 (n : Int), .slice p (n * n) c]), 24) :: (([]) ++ M)) (ULe.refl _) sbk ?_
 refine st_loop (fun z E U' M' => ∃ (i : Nat) (Q : Option Addr) (C : Nat) (us : List Value) (D : MH), i ≤ n * n ∧ RowO TInt 1 D Q i C us ∧ El Vz U' us (scf f d) ∧ E = [(28, .int .i64 (i : Int)), (27, .int .i64 ((n * n) : Int)), (26, .slice p (n * n) c), (1, .int .i64 d), (7, .pointer (some ⟨b7, 0, none⟩)), (4, .pointer (some ⟨b4, 0, none⟩)), (5, .int .i64 0)] ∧ ULe U1 U' ∧ M' = (b7, .var (.agg #[.int .i64 (n : Int), .slice Q i C]), 24) :: (b4, .var (.agg #[.int .i64 0, .slice none 0 0]), 24) :: (b2, .var (.agg #[.int .i64 (n : Int), .slice p (n * n) c]), 24) :: (D ++ M) ∧ z = n * n - i) (n0 := n * n - 0) (E0 := [(28, .int .i64 ((0 : Nat) : Int)), (27, .int .i64 ((n * n) : Int)), (26, .slice p (n * n) c), (1, .int .i64 d), (7, .pointer (some ⟨b7, 0, none⟩)), (4, .pointer (some ⟨b4, 0, none⟩)), (5, .int .i64 0)]) ⟨rfl, rfl, rfl, rfl, rfl, rfl, rfl, trivial⟩ ⟨0, none, 0, [], [], by omega, RowO.nil, El.nil, rfl, uc, rfl, rfl⟩ ?_
 rintro z E U2 M' ⟨i, Q, C, us, D, hi, hrow, hel, rfl, hU2, rfl, rfl⟩
 try refine run_s ?_
 refine st_dec rfl (fun h4 => ?_) (fun h4 => ?_)
 ·have hin : i < n * n := by omega
  obtain ⟨v1, hv1⟩ := rw1.at hin
  obtain ⟨rfl, hz⟩ := el _ _ hv1
  have hsi := hsb i hin
  try refine run_s ?_
  refine sl_y (yl_index sym rfl rfl rfl rfl rfl rfl ((rw1.up uc sb).lt hv1) ((rw1.up uc sb).get _ _ hv1).1) rfl rfl rfl rfl ?_; refine sl_y (yl_loadR1 sym rfl rfl rfl rfl (rw1.up uc sb) hv1 rfl) rfl rfl rfl rfl ?_
  try refine run_s ?_
  refine w_push hrow (X := (b7, .var (.agg #[.int .i64 (n : Int), .slice Q i C]), 24) :: (b4, .var (.agg #[.int .i64 0, .slice none 0 0]), 24) :: (b2, .var (.agg #[.int .i64 (n : Int), .slice p (n * n) c]), 24) :: M) pgs (fun b P2 C2 D2 hr2 => ?_)
  refine sl_perm (M' := (b7, .var (.agg #[.int .i64 (n : Int), .slice Q i C]), 24) :: (b4, .var (.agg #[.int .i64 0, .slice none 0 0]), 24) :: (b2, .var (.agg #[.int .i64 (n : Int), .slice p (n * n) c]), 24) :: (D2 ++ M)) ?_ pgs
  try refine run_s ?_
  refine sl_storeF 0 sym rfl rfl rfl rfl rfl rfl rfl rfl rfl rfl rfl ?_
  try refine run_s ?_
  exact sk_again (E' := [(28, .int .i64 ((i : Int) + 1)), (27, .int .i64 ((n * n) : Int)), (26, .slice p (n * n) c), (1, .int .i64 d), (7, .pointer (some ⟨b7, 0, none⟩)), (4, .pointer (some ⟨b4, 0, none⟩)), (5, .int .i64 0)]) (m := n * n - (i + 1)) ⟨rfl, rfl, rfl, rfl, rfl, rfl, rfl, trivial⟩ (by omega) ⟨i + 1, P2, C2, _, D2, by omega, hr2, snoc_ok hrow.len.1 (hel.up KeptC.out uc) (by rw [hsc]; exact ⟨rfl, by omega⟩), rfl, uc, rfl, rfl⟩
 obtain rfl : n * n = i := by omega
 repeat (first|refine run_S ?_|refine w_box fun _=>?_|refine w_al fun _=>?_)
 refine sl_call rfl rfl rfl rfl rfl rfl (fun _ => tinside_ct (hrow.at sb) hel (by omega)) ?_
 rintro v3 U3 D3 hU3 ⟨bb, rfl, hbb, rfl, rfl⟩
 rw [List.nil_append]
 cases bb
 ·have hno : ¬ Ins (n * n) (scf f d) := fun h2 => by have := hbb.2 h2; cases this
  repeat (first|refine run_S ?_|refine w_box fun _=>?_|refine w_al fun _=>?_)
  exact sk_ret [] sym rfl (.cons (.cell 1 rfl rfl rfl) (.cons (.tmp rfl) .nil)) uc sb (.inl rfl) (by
   rw [if_neg hno]
   exact ⟨fun _ => rfl, fun h2 => absurd h2 (by decide)⟩)
 ·have hyes : Ins (n * n) (scf f d) := hbb.1 rfl
  rw [if_pos hyes]
  repeat (first|refine run_S ?_|refine w_box fun _=>?_|refine w_al fun _=>?_)
  exact sk_ret D sym rfl (.cons (.cell 1 rfl rfl rfl) (.cons (.tmp rfl) .nil)) uc sb (.inl rfl) ⟨fun h2 => absurd rfl h2, fun _ => ⟨_, rfl, _, _, _, rfl, hrow, hel⟩⟩
set_option maxHeartbeats 4000000 in
theorem r36Scale_ct {r d : Int} {N c : Nat} {p : Option Addr} {vs : List Value} {f : Nat → Int} (rw1 : RowAt U [] 1 p N vs) (el : El Vz U vs f) (hN : N ≤ 9223372036854775807) (hc : N ≤ c) :
  Ct Tryz.prog 51 [.agg #[.int .i64 r, .slice p N c], .int .i64 d] G U M fun v U' D => GrO (escl r N f d) r.toNat (scf f d) U' v ∧ D = [] := by
 refine gr_settle ?_
 refine ct_of_st Tryz.func51 rfl rfl rfl rfl ?_
 repeat (first|refine run_S ?_|refine w_box fun _=>?_|refine w_al fun _=>?_)
 rename_i b2 b4
 refine sl_call rfl rfl rfl rfl rfl rfl (fun _ => r36Check_ct (rw1.up uc (List.nil_sublist _)) (el.up KeptC.out uc) hc hN) ?_
 rintro v1 U1 D hU1 ⟨rfl, -, rfl⟩
 rw [List.nil_append]
 repeat (first|refine run_S ?_|refine w_box fun _=>?_|refine w_al fun _=>?_)
 refine st_ne rfl (fun h => ?_) (fun h => ?_)
 ·repeat (first|refine run_S ?_|refine w_box fun _=>?_|refine w_al fun _=>?_)
  exact sk_ret [] sym rfl (.cons (.cell 0 rfl rfl rfl) (.cons (.tmp rfl) .nil)) uc sb (.inl rfl) (by
   unfold escl
   rw [if_pos h]
   exact ⟨fun _ => rfl, fun h2 => absurd h2 h⟩)
 unfold escl
 rw [if_neg (Classical.not_not.2 h)]
 obtain ⟨n, rfl, h1, h8, rfl, hb, he, hp⟩ := chk_zero h
 have hnn : n * n ≤ 8 * 8 := Nat.mul_le_mul h8 h8
 rw [h]
 repeat (first|refine run_S ?_|refine w_box fun _=>?_|refine w_al fun _=>?_)
 refine st_dec rfl (fun h2 => ?_) (fun h2 => ?_)
 ·repeat (first|refine run_S ?_|refine w_box fun _=>?_|refine w_al fun _=>?_)
  exact sk_ret [] sym rfl (.cons (.cell 0 rfl rfl rfl) (.cons (.tmp rfl) .nil)) uc sb (.inl rfl) (by
   rw [if_pos h2]
   exact ⟨fun _ => rfl, fun h2 => absurd h2 (by decide)⟩)
 rw [if_neg h2]
 have hsb : ∀ k, k < n * n → -1001000 ≤ f k * min d 1001 ∧ f k * min d 1001 ≤ 1001000 := fun k hk => by
  have := mul_bd (hb k hk) (show -1001 ≤ min d 1001 ∧ min d 1001 ≤ 1001 by omega)
  omega
 repeat (first|refine run_S ?_|refine w_box fun _=>?_|refine w_al fun _=>?_)
 rename_i b7
 try refine st_anti (M' := (b7, .var (.agg #[.int .i64 (n : Int), .slice none 0 0]), 24) :: (b4, .var (.agg #[.int .i64 0, .slice none 0 0]), 24) :: (b2, .var (.agg #[.int .i64 (n : Int), .slice p (n * n) c]), 24) :: (([]) ++ M)) (ULe.refl _) sbk ?_
 refine st_loop (fun z E U' M' => ∃ (i : Nat) (Q : Option Addr) (C : Nat) (us : List Value) (D : MH), i ≤ n * n ∧ RowO TInt 1 D Q i C us ∧ El Vz U' us (scf f d) ∧ E = [(8, .int .i64 (i : Int)), (1, .int .i64 d), (7, .pointer (some ⟨b7, 0, none⟩)), (4, .pointer (some ⟨b4, 0, none⟩)), (2, .pointer (some ⟨b2, 0, none⟩)), (5, .int .i64 0)] ∧ ULe U1 U' ∧ M' = (b7, .var (.agg #[.int .i64 (n : Int), .slice Q i C]), 24) :: (b4, .var (.agg #[.int .i64 0, .slice none 0 0]), 24) :: (b2, .var (.agg #[.int .i64 (n : Int), .slice p (n * n) c]), 24) :: (D ++ M) ∧ z = n * n - i) (n0 := n * n - 0) (E0 := [(8, .int .i64 ((0 : Nat) : Int)), (1, .int .i64 d), (7, .pointer (some ⟨b7, 0, none⟩)), (4, .pointer (some ⟨b4, 0, none⟩)), (2, .pointer (some ⟨b2, 0, none⟩)), (5, .int .i64 0)]) ⟨rfl, rfl, rfl, rfl, rfl, rfl, trivial⟩ ⟨0, none, 0, [], [], by omega, RowO.nil, El.nil, rfl, uc, rfl, rfl⟩ ?_
 rintro z E U2 M' ⟨i, Q, C, us, D, hi, hrow, hel, rfl, hU2, rfl, rfl⟩
 try refine run_s ?_
 refine st_dec rfl (fun h4 => ?_) (fun h4 => ?_)
 ·have hin : i < n * n := by omega
  obtain ⟨v1, hv1⟩ := rw1.at hin
  obtain ⟨rfl, hz⟩ := el _ _ hv1
  have hsi := hsb i hin
  have hmin : min d 1001 = if 1001 < d then 1001 else d := by omega
  rw [hmin] at hsi
  try refine run_s ?_
  refine st_drawM [11, 12, 13] [0, 1, 2, 3, 4, 5, 6, 7, 8, 9, 10, 11, 12, 13] sym (by kernel_rfl) ?_
  try refine run_s ?_
  refine sl_y (yl_index sym rfl rfl rfl rfl rfl rfl ((rw1.up uc sb).lt hv1) ((rw1.up uc sb).get _ _ hv1).1) rfl rfl rfl rfl ?_; refine sl_y (yl_loadR1 sym rfl rfl rfl rfl (rw1.up uc sb) hv1 rfl) rfl rfl rfl rfl ?_
  try refine run_s ?_
  refine w_push hrow (X := (b7, .var (.agg #[.int .i64 (n : Int), .slice Q i C]), 24) :: (b4, .var (.agg #[.int .i64 0, .slice none 0 0]), 24) :: (b2, .var (.agg #[.int .i64 (n : Int), .slice p (n * n) c]), 24) :: M) pgs (fun b P2 C2 D2 hr2 => ?_)
  refine sl_perm (M' := (b7, .var (.agg #[.int .i64 (n : Int), .slice Q i C]), 24) :: (b4, .var (.agg #[.int .i64 0, .slice none 0 0]), 24) :: (b2, .var (.agg #[.int .i64 (n : Int), .slice p (n * n) c]), 24) :: (D2 ++ M)) ?_ pgs
  try refine run_s ?_
  refine sl_storeF 0 sym rfl rfl rfl rfl rfl rfl rfl rfl rfl rfl rfl ?_
  try refine run_s ?_
  exact sk_again (E' := [(8, .int .i64 ((i : Int) + 1)), (1, .int .i64 d), (7, .pointer (some ⟨b7, 0, none⟩)), (4, .pointer (some ⟨b4, 0, none⟩)), (2, .pointer (some ⟨b2, 0, none⟩)), (5, .int .i64 0)]) (m := n * n - (i + 1)) ⟨rfl, rfl, rfl, rfl, rfl, rfl, trivial⟩ (by omega) ⟨i + 1, P2, C2, _, D2, by omega, hr2, snoc_ok hrow.len.1 (hel.up KeptC.out uc) (by unfold scf; rw [hmin]; exact ⟨rfl, by omega⟩), rfl, uc, rfl, rfl⟩
 obtain rfl : n * n = i := by omega
 repeat (first|refine run_S ?_|refine w_box fun _=>?_|refine w_al fun _=>?_)
 refine sl_call rfl rfl rfl rfl rfl rfl (fun _ => r36fits_ct (hrow.at sb) hel (by omega)) ?_
 rintro v3 U3 D3 hU3 ⟨hf1, hf2, rfl, rfl⟩
 rw [List.nil_append]
 by_cases hin : Ins (n * n) (scf f d)
 ·obtain rfl := hf1 hin
  rw [if_pos hin]
  repeat (first|refine run_S ?_|refine w_box fun _=>?_|refine w_al fun _=>?_)
  exact sk_ret D sym rfl (.cons (.cell 1 rfl rfl rfl) (.cons (.tmp rfl) .nil)) uc sb (.inl rfl) ⟨fun h2 => absurd rfl h2, fun _ => ⟨_, rfl, _, _, _, rfl, hrow, hel⟩⟩
 ·obtain rfl := hf2 hin
  repeat (first|refine run_S ?_|refine w_box fun _=>?_|refine w_al fun _=>?_)
  exact sk_ret [] sym rfl (.cons (.cell 1 rfl rfl rfl) (.cons (.tmp rfl) .nil)) uc sb (.inl rfl) (by
   rw [if_neg hin]
   exact ⟨fun _ => rfl, fun h2 => absurd h2 (by decide)⟩)
end Go.Proofs.YtjfkodlddladhaaGreat

/- Walks of layer 36: Change. -/
namespace Go.Proofs.YtjfkodlddladhaaGreat
open Go.Hp
open Classical
variable {G : World} {U U' : UH} {M : MH}
def cin (n : Nat) (f u : Nat → Int) (i j a : Nat) : Nat → Int
 | 0 => 0
 | b + 1 => cin n f u i j a b + u (i * n + a) * f (a * n + b) * u (j * n + b)
def cou (n : Nat) (f u : Nat → Int) (i j : Nat) : Nat → Int
 | 0 => 0
 | a + 1 => cou n f u i j a + cin n f u i j a n
def chf (n : Nat) (f u : Nat → Int) (k : Nat) : Int := cou n f u (k / n) (k % n) n
theorem ctm_bd {n i j a b : Nat} {f u : Nat → Int} (hb : ∀ k, k < n * n → -1000 ≤ f k ∧ f k ≤ 1000) (hu : ∀ k, k < n * n → -100 ≤ u k ∧ u k ≤ 100) (hi : i < n) (hj : j < n) (ha : a < n) (hbn : b < n) :
  (-100000 ≤ u (i * n + a) * f (a * n + b) ∧ u (i * n + a) * f (a * n + b) ≤ 100000) ∧ (-10000000 ≤ u (i * n + a) * f (a * n + b) * u (j * n + b) ∧ u (i * n + a) * f (a * n + b) * u (j * n + b) ≤ 10000000) := by
 have h1 := mul_bd (hu _ (ij_lt hi ha)) (hb _ (ij_lt ha hbn))
 have h2 := mul_bd h1 (hu _ (ij_lt hj hbn))
 omega
theorem cin_bd {n i j a : Nat} {f u : Nat → Int} (hb : ∀ k, k < n * n → -1000 ≤ f k ∧ f k ≤ 1000) (hu : ∀ k, k < n * n → -100 ≤ u k ∧ u k ≤ 100) (hi : i < n) (hj : j < n) (ha : a < n) : ∀ b, b ≤ n → -(10000000 * (b : Int)) ≤ cin n f u i j a b ∧ cin n f u i j a b ≤ 10000000 * (b : Int)
 | 0, _ => ⟨Int.le_refl 0, Int.le_refl 0⟩
 | b + 1, h => by
  have h1 := cin_bd hb hu hi hj ha b (by omega)
  have h2 := (ctm_bd hb hu hi hj ha (show b < n by omega)).2
  show _ ≤ _ + _ ∧ _ + _ ≤ _
  omega
theorem cou_bd {n i j : Nat} {f u : Nat → Int} (hn : n ≤ 8) (hb : ∀ k, k < n * n → -1000 ≤ f k ∧ f k ≤ 1000) (hu : ∀ k, k < n * n → -100 ≤ u k ∧ u k ≤ 100) (hi : i < n) (hj : j < n) : ∀ a, a ≤ n → -(80000000 * (a : Int)) ≤ cou n f u i j a ∧ cou n f u i j a ≤ 80000000 * (a : Int)
 | 0, _ => ⟨Int.le_refl 0, Int.le_refl 0⟩
 | a + 1, h => by
  have h1 := cou_bd hn hb hu hi hj a (by omega)
  have h2 := cin_bd hb hu hi hj (show a < n by omega) n (Nat.le_refl n)
  show _ ≤ _ + _ ∧ _ + _ ≤ _
  omega
noncomputable def echg (r : Int) (N : Nat) (f : Nat → Int) (Nu : Nat) (u : Nat → Int) : Int :=
 if chk r N f ≠ 0 then chk r N f else if Nu ≠ N then 4 else if ¬ (∀ k, k < Nu → -100 ≤ u k ∧ u k ≤ 100) then 2 else
  if smb (Lr.det r.toNat fun i j => u (i * r.toNat + j)) = false ∨ (smv (Lr.det r.toNat fun i j => u (i * r.toNat + j)) ≠ 1 ∧ smv (Lr.det r.toNat fun i j => u (i * r.toNat + j)) ≠ -1) then 11 else if Ins N (chf r.toNat f u) then 0 else 7
set_option maxHeartbeats 8000000 in
theorem tChange_ct {r : Int} {N Nu c cu : Nat} {p pu : Option Addr} {vs us : List Value} {f u : Nat → Int} (rw1 : RowAt U [] 1 p N vs) (el : El Vz U vs f) (hN : N ≤ 9223372036854775807) (hc : N ≤ c) (rwu : RowAt U [] 1 pu Nu us) (elu : El Vz U us u) (hNu : Nu ≤ 9223372036854775807) (hcu : Nu ≤ cu) :
  Ct Tryz.prog 52 [.agg #[.int .i64 r, .slice p N c], .slice pu Nu cu] G U M fun v U' D => GrO (echg r N f Nu u) r.toNat (chf r.toNat f u) U' v ∧ D = [] := by
 refine gr_settle ?_
 refine ct_of_st Tryz.func52 rfl rfl rfl rfl ?_
 repeat (first|refine run_S ?_|refine w_box fun _=>?_|refine w_al fun _=>?_)
 rename_i b2 b4
 refine sl_call rfl rfl rfl rfl rfl rfl (fun _ => tCheck_ct (rw1.up uc (List.nil_sublist _)) (el.up KeptC.out uc) hN) ?_
 rintro v1 U1 D hU1 ⟨rfl, -, rfl⟩
 rw [List.nil_append]
 repeat (first|refine run_S ?_|refine w_box fun _=>?_|refine w_al fun _=>?_)
 refine st_ne rfl (fun h => ?_) (fun h => ?_)
 ·repeat (first|refine run_S ?_|refine w_box fun _=>?_|refine w_al fun _=>?_)
  exact sk_ret [] sym rfl (.cons (.cell 0 rfl rfl rfl) (.cons (.tmp rfl) .nil)) uc sb (.inl rfl) (by
   unfold echg
   rw [if_pos h]
   exact ⟨fun _ => rfl, fun h2 => absurd h2 h⟩)
 unfold echg
 rw [if_neg (Classical.not_not.2 h)]
 obtain ⟨n, rfl, h1, h8, rfl, hb, he, hp⟩ := chk_zero h
 have h8' := h8
 have hnn : n * n ≤ 8 * 8 := Nat.mul_le_mul h8 h8
 have hnn2 : (n : Int) * (n : Int) = ((n * n : Nat) : Int) := (Int.natCast_mul n n).symm
 rw [h]
 rw [show ((n : Nat) : Int).toNat = n from rfl]
 repeat (first|refine run_S ?_|refine w_box fun _=>?_|refine w_al fun _=>?_)
 refine st_ne rfl (fun h2 => ?_) (fun h2 => ?_)
 ·repeat (first|refine run_S ?_|refine w_box fun _=>?_|refine w_al fun _=>?_)
  exact sk_ret [] sym rfl (.cons (.cell 0 rfl rfl rfl) (.cons (.tmp rfl) .nil)) uc sb (.inl rfl) (by
   rw [if_pos (by omega)]
   exact ⟨fun _ => rfl, fun h2 => absurd h2 (by decide)⟩)
 obtain rfl : Nu = n * n := by omega
 rw [if_neg (by omega)]
 repeat (first|refine run_S ?_|refine w_box fun _=>?_|refine w_al fun _=>?_)
 try refine st_anti (M' := (b4, .var (.agg #[.int .i64 0, .slice none 0 0]), 24) :: (b2, .var (.agg #[.int .i64 (n : Int), .slice p (n * n) c]), 24) :: M) (ULe.refl _) sbk ?_
 refine st_loop (fun z E U' M' => ∃ (k : Nat), k ≤ n * n ∧ (∀ a, a < k → -100 ≤ u a ∧ u a ≤ 100) ∧ U1 = U' ∧ E = [(35, .int .i64 (k : Int)), (34, .int .i64 ((n * n) : Int)), (33, .slice pu (n * n) cu), (7, .int .i64 (n : Int)), (1, .slice pu (n * n) cu), (4, .pointer (some ⟨b4, 0, none⟩)), (2, .pointer (some ⟨b2, 0, none⟩)), (5, .int .i64 0)] ∧ ULe U1 U' ∧ M' = (b4, .var (.agg #[.int .i64 0, .slice none 0 0]), 24) :: (b2, .var (.agg #[.int .i64 (n : Int), .slice p (n * n) c]), 24) :: M ∧ z = n * n - k) (n0 := n * n - 0) (E0 := [(35, .int .i64 ((0 : Nat) : Int)), (34, .int .i64 ((n * n) : Int)), (33, .slice pu (n * n) cu), (7, .int .i64 (n : Int)), (1, .slice pu (n * n) cu), (4, .pointer (some ⟨b4, 0, none⟩)), (2, .pointer (some ⟨b2, 0, none⟩)), (5, .int .i64 0)]) ⟨rfl, rfl, rfl, rfl, rfl, rfl, rfl, rfl, trivial⟩ ⟨0, by omega, (fun k h => absurd h (Nat.not_lt_zero k)), rfl, rfl, uc, rfl, rfl⟩ ?_
 rintro z E U2 M' ⟨k, hk, hall, rfl, rfl, hU2, rfl, rfl⟩
 try refine run_s ?_
 refine st_dec rfl (fun h3 => ?_) (fun h3 => ?_)
 ·have hin : k < n * n := by omega
  obtain ⟨v1, hv1⟩ := rwu.at hin
  obtain ⟨rfl, hz⟩ := elu _ _ hv1
  repeat (first|refine run_S ?_|refine w_box fun _=>?_|refine w_al fun _=>?_)
  refine sl_y (yl_index sym rfl rfl rfl rfl rfl rfl ((rwu.up uc sb).lt hv1) ((rwu.up uc sb).get _ _ hv1).1) rfl rfl rfl rfl ?_; refine sl_y (yl_loadR1 sym rfl rfl rfl rfl (rwu.up uc sb) hv1 rfl) rfl rfl rfl rfl ?_
  repeat (first|refine run_S ?_|refine w_box fun _=>?_|refine w_al fun _=>?_)
  refine sl_gdec rfl rfl (fun h1 => ?_) (fun h1 => ?_)
  ·repeat (first|refine run_S ?_|refine w_box fun _=>?_|refine w_al fun _=>?_)
   exact sk_ret [] sym rfl (.cons (.cell 0 rfl rfl rfl) (.cons (.tmp rfl) .nil)) uc sb (.inl rfl) (by
    rw [if_pos (fun h2 => by have := h2 k hin; omega)]
    exact ⟨fun _ => rfl, fun h2 => absurd h2 (by decide)⟩)
  repeat (first|refine run_S ?_|refine w_box fun _=>?_|refine w_al fun _=>?_)
  refine st_dec rfl (fun h2 => ?_) (fun h2 => ?_)
  ·repeat (first|refine run_S ?_|refine w_box fun _=>?_|refine w_al fun _=>?_)
   exact sk_ret [] sym rfl (.cons (.cell 0 rfl rfl rfl) (.cons (.tmp rfl) .nil)) uc sb (.inl rfl) (by
    rw [if_pos (fun h2 => by have := h2 k hin; omega)]
    exact ⟨fun _ => rfl, fun h2 => absurd h2 (by decide)⟩)
  repeat (first|refine run_S ?_|refine w_box fun _=>?_|refine w_al fun _=>?_)
  exact sk_again (E' := [(35, .int .i64 ((k : Int) + 1)), (34, .int .i64 ((n * n) : Int)), (33, .slice pu (n * n) cu), (7, .int .i64 (n : Int)), (1, .slice pu (n * n) cu), (4, .pointer (some ⟨b4, 0, none⟩)), (2, .pointer (some ⟨b2, 0, none⟩)), (5, .int .i64 0)]) (m := n * n - (k + 1)) ⟨rfl, rfl, rfl, rfl, rfl, rfl, rfl, rfl, trivial⟩ (by omega) ⟨k + 1, by omega, (fun a ha => by
   rcases Nat.lt_or_eq_of_le (Nat.le_of_lt_succ ha) with h5 | h5
   ·exact hall a h5
   ·rw [h5]; omega), rfl, rfl, uc, rfl, rfl⟩
 obtain rfl : n * n = k := by omega
 rw [if_neg (Classical.not_not.2 hall)]
 obtain ⟨dt, hdt⟩ : ∃ dt, dt = Lr.det n fun i j => u (i * n + j) := ⟨_, rfl⟩
 have s50 : Sz dt 3 := by
  rw [hdt]
  exact Nat.lt_of_le_of_lt (La.det_bd h8 fun i j hi hj => by have := hall _ (ij_lt hi hj); omega) (by decide)
 rw [← hdt]
 repeat (first|refine run_O ?_|refine w_box fun _=>?_|refine w_al fun _=>?_)
 refine st_seq_cut (fun E U' M' => smb dt = true ∧ (smv dt = 1 ∨ smv dt = -1) ∧ E = [(7, .int .i64 (n : Int)), (1, .slice pu (n * n) cu), (4, .pointer (some ⟨b4, 0, none⟩)), (2, .pointer (some ⟨b2, 0, none⟩)), (5, .int .i64 0)] ∧ ULe U1 U' ∧ M' = (b4, .var (.agg #[.int .i64 0, .slice none 0 0]), 24) :: (b2, .var (.agg #[.int .i64 (n : Int), .slice p (n * n) c]), 24) :: M) ?_ ?_
 ·repeat (first|refine run_S ?_|refine w_box fun _=>?_|refine w_al fun _=>?_)
  refine sl_call rfl rfl rfl rfl rfl rfl (fun _ => tdet_ct (rwu.up uc (List.nil_sublist _)) (elu.up KeptC.out uc) rfl (fun k hk => by have := hall k hk; omega) h8) ?_
  rintro v Uh50 D hU ⟨xh50, rfl, h50, rfl⟩
  repeat (first|refine run_S ?_|refine w_box fun _=>?_|refine w_al fun _=>?_)
  rw [← hdt] at h50
  refine sl_call rfl rfl rfl rfl rfl rfl (fun _ => Small_ct (h50.rep.up uc (List.nil_sublist _)) (h50.le s50 (by decide))) ?_
  rintro v28 U28 D28 hU28 ⟨rfl, rfl, rfl⟩
  rw [List.nil_append]
  clear hdt
  generalize smb dt = ok
  generalize smv dt = dv
  cases ok
  ·repeat (first|refine run_S ?_|refine w_box fun _=>?_|refine w_al fun _=>?_)
   exact sk_ret [] sym rfl (.cons (.cell 0 rfl rfl rfl) (.cons (.tmp rfl) .nil)) uc sb (.inl rfl) (by
    rw [if_pos (.inl rfl)]
    exact ⟨fun _ => rfl, fun h2 => absurd h2 (by decide)⟩)
  repeat (first|refine run_S ?_|refine w_box fun _=>?_|refine w_al fun _=>?_)
  refine sl_gdec rfl rfl (fun h5 => ?_) (fun h5 => ?_)
  ·repeat (first|refine run_S ?_|refine w_box fun _=>?_|refine w_al fun _=>?_)
   refine st_ne rfl (fun h6 => ?_) (fun h6 => ?_)
   ·repeat (first|refine run_S ?_|refine w_box fun _=>?_|refine w_al fun _=>?_)
    exact sk_ret [] sym rfl (.cons (.cell 0 rfl rfl rfl) (.cons (.tmp rfl) .nil)) uc sb (.inl rfl) (by
     rw [if_pos (.inr ⟨h5, h6⟩)]
     exact ⟨fun _ => rfl, fun h2 => absurd h2 (by decide)⟩)
   ·repeat (first|refine run_S ?_|refine w_box fun _=>?_|refine w_al fun _=>?_)
    exact sk_cut (E' := [(7, .int .i64 (n : Int)), (1, .slice pu (n * n) cu), (4, .pointer (some ⟨b4, 0, none⟩)), (2, .pointer (some ⟨b2, 0, none⟩)), (5, .int .i64 0)]) ⟨rfl, rfl, rfl, rfl, rfl, trivial⟩ ⟨rfl, .inr h6, rfl, uc, rfl⟩
  ·repeat (first|refine run_S ?_|refine w_box fun _=>?_|refine w_al fun _=>?_)
   exact sk_cut (E' := [(7, .int .i64 (n : Int)), (1, .slice pu (n * n) cu), (4, .pointer (some ⟨b4, 0, none⟩)), (2, .pointer (some ⟨b2, 0, none⟩)), (5, .int .i64 0)]) ⟨rfl, rfl, rfl, rfl, rfl, trivial⟩ ⟨rfl, .inl (Classical.not_not.1 h5), rfl, uc, rfl⟩
 rintro E U3 M' ⟨hsm, hsv, rfl, hU3, rfl⟩
 rw [if_neg (fun h5 => by
  rcases h5 with h5 | h5
  ·rw [hsm] at h5; cases h5
  ·rcases hsv with h6 | h6
   ·exact h5.1 h6
   ·exact h5.2 h6)]
 repeat (first|refine run_S ?_|refine w_box fun _=>?_|refine w_al fun _=>?_)
 rename_i b12
 have hch : ∀ i j, i < n → j < n → chf n f u (i * n + j) = cou n f u i j n := fun i j hi hj => by
  unfold chf
  rw [(dm hj).1, (dm hj).2]
 try refine st_anti (M' := (b12, .var (.agg #[.int .i64 (n : Int), .slice none 0 0]), 24) :: (b4, .var (.agg #[.int .i64 0, .slice none 0 0]), 24) :: (b2, .var (.agg #[.int .i64 (n : Int), .slice p (n * n) c]), 24) :: (([]) ++ M)) (ULe.refl _) sbk ?_
 refine st_loop (fun z E U' M' => ∃ (i : Nat) (w : Nat) (Q : Option Addr) (C : Nat) (xs : List Value) (D : MH), i ≤ n ∧ w = i * n ∧ RowO TInt 1 D Q w C xs ∧ El Vz U' xs (chf n f u) ∧ E = [(68, .int .i64 (i : Int)), (67, .int .i64 (n : Int)), (12, .pointer (some ⟨b12, 0, none⟩)), (7, .int .i64 (n : Int)), (1, .slice pu (n * n) cu), (4, .pointer (some ⟨b4, 0, none⟩)), (2, .pointer (some ⟨b2, 0, none⟩)), (5, .int .i64 0)] ∧ ULe U3 U' ∧ M' = (b12, .var (.agg #[.int .i64 (n : Int), .slice Q w C]), 24) :: (b4, .var (.agg #[.int .i64 0, .slice none 0 0]), 24) :: (b2, .var (.agg #[.int .i64 (n : Int), .slice p (n * n) c]), 24) :: (D ++ M) ∧ z = n - i) (n0 := n - 0) (E0 := [(68, .int .i64 ((0 : Nat) : Int)), (67, .int .i64 (n : Int)), (12, .pointer (some ⟨b12, 0, none⟩)), (7, .int .i64 (n : Int)), (1, .slice pu (n * n) cu), (4, .pointer (some ⟨b4, 0, none⟩)), (2, .pointer (some ⟨b2, 0, none⟩)), (5, .int .i64 0)]) ⟨rfl, rfl, rfl, rfl, rfl, rfl, rfl, rfl, trivial⟩ ⟨0, 0, none, 0, [], [], by omega, by omega, RowO.nil, El.nil, rfl, uc, rfl, rfl⟩ ?_
 rintro z E U4 M' ⟨i, w, Q, C, xs, D, hi, hw, hrow, hel, rfl, hU4, rfl, rfl⟩
 try refine run_s ?_
 refine st_dec rfl (fun h5 => ?_) (fun h5 => ?_)
 ·have hin : i < n := by omega
  try refine run_s ?_
  try refine st_anti (M' := (b12, .var (.agg #[.int .i64 (n : Int), .slice Q w C]), 24) :: (b4, .var (.agg #[.int .i64 0, .slice none 0 0]), 24) :: (b2, .var (.agg #[.int .i64 (n : Int), .slice p (n * n) c]), 24) :: (D ++ M)) (ULe.refl _) sbk ?_
  refine st_loop (fun z E U' M' => ∃ (j : Nat) (w : Nat) (Q : Option Addr) (C : Nat) (xs : List Value) (D : MH), j ≤ n ∧ w = i * n + j ∧ RowO TInt 1 D Q w C xs ∧ El Vz U' xs (chf n f u) ∧ E = [(72, .int .i64 (j : Int)), (71, .int .i64 (n : Int)), (13, .int .i64 (i : Int)), (68, .int .i64 (i : Int)), (67, .int .i64 (n : Int)), (12, .pointer (some ⟨b12, 0, none⟩)), (7, .int .i64 (n : Int)), (1, .slice pu (n * n) cu), (4, .pointer (some ⟨b4, 0, none⟩)), (2, .pointer (some ⟨b2, 0, none⟩)), (5, .int .i64 0)] ∧ ULe U4 U' ∧ M' = (b12, .var (.agg #[.int .i64 (n : Int), .slice Q w C]), 24) :: (b4, .var (.agg #[.int .i64 0, .slice none 0 0]), 24) :: (b2, .var (.agg #[.int .i64 (n : Int), .slice p (n * n) c]), 24) :: (D ++ M) ∧ z = n - j) (n0 := n - 0) (E0 := [(72, .int .i64 ((0 : Nat) : Int)), (71, .int .i64 (n : Int)), (13, .int .i64 (i : Int)), (68, .int .i64 (i : Int)), (67, .int .i64 (n : Int)), (12, .pointer (some ⟨b12, 0, none⟩)), (7, .int .i64 (n : Int)), (1, .slice pu (n * n) cu), (4, .pointer (some ⟨b4, 0, none⟩)), (2, .pointer (some ⟨b2, 0, none⟩)), (5, .int .i64 0)]) ⟨rfl, rfl, rfl, rfl, rfl, rfl, rfl, rfl, rfl, rfl, rfl, trivial⟩ ⟨0, w, Q, C, xs, D, by omega, by omega, hrow, hel, rfl, uc, rfl, rfl⟩ ?_
  clear hrow hel hw
  rintro z E U5 M' ⟨j, w, Q, C, xs, D, hj, hw, hrow, hel, rfl, hU5, rfl, rfl⟩
  try refine run_s ?_
  refine st_dec rfl (fun h6 => ?_) (fun h6 => ?_)
  ·have hjn : j < n := by omega
   have hij := ij_lt hin hjn
   try refine run_s ?_
   try refine st_anti (M' := (b12, .var (.agg #[.int .i64 (n : Int), .slice Q w C]), 24) :: (b4, .var (.agg #[.int .i64 0, .slice none 0 0]), 24) :: (b2, .var (.agg #[.int .i64 (n : Int), .slice p (n * n) c]), 24) :: (D ++ M)) (ULe.refl _) sbk ?_
   refine st_loop (fun z E U' M' => ∃ (a : Nat), a ≤ n ∧ U5 = U' ∧ E = [(76, .int .i64 (a : Int)), (75, .int .i64 (n : Int)), (15, .int .i64 (cou n f u i j a + cin n f u i j a 0)), (14, .int .i64 (j : Int)), (72, .int .i64 (j : Int)), (71, .int .i64 (n : Int)), (13, .int .i64 (i : Int)), (68, .int .i64 (i : Int)), (67, .int .i64 (n : Int)), (12, .pointer (some ⟨b12, 0, none⟩)), (7, .int .i64 (n : Int)), (1, .slice pu (n * n) cu), (4, .pointer (some ⟨b4, 0, none⟩)), (2, .pointer (some ⟨b2, 0, none⟩)), (5, .int .i64 0)] ∧ ULe U5 U' ∧ M' = (b12, .var (.agg #[.int .i64 (n : Int), .slice Q w C]), 24) :: (b4, .var (.agg #[.int .i64 0, .slice none 0 0]), 24) :: (b2, .var (.agg #[.int .i64 (n : Int), .slice p (n * n) c]), 24) :: (D ++ M) ∧ z = n - a) (n0 := n - 0) (E0 := [(76, .int .i64 ((0 : Nat) : Int)), (75, .int .i64 (n : Int)), (15, .int .i64 (cou n f u i j 0 + cin n f u i j 0 0)), (14, .int .i64 (j : Int)), (72, .int .i64 (j : Int)), (71, .int .i64 (n : Int)), (13, .int .i64 (i : Int)), (68, .int .i64 (i : Int)), (67, .int .i64 (n : Int)), (12, .pointer (some ⟨b12, 0, none⟩)), (7, .int .i64 (n : Int)), (1, .slice pu (n * n) cu), (4, .pointer (some ⟨b4, 0, none⟩)), (2, .pointer (some ⟨b2, 0, none⟩)), (5, .int .i64 0)]) ⟨rfl, rfl, rfl, rfl, rfl, rfl, rfl, rfl, rfl, rfl, rfl, rfl, rfl, rfl, rfl, trivial⟩ ⟨0, by omega, rfl, rfl, uc, rfl, rfl⟩ ?_
   rintro z E U6 M' ⟨a, ha, rfl, rfl, hU6, rfl, rfl⟩
   try refine run_s ?_
   refine st_dec rfl (fun h7 => ?_) (fun h7 => ?_)
   ·have han : a < n := by omega
    try refine run_s ?_
    try refine st_anti (M' := (b12, .var (.agg #[.int .i64 (n : Int), .slice Q w C]), 24) :: (b4, .var (.agg #[.int .i64 0, .slice none 0 0]), 24) :: (b2, .var (.agg #[.int .i64 (n : Int), .slice p (n * n) c]), 24) :: (D ++ M)) (ULe.refl _) sbk ?_
    refine st_loop (fun z E U' M' => ∃ (k : Nat), k ≤ n ∧ U5 = U' ∧ E = [(80, .int .i64 (k : Int)), (79, .int .i64 (n : Int)), (16, .int .i64 (a : Int)), (76, .int .i64 (a : Int)), (75, .int .i64 (n : Int)), (15, .int .i64 (cou n f u i j a + cin n f u i j a k)), (14, .int .i64 (j : Int)), (72, .int .i64 (j : Int)), (71, .int .i64 (n : Int)), (13, .int .i64 (i : Int)), (68, .int .i64 (i : Int)), (67, .int .i64 (n : Int)), (12, .pointer (some ⟨b12, 0, none⟩)), (7, .int .i64 (n : Int)), (1, .slice pu (n * n) cu), (4, .pointer (some ⟨b4, 0, none⟩)), (2, .pointer (some ⟨b2, 0, none⟩)), (5, .int .i64 0)] ∧ ULe U5 U' ∧ M' = (b12, .var (.agg #[.int .i64 (n : Int), .slice Q w C]), 24) :: (b4, .var (.agg #[.int .i64 0, .slice none 0 0]), 24) :: (b2, .var (.agg #[.int .i64 (n : Int), .slice p (n * n) c]), 24) :: (D ++ M) ∧ z = n - k) (n0 := n - 0) (E0 := [(80, .int .i64 ((0 : Nat) : Int)), (79, .int .i64 (n : Int)), (16, .int .i64 (a : Int)), (76, .int .i64 (a : Int)), (75, .int .i64 (n : Int)), (15, .int .i64 (cou n f u i j a + cin n f u i j a 0)), (14, .int .i64 (j : Int)), (72, .int .i64 (j : Int)), (71, .int .i64 (n : Int)), (13, .int .i64 (i : Int)), (68, .int .i64 (i : Int)), (67, .int .i64 (n : Int)), (12, .pointer (some ⟨b12, 0, none⟩)), (7, .int .i64 (n : Int)), (1, .slice pu (n * n) cu), (4, .pointer (some ⟨b4, 0, none⟩)), (2, .pointer (some ⟨b2, 0, none⟩)), (5, .int .i64 0)]) ⟨rfl, rfl, rfl, rfl, rfl, rfl, rfl, rfl, rfl, rfl, rfl, rfl, rfl, rfl, rfl, rfl, rfl, rfl, trivial⟩ ⟨0, by omega, rfl, rfl, uc, rfl, rfl⟩ ?_
    rintro z E U7 M' ⟨k, hk, rfl, rfl, hU7, rfl, rfl⟩
    try refine run_s ?_
    refine st_dec rfl (fun h8 => ?_) (fun h8 => ?_)
    ·have hkn : k < n := by omega
     have l1 := ij_lt hin han
     have l2 := ij_lt han hkn
     have l3 := ij_lt hjn hkn
     obtain ⟨u1, hu1⟩ := rwu.at l1
     obtain ⟨hv1, hz1⟩ := elu _ _ hu1
     subst hv1
     obtain ⟨u2, hu2⟩ := rw1.at l2
     obtain ⟨hv2, hz2⟩ := el _ _ hu2
     subst hv2
     obtain ⟨u3, hu3⟩ := rwu.at l3
     obtain ⟨hv3, hz3⟩ := elu _ _ hu3
     subst hv3
     obtain ⟨m1, m2⟩ := ctm_bd hb hall hin hjn han hkn
     have q1 := cou_bd h8' hb hall hin hjn a ha
     have q2 := cin_bd hb hall hin hjn han k hk
     have e1 : cou n f u i j a + cin n f u i j a (k + 1) = cou n f u i j a + cin n f u i j a k + u (i * n + a) * f (a * n + k) * u (j * n + k) := (Int.add_assoc _ _ _).symm
     have e2 : (i : Int) * (n : Int) = ((i * n : Nat) : Int) := (Int.natCast_mul i n).symm
     have e3 : (a : Int) * (n : Int) = ((a * n : Nat) : Int) := (Int.natCast_mul a n).symm
     have e4 : (j : Int) * (n : Int) = ((j * n : Nat) : Int) := (Int.natCast_mul j n).symm
     try refine run_s ?_
     refine st_drawM [29] [0, 1, 2, 3, 4, 5, 6, 7, 8, 9, 10, 11, 12, 13, 14, 15, 16, 17, 18, 19, 20, 21, 22, 23, 24, 25, 26, 27, 28, 29] sym (by kernel_rfl) ?_
     try refine run_s ?_
     refine sl_y (yl_index sym rfl rfl rfl rfl rfl ( (show _ = ((i * n + a : Nat) : Int) by omega)) ((rwu.up uc sb).lt hu1) ((rwu.up uc sb).get _ _ hu1).1) rfl rfl rfl rfl ?_; refine sl_y (yl_loadR1 sym rfl rfl rfl rfl (rwu.up uc sb) hu1 rfl) rfl rfl rfl rfl ?_
     try refine run_s ?_
     refine sl_y (yl_index sym rfl rfl rfl rfl rfl ( (show _ = ((a * n + k : Nat) : Int) by omega)) ((rw1.up uc sb).lt hu2) ((rw1.up uc sb).get _ _ hu2).1) rfl rfl rfl rfl ?_; refine sl_y (yl_loadR1 sym rfl rfl rfl rfl (rw1.up uc sb) hu2 rfl) rfl rfl rfl rfl ?_
     try refine run_s ?_
     refine sl_y (yl_index sym rfl rfl rfl rfl rfl ( (show _ = ((j * n + k : Nat) : Int) by omega)) ((rwu.up uc sb).lt hu3) ((rwu.up uc sb).get _ _ hu3).1) rfl rfl rfl rfl ?_; refine sl_y (yl_loadR1 sym rfl rfl rfl rfl (rwu.up uc sb) hu3 rfl) rfl rfl rfl rfl ?_
     try refine run_s ?_
     rw [← e1]
     exact sk_again (E' := [(80, .int .i64 ((k : Int) + 1)), (79, .int .i64 (n : Int)), (16, .int .i64 (a : Int)), (76, .int .i64 (a : Int)), (75, .int .i64 (n : Int)), (15, .int .i64 (cou n f u i j a + cin n f u i j a (k + 1))), (14, .int .i64 (j : Int)), (72, .int .i64 (j : Int)), (71, .int .i64 (n : Int)), (13, .int .i64 (i : Int)), (68, .int .i64 (i : Int)), (67, .int .i64 (n : Int)), (12, .pointer (some ⟨b12, 0, none⟩)), (7, .int .i64 (n : Int)), (1, .slice pu (n * n) cu), (4, .pointer (some ⟨b4, 0, none⟩)), (2, .pointer (some ⟨b2, 0, none⟩)), (5, .int .i64 0)]) (m := n - (k + 1)) ⟨rfl, rfl, rfl, rfl, rfl, rfl, rfl, rfl, rfl, rfl, rfl, rfl, rfl, rfl, rfl, rfl, rfl, rfl, trivial⟩ (by omega) ⟨k + 1, by omega, rfl, rfl, uc, rfl, rfl⟩
    ·obtain rfl : n = k := by omega
     have e1 : cou n f u i j (a + 1) + cin n f u i j (a + 1) 0 = cou n f u i j a + cin n f u i j a n := Int.add_zero _
     rw [← e1]
     try refine run_s ?_
     exact sk_again (E' := [(76, .int .i64 ((a : Int) + 1)), (75, .int .i64 (n : Int)), (15, .int .i64 (cou n f u i j (a + 1) + cin n f u i j (a + 1) 0)), (14, .int .i64 (j : Int)), (72, .int .i64 (j : Int)), (71, .int .i64 (n : Int)), (13, .int .i64 (i : Int)), (68, .int .i64 (i : Int)), (67, .int .i64 (n : Int)), (12, .pointer (some ⟨b12, 0, none⟩)), (7, .int .i64 (n : Int)), (1, .slice pu (n * n) cu), (4, .pointer (some ⟨b4, 0, none⟩)), (2, .pointer (some ⟨b2, 0, none⟩)), (5, .int .i64 0)]) (m := n - (a + 1)) ⟨rfl, rfl, rfl, rfl, rfl, rfl, rfl, rfl, rfl, rfl, rfl, rfl, rfl, rfl, rfl, trivial⟩ (by omega) ⟨a + 1, by omega, rfl, rfl, uc, rfl, rfl⟩
   ·obtain rfl : n = a := by omega
    have e1 : cou n f u i j n + cin n f u i j n 0 = chf n f u (i * n + j) := by rw [hch i j hin hjn]; exact Int.add_zero _
    have q1 := cou_bd h8' hb hall hin hjn n (Nat.le_refl n)
    have q2 := hch i j hin hjn
    rw [e1]
    try refine run_s ?_
    refine w_push hrow (X := (b12, .var (.agg #[.int .i64 (n : Int), .slice Q w C]), 24) :: (b4, .var (.agg #[.int .i64 0, .slice none 0 0]), 24) :: (b2, .var (.agg #[.int .i64 (n : Int), .slice p (n * n) c]), 24) :: M) pgs (fun b P2 C2 D2 hr2 => ?_)
    refine sl_perm (M' := (b12, .var (.agg #[.int .i64 (n : Int), .slice Q w C]), 24) :: (b4, .var (.agg #[.int .i64 0, .slice none 0 0]), 24) :: (b2, .var (.agg #[.int .i64 (n : Int), .slice p (n * n) c]), 24) :: (D2 ++ M)) ?_ pgs
    try refine run_s ?_
    refine sl_storeF 0 sym rfl rfl rfl rfl rfl rfl rfl rfl rfl rfl rfl ?_
    try refine run_s ?_
    exact sk_again (E' := [(72, .int .i64 ((j : Int) + 1)), (71, .int .i64 (n : Int)), (13, .int .i64 (i : Int)), (68, .int .i64 (i : Int)), (67, .int .i64 (n : Int)), (12, .pointer (some ⟨b12, 0, none⟩)), (7, .int .i64 (n : Int)), (1, .slice pu (n * n) cu), (4, .pointer (some ⟨b4, 0, none⟩)), (2, .pointer (some ⟨b2, 0, none⟩)), (5, .int .i64 0)]) (m := n - (j + 1)) ⟨rfl, rfl, rfl, rfl, rfl, rfl, rfl, rfl, rfl, rfl, rfl, trivial⟩ (by omega) ⟨j + 1, w + 1, P2, C2, _, D2, by omega, by omega, hr2, snoc_ok hrow.len.1 (hel.up KeptC.out uc) (by rw [hw]; exact ⟨rfl, by omega⟩), rfl, uc, rfl, rfl⟩
  ·obtain rfl : n = j := by omega
   try refine run_s ?_
   exact sk_again (E' := [(68, .int .i64 ((i : Int) + 1)), (67, .int .i64 (n : Int)), (12, .pointer (some ⟨b12, 0, none⟩)), (7, .int .i64 (n : Int)), (1, .slice pu (n * n) cu), (4, .pointer (some ⟨b4, 0, none⟩)), (2, .pointer (some ⟨b2, 0, none⟩)), (5, .int .i64 0)]) (m := n - (i + 1)) ⟨rfl, rfl, rfl, rfl, rfl, rfl, rfl, rfl, trivial⟩ (by omega) ⟨i + 1, w, Q, C, xs, D, by omega, by rw [Nat.add_mul]; omega, hrow, hel, rfl, uc, rfl, rfl⟩
 obtain rfl : n = i := by omega
 subst hw
 repeat (first|refine run_S ?_|refine w_box fun _=>?_|refine w_al fun _=>?_)
 refine sl_call rfl rfl rfl rfl rfl rfl (fun _ => tinside_ct (hrow.at sb) hel (by omega)) ?_
 rintro v3 U8 D3 hU3 ⟨bb, rfl, hbb, rfl, rfl⟩
 rw [List.nil_append]
 cases bb
 ·have hno : ¬ Ins (n * n) (chf n f u) := fun h2 => by have := hbb.2 h2; cases this
  repeat (first|refine run_S ?_|refine w_box fun _=>?_|refine w_al fun _=>?_)
  exact sk_ret [] sym rfl (.cons (.cell 1 rfl rfl rfl) (.cons (.tmp rfl) .nil)) uc sb (.inl rfl) (by
   rw [if_neg hno]
   exact ⟨fun _ => rfl, fun h2 => absurd h2 (by decide)⟩)
 ·have hyes : Ins (n * n) (chf n f u) := hbb.1 rfl
  rw [if_pos hyes]
  repeat (first|refine run_S ?_|refine w_box fun _=>?_|refine w_al fun _=>?_)
  exact sk_ret D sym rfl (.cons (.cell 1 rfl rfl rfl) (.cons (.tmp rfl) .nil)) uc sb (.inl rfl) ⟨fun h2 => absurd rfl h2, fun _ => ⟨_, rfl, _, _, _, rfl, hrow, hel⟩⟩
end Go.Proofs.YtjfkodlddladhaaGreat

/- Walks of layer 36's reference: Change. -/
namespace Go.Proofs.YtjfkodlddladhaaGreat
open Go.Hp
open Classical
variable {G : World} {U U' : UH} {M : MH}
set_option maxHeartbeats 8000000 in
theorem r36Change_ct {r : Int} {N Nu c cu : Nat} {p pu : Option Addr} {vs us : List Value} {f u : Nat → Int} (rw1 : RowAt U [] 1 p N vs) (el : El Vz U vs f) (hN : N ≤ 9223372036854775807) (hc : N ≤ c) (rwu : RowAt U [] 1 pu Nu us) (elu : El Vz U us u) (hNu : Nu ≤ 9223372036854775807) (hcu : Nu ≤ cu) :
  Ct Tryz.prog 53 [.agg #[.int .i64 r, .slice p N c], .slice pu Nu cu] G U M fun v U' D => GrO (echg r N f Nu u) r.toNat (chf r.toNat f u) U' v ∧ D = [] := by
 refine gr_settle ?_
 refine ct_of_st Tryz.func53 rfl rfl rfl rfl ?_
 repeat (first|refine run_S ?_|refine w_box fun _=>?_|refine w_al fun _=>?_)
 rename_i b2 b4
 refine sl_call rfl rfl rfl rfl rfl rfl (fun _ => r36Check_ct (rw1.up uc (List.nil_sublist _)) (el.up KeptC.out uc) hc hN) ?_
 rintro v1 U1 D hU1 ⟨rfl, -, rfl⟩
 rw [List.nil_append]
 repeat (first|refine run_S ?_|refine w_box fun _=>?_|refine w_al fun _=>?_)
 refine st_ne rfl (fun h => ?_) (fun h => ?_)
 ·repeat (first|refine run_S ?_|refine w_box fun _=>?_|refine w_al fun _=>?_)
  exact sk_ret [] sym rfl (.cons (.cell 0 rfl rfl rfl) (.cons (.tmp rfl) .nil)) uc sb (.inl rfl) (by
   unfold echg
   rw [if_pos h]
   exact ⟨fun _ => rfl, fun h2 => absurd h2 h⟩)
 unfold echg
 rw [if_neg (Classical.not_not.2 h)]
 obtain ⟨n, rfl, h1, h8, rfl, hb, he, hp⟩ := chk_zero h
 have h8' := h8
 have hnn : n * n ≤ 8 * 8 := Nat.mul_le_mul h8 h8
 have hnn2 : (n : Int) * (n : Int) = ((n * n : Nat) : Int) := (Int.natCast_mul n n).symm
 rw [h]
 rw [show ((n : Nat) : Int).toNat = n from rfl]
 repeat (first|refine run_S ?_|refine w_box fun _=>?_|refine w_al fun _=>?_)
 refine st_ne rfl (fun h2 => ?_) (fun h2 => ?_)
 ·repeat (first|refine run_S ?_|refine w_box fun _=>?_|refine w_al fun _=>?_)
  exact sk_ret [] sym rfl (.cons (.cell 0 rfl rfl rfl) (.cons (.tmp rfl) .nil)) uc sb (.inl rfl) (by
   rw [if_pos (by omega)]
   exact ⟨fun _ => rfl, fun h2 => absurd h2 (by decide)⟩)
 obtain rfl : Nu = n * n := by omega
 rw [if_neg (by omega)]
 repeat (first|refine run_S ?_|refine w_box fun _=>?_|refine w_al fun _=>?_)
 try refine st_anti (M' := (b4, .var (.agg #[.int .i64 0, .slice none 0 0]), 24) :: (b2, .var (.agg #[.int .i64 (n : Int), .slice p (n * n) c]), 24) :: M) (ULe.refl _) sbk ?_
 refine st_loop (fun z E U' M' => ∃ (k : Nat), k ≤ n * n ∧ (∀ a, a < k → -100 ≤ u a ∧ u a ≤ 100) ∧ U1 = U' ∧ E = [(8, .int .i64 (k : Int)), (7, .int .i64 (n : Int)), (1, .slice pu (n * n) cu), (4, .pointer (some ⟨b4, 0, none⟩)), (2, .pointer (some ⟨b2, 0, none⟩)), (5, .int .i64 0)] ∧ ULe U1 U' ∧ M' = (b4, .var (.agg #[.int .i64 0, .slice none 0 0]), 24) :: (b2, .var (.agg #[.int .i64 (n : Int), .slice p (n * n) c]), 24) :: M ∧ z = n * n - k) (n0 := n * n - 0) (E0 := [(8, .int .i64 ((0 : Nat) : Int)), (7, .int .i64 (n : Int)), (1, .slice pu (n * n) cu), (4, .pointer (some ⟨b4, 0, none⟩)), (2, .pointer (some ⟨b2, 0, none⟩)), (5, .int .i64 0)]) ⟨rfl, rfl, rfl, rfl, rfl, rfl, trivial⟩ ⟨0, by omega, (fun k h => absurd h (Nat.not_lt_zero k)), rfl, rfl, uc, rfl, rfl⟩ ?_
 rintro z E U2 M' ⟨k, hk, hall, rfl, rfl, hU2, rfl, rfl⟩
 try refine run_s ?_
 refine st_dec rfl (fun h3 => ?_) (fun h3 => ?_)
 ·have hin : k < n * n := by omega
  obtain ⟨v1, hv1⟩ := rwu.at hin
  obtain ⟨rfl, hz⟩ := elu _ _ hv1
  repeat (first|refine run_S ?_|refine w_box fun _=>?_|refine w_al fun _=>?_)
  refine sl_y (yl_index sym rfl rfl rfl rfl rfl rfl ((rwu.up uc sb).lt hv1) ((rwu.up uc sb).get _ _ hv1).1) rfl rfl rfl rfl ?_; refine sl_y (yl_loadR1 sym rfl rfl rfl rfl (rwu.up uc sb) hv1 rfl) rfl rfl rfl rfl ?_
  repeat (first|refine run_S ?_|refine w_box fun _=>?_|refine w_al fun _=>?_)
  refine sl_gdec rfl rfl (fun h1 => ?_) (fun h1 => ?_)
  ·repeat (first|refine run_S ?_|refine w_box fun _=>?_|refine w_al fun _=>?_)
   exact sk_ret [] sym rfl (.cons (.cell 0 rfl rfl rfl) (.cons (.tmp rfl) .nil)) uc sb (.inl rfl) (by
    rw [if_pos (fun h2 => by have := h2 k hin; omega)]
    exact ⟨fun _ => rfl, fun h2 => absurd h2 (by decide)⟩)
  repeat (first|refine run_S ?_|refine w_box fun _=>?_|refine w_al fun _=>?_)
  refine sl_y (yl_index sym rfl rfl rfl rfl rfl rfl ((rwu.up uc sb).lt hv1) ((rwu.up uc sb).get _ _ hv1).1) rfl rfl rfl rfl ?_; refine sl_y (yl_loadR1 sym rfl rfl rfl rfl (rwu.up uc sb) hv1 rfl) rfl rfl rfl rfl ?_
  repeat (first|refine run_S ?_|refine w_box fun _=>?_|refine w_al fun _=>?_)
  refine st_dec rfl (fun h2 => ?_) (fun h2 => ?_)
  ·repeat (first|refine run_S ?_|refine w_box fun _=>?_|refine w_al fun _=>?_)
   exact sk_ret [] sym rfl (.cons (.cell 0 rfl rfl rfl) (.cons (.tmp rfl) .nil)) uc sb (.inl rfl) (by
    rw [if_pos (fun h2 => by have := h2 k hin; omega)]
    exact ⟨fun _ => rfl, fun h2 => absurd h2 (by decide)⟩)
  repeat (first|refine run_S ?_|refine w_box fun _=>?_|refine w_al fun _=>?_)
  exact sk_again (E' := [(8, .int .i64 ((k : Int) + 1)), (7, .int .i64 (n : Int)), (1, .slice pu (n * n) cu), (4, .pointer (some ⟨b4, 0, none⟩)), (2, .pointer (some ⟨b2, 0, none⟩)), (5, .int .i64 0)]) (m := n * n - (k + 1)) ⟨rfl, rfl, rfl, rfl, rfl, rfl, trivial⟩ (by omega) ⟨k + 1, by omega, (fun a ha => by
   rcases Nat.lt_or_eq_of_le (Nat.le_of_lt_succ ha) with h5 | h5
   ·exact hall a h5
   ·rw [h5]; omega), rfl, rfl, uc, rfl, rfl⟩
 obtain rfl : n * n = k := by omega
 rw [if_neg (Classical.not_not.2 hall)]
 obtain ⟨dt, hdt⟩ : ∃ dt, dt = Lr.det n fun i j => u (i * n + j) := ⟨_, rfl⟩
 have s50 : Sz dt 3 := by
  rw [hdt]
  exact Nat.lt_of_le_of_lt (La.det_bd h8 fun i j hi hj => by have := hall _ (ij_lt hi hj); omega) (by decide)
 rw [← hdt]
 repeat (first|refine run_S ?_|refine w_box fun _=>?_|refine w_al fun _=>?_)
 refine sl_call rfl rfl rfl rfl rfl rfl (fun _ => r36rows_ct (n := n) (rwu.up uc (List.nil_sublist _)) (elu.up KeptC.out uc) rfl h8 (Nat.le_refl n) hcu) ?_
 rintro v27 U27 D27 hU27 ⟨hrows, rfl⟩
 rw [List.nil_append]
 obtain ⟨prw, crw, xrw, rfl, -⟩ := id hrows
 repeat (first|refine run_S ?_|refine w_box fun _=>?_|refine w_al fun _=>?_)
 refine sl_call rfl rfl rfl rfl rfl rfl (fun _ => r36det_ct (hrows.up KeptC.out uc (List.Sublist.refl _)) (fun i j hi hj => by have := hall _ (ij_lt hi hj); unfold Sz; omega) h8) ?_
 rintro v Uh50 D hU ⟨xh50, rfl, h50, rfl⟩
 repeat (first|refine run_S ?_|refine w_box fun _=>?_|refine w_al fun _=>?_)
 rw [← hdt] at h50
 refine sl_call rfl rfl rfl rfl rfl rfl (fun _ => rSmall_ct (h50.rep.up uc (List.nil_sublist _)) (h50.le s50 (by decide))) ?_
 rintro v28 U28 D28 hU28 ⟨rfl, rfl, rfl⟩
 rw [List.nil_append]
 repeat (first|refine run_O ?_|refine w_box fun _=>?_|refine w_al fun _=>?_)
 refine st_seq_cut (fun E U' M' => smb dt = true ∧ (smv dt = 1 ∨ smv dt = -1) ∧ E = [(7, .int .i64 (n : Int)), (1, .slice pu (n * n) cu), (4, .pointer (some ⟨b4, 0, none⟩)), (2, .pointer (some ⟨b2, 0, none⟩)), (5, .int .i64 0)] ∧ ULe U1 U' ∧ M' = (b4, .var (.agg #[.int .i64 0, .slice none 0 0]), 24) :: (b2, .var (.agg #[.int .i64 (n : Int), .slice p (n * n) c]), 24) :: M) ?_ ?_
 ·clear hdt
  generalize smb dt = ok
  generalize smv dt = dv
  cases ok
  ·repeat (first|refine run_S ?_|refine w_box fun _=>?_|refine w_al fun _=>?_)
   exact sk_ret [] sym rfl (.cons (.cell 0 rfl rfl rfl) (.cons (.tmp rfl) .nil)) uc sb (.inl rfl) (by
    rw [if_pos (.inl rfl)]
    exact ⟨fun _ => rfl, fun h2 => absurd h2 (by decide)⟩)
  repeat (first|refine run_S ?_|refine w_box fun _=>?_|refine w_al fun _=>?_)
  refine sl_gdec rfl rfl (fun h5 => ?_) (fun h5 => ?_)
  ·repeat (first|refine run_S ?_|refine w_box fun _=>?_|refine w_al fun _=>?_)
   refine st_ne rfl (fun h6 => ?_) (fun h6 => ?_)
   ·repeat (first|refine run_S ?_|refine w_box fun _=>?_|refine w_al fun _=>?_)
    exact sk_ret [] sym rfl (.cons (.cell 0 rfl rfl rfl) (.cons (.tmp rfl) .nil)) uc sb (.inl rfl) (by
     rw [if_pos (.inr ⟨h5, h6⟩)]
     exact ⟨fun _ => rfl, fun h2 => absurd h2 (by decide)⟩)
   ·repeat (first|refine run_S ?_|refine w_box fun _=>?_|refine w_al fun _=>?_)
    exact sk_cut (E' := [(7, .int .i64 (n : Int)), (1, .slice pu (n * n) cu), (4, .pointer (some ⟨b4, 0, none⟩)), (2, .pointer (some ⟨b2, 0, none⟩)), (5, .int .i64 0)]) ⟨rfl, rfl, rfl, rfl, rfl, trivial⟩ ⟨rfl, .inr h6, rfl, uc, rfl⟩
  ·repeat (first|refine run_S ?_|refine w_box fun _=>?_|refine w_al fun _=>?_)
   exact sk_cut (E' := [(7, .int .i64 (n : Int)), (1, .slice pu (n * n) cu), (4, .pointer (some ⟨b4, 0, none⟩)), (2, .pointer (some ⟨b2, 0, none⟩)), (5, .int .i64 0)]) ⟨rfl, rfl, rfl, rfl, rfl, trivial⟩ ⟨rfl, .inl (Classical.not_not.1 h5), rfl, uc, rfl⟩
 rintro E U3 M' ⟨hsm, hsv, rfl, hU3, rfl⟩
 rw [if_neg (fun h5 => by
  rcases h5 with h5 | h5
  ·rw [hsm] at h5; cases h5
  ·rcases hsv with h6 | h6
   ·exact h5.1 h6
   ·exact h5.2 h6)]
 repeat (first|refine run_S ?_|refine w_box fun _=>?_|refine w_al fun _=>?_)
 rename_i b11
 have hch : ∀ i j, i < n → j < n → chf n f u (i * n + j) = cou n f u i j n := fun i j hi hj => by
  unfold chf
  rw [(dm hj).1, (dm hj).2]
 try refine st_anti (M' := (b11, .var (.agg #[.int .i64 (n : Int), .slice none 0 0]), 24) :: (b4, .var (.agg #[.int .i64 0, .slice none 0 0]), 24) :: (b2, .var (.agg #[.int .i64 (n : Int), .slice p (n * n) c]), 24) :: (([]) ++ M)) (ULe.refl _) sbk ?_
 refine st_loop (fun z E U' M' => ∃ (i : Nat) (w : Nat) (Q : Option Addr) (C : Nat) (xs : List Value) (D : MH), i ≤ n ∧ w = i * n ∧ RowO TInt 1 D Q w C xs ∧ El Vz U' xs (chf n f u) ∧ E = [(12, .int .i64 (i : Int)), (11, .pointer (some ⟨b11, 0, none⟩)), (7, .int .i64 (n : Int)), (1, .slice pu (n * n) cu), (4, .pointer (some ⟨b4, 0, none⟩)), (2, .pointer (some ⟨b2, 0, none⟩)), (5, .int .i64 0)] ∧ ULe U3 U' ∧ M' = (b11, .var (.agg #[.int .i64 (n : Int), .slice Q w C]), 24) :: (b4, .var (.agg #[.int .i64 0, .slice none 0 0]), 24) :: (b2, .var (.agg #[.int .i64 (n : Int), .slice p (n * n) c]), 24) :: (D ++ M) ∧ z = n - i) (n0 := n - 0) (E0 := [(12, .int .i64 ((0 : Nat) : Int)), (11, .pointer (some ⟨b11, 0, none⟩)), (7, .int .i64 (n : Int)), (1, .slice pu (n * n) cu), (4, .pointer (some ⟨b4, 0, none⟩)), (2, .pointer (some ⟨b2, 0, none⟩)), (5, .int .i64 0)]) ⟨rfl, rfl, rfl, rfl, rfl, rfl, rfl, trivial⟩ ⟨0, 0, none, 0, [], [], by omega, by omega, RowO.nil, El.nil, rfl, uc, rfl, rfl⟩ ?_
 rintro z E U4 M' ⟨i, w, Q, C, xs, D, hi, hw, hrow, hel, rfl, hU4, rfl, rfl⟩
 try refine run_s ?_
 refine st_dec rfl (fun h5 => ?_) (fun h5 => ?_)
 ·have hin : i < n := by omega
  try refine run_s ?_
  try refine st_anti (M' := (b11, .var (.agg #[.int .i64 (n : Int), .slice Q w C]), 24) :: (b4, .var (.agg #[.int .i64 0, .slice none 0 0]), 24) :: (b2, .var (.agg #[.int .i64 (n : Int), .slice p (n * n) c]), 24) :: (D ++ M)) (ULe.refl _) sbk ?_
  refine st_loop (fun z E U' M' => ∃ (j : Nat) (w : Nat) (Q : Option Addr) (C : Nat) (xs : List Value) (D : MH), j ≤ n ∧ w = i * n + j ∧ RowO TInt 1 D Q w C xs ∧ El Vz U' xs (chf n f u) ∧ E = [(13, .int .i64 (j : Int)), (12, .int .i64 (i : Int)), (11, .pointer (some ⟨b11, 0, none⟩)), (7, .int .i64 (n : Int)), (1, .slice pu (n * n) cu), (4, .pointer (some ⟨b4, 0, none⟩)), (2, .pointer (some ⟨b2, 0, none⟩)), (5, .int .i64 0)] ∧ ULe U4 U' ∧ M' = (b11, .var (.agg #[.int .i64 (n : Int), .slice Q w C]), 24) :: (b4, .var (.agg #[.int .i64 0, .slice none 0 0]), 24) :: (b2, .var (.agg #[.int .i64 (n : Int), .slice p (n * n) c]), 24) :: (D ++ M) ∧ z = n - j) (n0 := n - 0) (E0 := [(13, .int .i64 ((0 : Nat) : Int)), (12, .int .i64 (i : Int)), (11, .pointer (some ⟨b11, 0, none⟩)), (7, .int .i64 (n : Int)), (1, .slice pu (n * n) cu), (4, .pointer (some ⟨b4, 0, none⟩)), (2, .pointer (some ⟨b2, 0, none⟩)), (5, .int .i64 0)]) ⟨rfl, rfl, rfl, rfl, rfl, rfl, rfl, rfl, trivial⟩ ⟨0, w, Q, C, xs, D, by omega, by omega, hrow, hel, rfl, uc, rfl, rfl⟩ ?_
  clear hrow hel hw
  rintro z E U5 M' ⟨j, w, Q, C, xs, D, hj, hw, hrow, hel, rfl, hU5, rfl, rfl⟩
  try refine run_s ?_
  refine st_dec rfl (fun h6 => ?_) (fun h6 => ?_)
  ·have hjn : j < n := by omega
   have hij := ij_lt hin hjn
   try refine run_s ?_
   try refine st_anti (M' := (b11, .var (.agg #[.int .i64 (n : Int), .slice Q w C]), 24) :: (b4, .var (.agg #[.int .i64 0, .slice none 0 0]), 24) :: (b2, .var (.agg #[.int .i64 (n : Int), .slice p (n * n) c]), 24) :: (D ++ M)) (ULe.refl _) sbk ?_
   refine st_loop (fun z E U' M' => ∃ (a : Nat), a ≤ n ∧ U5 = U' ∧ E = [(15, .int .i64 (a : Int)), (14, .int .i64 (cou n f u i j a + cin n f u i j a 0)), (13, .int .i64 (j : Int)), (12, .int .i64 (i : Int)), (11, .pointer (some ⟨b11, 0, none⟩)), (7, .int .i64 (n : Int)), (1, .slice pu (n * n) cu), (4, .pointer (some ⟨b4, 0, none⟩)), (2, .pointer (some ⟨b2, 0, none⟩)), (5, .int .i64 0)] ∧ ULe U5 U' ∧ M' = (b11, .var (.agg #[.int .i64 (n : Int), .slice Q w C]), 24) :: (b4, .var (.agg #[.int .i64 0, .slice none 0 0]), 24) :: (b2, .var (.agg #[.int .i64 (n : Int), .slice p (n * n) c]), 24) :: (D ++ M) ∧ z = n - a) (n0 := n - 0) (E0 := [(15, .int .i64 ((0 : Nat) : Int)), (14, .int .i64 (cou n f u i j 0 + cin n f u i j 0 0)), (13, .int .i64 (j : Int)), (12, .int .i64 (i : Int)), (11, .pointer (some ⟨b11, 0, none⟩)), (7, .int .i64 (n : Int)), (1, .slice pu (n * n) cu), (4, .pointer (some ⟨b4, 0, none⟩)), (2, .pointer (some ⟨b2, 0, none⟩)), (5, .int .i64 0)]) ⟨rfl, rfl, rfl, rfl, rfl, rfl, rfl, rfl, rfl, rfl, trivial⟩ ⟨0, by omega, rfl, rfl, uc, rfl, rfl⟩ ?_
   rintro z E U6 M' ⟨a, ha, rfl, rfl, hU6, rfl, rfl⟩
   try refine run_s ?_
   refine st_dec rfl (fun h7 => ?_) (fun h7 => ?_)
   ·have han : a < n := by omega
    try refine run_s ?_
    try refine st_anti (M' := (b11, .var (.agg #[.int .i64 (n : Int), .slice Q w C]), 24) :: (b4, .var (.agg #[.int .i64 0, .slice none 0 0]), 24) :: (b2, .var (.agg #[.int .i64 (n : Int), .slice p (n * n) c]), 24) :: (D ++ M)) (ULe.refl _) sbk ?_
    refine st_loop (fun z E U' M' => ∃ (k : Nat), k ≤ n ∧ U5 = U' ∧ E = [(16, .int .i64 (k : Int)), (15, .int .i64 (a : Int)), (14, .int .i64 (cou n f u i j a + cin n f u i j a k)), (13, .int .i64 (j : Int)), (12, .int .i64 (i : Int)), (11, .pointer (some ⟨b11, 0, none⟩)), (7, .int .i64 (n : Int)), (1, .slice pu (n * n) cu), (4, .pointer (some ⟨b4, 0, none⟩)), (2, .pointer (some ⟨b2, 0, none⟩)), (5, .int .i64 0)] ∧ ULe U5 U' ∧ M' = (b11, .var (.agg #[.int .i64 (n : Int), .slice Q w C]), 24) :: (b4, .var (.agg #[.int .i64 0, .slice none 0 0]), 24) :: (b2, .var (.agg #[.int .i64 (n : Int), .slice p (n * n) c]), 24) :: (D ++ M) ∧ z = n - k) (n0 := n - 0) (E0 := [(16, .int .i64 ((0 : Nat) : Int)), (15, .int .i64 (a : Int)), (14, .int .i64 (cou n f u i j a + cin n f u i j a 0)), (13, .int .i64 (j : Int)), (12, .int .i64 (i : Int)), (11, .pointer (some ⟨b11, 0, none⟩)), (7, .int .i64 (n : Int)), (1, .slice pu (n * n) cu), (4, .pointer (some ⟨b4, 0, none⟩)), (2, .pointer (some ⟨b2, 0, none⟩)), (5, .int .i64 0)]) ⟨rfl, rfl, rfl, rfl, rfl, rfl, rfl, rfl, rfl, rfl, rfl, trivial⟩ ⟨0, by omega, rfl, rfl, uc, rfl, rfl⟩ ?_
    rintro z E U7 M' ⟨k, hk, rfl, rfl, hU7, rfl, rfl⟩
    try refine run_s ?_
    refine st_dec rfl (fun h8 => ?_) (fun h8 => ?_)
    ·have hkn : k < n := by omega
     have l1 := ij_lt hin han
     have l2 := ij_lt han hkn
     have l3 := ij_lt hjn hkn
     obtain ⟨u1, hu1⟩ := rwu.at l1
     obtain ⟨hv1, hz1⟩ := elu _ _ hu1
     subst hv1
     obtain ⟨u2, hu2⟩ := rw1.at l2
     obtain ⟨hv2, hz2⟩ := el _ _ hu2
     subst hv2
     obtain ⟨u3, hu3⟩ := rwu.at l3
     obtain ⟨hv3, hz3⟩ := elu _ _ hu3
     subst hv3
     obtain ⟨m1, m2⟩ := ctm_bd hb hall hin hjn han hkn
     have q1 := cou_bd h8' hb hall hin hjn a ha
     have q2 := cin_bd hb hall hin hjn han k hk
     have e1 : cou n f u i j a + cin n f u i j a (k + 1) = cou n f u i j a + cin n f u i j a k + u (i * n + a) * f (a * n + k) * u (j * n + k) := (Int.add_assoc _ _ _).symm
     have e2 : (i : Int) * (n : Int) = ((i * n : Nat) : Int) := (Int.natCast_mul i n).symm
     have e3 : (a : Int) * (n : Int) = ((a * n : Nat) : Int) := (Int.natCast_mul a n).symm
     have e4 : (j : Int) * (n : Int) = ((j * n : Nat) : Int) := (Int.natCast_mul j n).symm
     try refine run_s ?_
     refine st_drawM [29] [0, 1, 2, 3, 4, 5, 6, 7, 8, 9, 10, 11, 12, 13, 14, 15, 16, 17, 18, 19, 20, 21, 22, 23, 24, 25, 26, 27, 28, 29] sym (by kernel_rfl) ?_
     try refine run_s ?_
     refine sl_y (yl_index sym rfl rfl rfl rfl rfl ( (show _ = ((i * n + a : Nat) : Int) by omega)) ((rwu.up uc sb).lt hu1) ((rwu.up uc sb).get _ _ hu1).1) rfl rfl rfl rfl ?_; refine sl_y (yl_loadR1 sym rfl rfl rfl rfl (rwu.up uc sb) hu1 rfl) rfl rfl rfl rfl ?_
     try refine run_s ?_
     refine sl_y (yl_index sym rfl rfl rfl rfl rfl ( (show _ = ((a * n + k : Nat) : Int) by omega)) ((rw1.up uc sb).lt hu2) ((rw1.up uc sb).get _ _ hu2).1) rfl rfl rfl rfl ?_; refine sl_y (yl_loadR1 sym rfl rfl rfl rfl (rw1.up uc sb) hu2 rfl) rfl rfl rfl rfl ?_
     try refine run_s ?_
     refine sl_y (yl_index sym rfl rfl rfl rfl rfl ( (show _ = ((j * n + k : Nat) : Int) by omega)) ((rwu.up uc sb).lt hu3) ((rwu.up uc sb).get _ _ hu3).1) rfl rfl rfl rfl ?_; refine sl_y (yl_loadR1 sym rfl rfl rfl rfl (rwu.up uc sb) hu3 rfl) rfl rfl rfl rfl ?_
     try refine run_s ?_
     rw [← e1]
     exact sk_again (E' := [(16, .int .i64 ((k : Int) + 1)), (15, .int .i64 (a : Int)), (14, .int .i64 (cou n f u i j a + cin n f u i j a (k + 1))), (13, .int .i64 (j : Int)), (12, .int .i64 (i : Int)), (11, .pointer (some ⟨b11, 0, none⟩)), (7, .int .i64 (n : Int)), (1, .slice pu (n * n) cu), (4, .pointer (some ⟨b4, 0, none⟩)), (2, .pointer (some ⟨b2, 0, none⟩)), (5, .int .i64 0)]) (m := n - (k + 1)) ⟨rfl, rfl, rfl, rfl, rfl, rfl, rfl, rfl, rfl, rfl, rfl, trivial⟩ (by omega) ⟨k + 1, by omega, rfl, rfl, uc, rfl, rfl⟩
    ·obtain rfl : n = k := by omega
     have e1 : cou n f u i j (a + 1) + cin n f u i j (a + 1) 0 = cou n f u i j a + cin n f u i j a n := Int.add_zero _
     rw [← e1]
     try refine run_s ?_
     exact sk_again (E' := [(15, .int .i64 ((a : Int) + 1)), (14, .int .i64 (cou n f u i j (a + 1) + cin n f u i j (a + 1) 0)), (13, .int .i64 (j : Int)), (12, .int .i64 (i : Int)), (11, .pointer (some ⟨b11, 0, none⟩)), (7, .int .i64 (n : Int)), (1, .slice pu (n * n) cu), (4, .pointer (some ⟨b4, 0, none⟩)), (2, .pointer (some ⟨b2, 0, none⟩)), (5, .int .i64 0)]) (m := n - (a + 1)) ⟨rfl, rfl, rfl, rfl, rfl, rfl, rfl, rfl, rfl, rfl, trivial⟩ (by omega) ⟨a + 1, by omega, rfl, rfl, uc, rfl, rfl⟩
   ·obtain rfl : n = a := by omega
    have e1 : cou n f u i j n + cin n f u i j n 0 = chf n f u (i * n + j) := by rw [hch i j hin hjn]; exact Int.add_zero _
    have q1 := cou_bd h8' hb hall hin hjn n (Nat.le_refl n)
    have q2 := hch i j hin hjn
    rw [e1]
    try refine run_s ?_
    refine w_push hrow (X := (b11, .var (.agg #[.int .i64 (n : Int), .slice Q w C]), 24) :: (b4, .var (.agg #[.int .i64 0, .slice none 0 0]), 24) :: (b2, .var (.agg #[.int .i64 (n : Int), .slice p (n * n) c]), 24) :: M) pgs (fun b P2 C2 D2 hr2 => ?_)
    refine sl_perm (M' := (b11, .var (.agg #[.int .i64 (n : Int), .slice Q w C]), 24) :: (b4, .var (.agg #[.int .i64 0, .slice none 0 0]), 24) :: (b2, .var (.agg #[.int .i64 (n : Int), .slice p (n * n) c]), 24) :: (D2 ++ M)) ?_ pgs
    try refine run_s ?_
    refine sl_storeF 0 sym rfl rfl rfl rfl rfl rfl rfl rfl rfl rfl rfl ?_
    try refine run_s ?_
    exact sk_again (E' := [(13, .int .i64 ((j : Int) + 1)), (12, .int .i64 (i : Int)), (11, .pointer (some ⟨b11, 0, none⟩)), (7, .int .i64 (n : Int)), (1, .slice pu (n * n) cu), (4, .pointer (some ⟨b4, 0, none⟩)), (2, .pointer (some ⟨b2, 0, none⟩)), (5, .int .i64 0)]) (m := n - (j + 1)) ⟨rfl, rfl, rfl, rfl, rfl, rfl, rfl, rfl, trivial⟩ (by omega) ⟨j + 1, w + 1, P2, C2, _, D2, by omega, by omega, hr2, snoc_ok hrow.len.1 (hel.up KeptC.out uc) (by rw [hw]; exact ⟨rfl, by omega⟩), rfl, uc, rfl, rfl⟩
  ·obtain rfl : n = j := by omega
   try refine run_s ?_
   exact sk_again (E' := [(12, .int .i64 ((i : Int) + 1)), (11, .pointer (some ⟨b11, 0, none⟩)), (7, .int .i64 (n : Int)), (1, .slice pu (n * n) cu), (4, .pointer (some ⟨b4, 0, none⟩)), (2, .pointer (some ⟨b2, 0, none⟩)), (5, .int .i64 0)]) (m := n - (i + 1)) ⟨rfl, rfl, rfl, rfl, rfl, rfl, rfl, trivial⟩ (by omega) ⟨i + 1, w, Q, C, xs, D, by omega, by rw [Nat.add_mul]; omega, hrow, hel, rfl, uc, rfl, rfl⟩
 obtain rfl : n = i := by omega
 subst hw
 repeat (first|refine run_S ?_|refine w_box fun _=>?_|refine w_al fun _=>?_)
 refine sl_call rfl rfl rfl rfl rfl rfl (fun _ => r36fits_ct (hrow.at sb) hel (by omega)) ?_
 rintro v3 U8 D3 hU3 ⟨hf1, hf2, rfl, rfl⟩
 rw [List.nil_append]
 by_cases hin : Ins (n * n) (chf n f u)
 ·obtain rfl := hf1 hin
  rw [if_pos hin]
  repeat (first|refine run_S ?_|refine w_box fun _=>?_|refine w_al fun _=>?_)
  exact sk_ret D sym rfl (.cons (.cell 1 rfl rfl rfl) (.cons (.tmp rfl) .nil)) uc sb (.inl rfl) ⟨fun h2 => absurd rfl h2, fun _ => ⟨_, rfl, _, _, _, rfl, hrow, hel⟩⟩
 ·obtain rfl := hf2 hin
  repeat (first|refine run_S ?_|refine w_box fun _=>?_|refine w_al fun _=>?_)
  exact sk_ret [] sym rfl (.cons (.cell 1 rfl rfl rfl) (.cons (.tmp rfl) .nil)) uc sb (.inl rfl) (by
   rw [if_neg hin]
   exact ⟨fun _ => rfl, fun h2 => absurd h2 (by decide)⟩)
end Go.Proofs.YtjfkodlddladhaaGreat
