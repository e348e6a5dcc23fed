/- Walks of bigint, 7: shifts. -/
import Derived.Test.YtcakainebimmdaaB6
namespace Go.Proofs.Ytcakainebimmdaa
open Go.Hp
variable {G : World} {U : UH} {M : MH}
section
variable {P : Program} {T : TT} {N : Nat} {E : Env} {o : Oper} {x y : Operand} {ty yt : Nat}
theorem yl_or32N {a b : Int} {m n : Nat} (ho : o.op = .binOp .or ty x y yt) (hx : ev E x = some (.int .u32 a)) (hy : ev E y = some (.int .u32 b)) (ha : a = (m : Int)) (hb : b = (n : Int)) (hm : m < 4294967296) (hn : n < 4294967296) {r : Nat} (hr : m ||| n = r) :
    Yl P N G o E U M (.int .u32 (r : Int)) := by
  subst ha hb hr
  have h := yl_or32b (P := P) (N := N) (G := G) (U := U) (M := M) (A := BitVec.ofNat 32 m) (B := BitVec.ofNat 32 n) ho (by rw [hx, BitVec.toNat_ofNat, Nat.mod_eq_of_lt hm]) (by rw [hy, BitVec.toNat_ofNat, Nat.mod_eq_of_lt hn])
  rwa [BitVec.toNat_or, BitVec.toNat_ofNat, BitVec.toNat_ofNat, Nat.mod_eq_of_lt hm, Nat.mod_eq_of_lt hn] at h
theorem yl_shlN {k' : IntKind} {a b : Int} {m n : Nat} (ho : o.op = .binOp .shl ty x y yt) (hx : ev E x = some (.int .u64 a)) (hy : ev E y = some (.int k' b)) (ha : a = (m : Int)) (hb : b = (n : Int)) (h : n ≤ 64) {r : Nat} (hr : m * 2 ^ n = r) (hlt : r < 18446744073709551616) :
    Yl P N G o E U M (.int .u64 (r : Int)) := by
  subst ha
  have h1 := yl_shl (P := P) (N := N) (G := G) (U := U) (M := M) ho hx hy hb (by simpa [IntKind.bits] using h)
  have e : IntKind.u64.wrap ((m : Int) * 2 ^ n) = (r : Int) := by
    have : (m : Int) * 2 ^ n = (r : Int) := by rw [← hr]; simp
    rw [this, IntWalk.u64_in _ (by omega)]
  rwa [e] at h1
theorem yl_shrN {k k' : IntKind} {a b : Int} {m n : Nat} (ho : o.op = .binOp .shr ty x y yt) (hx : ev E x = some (.int k a)) (hy : ev E y = some (.int k' b)) (ha : a = (m : Int)) (hb : b = (n : Int)) (h : n ≤ k.bits) {r : Nat} (hr : m / 2 ^ n = r) :
    Yl P N G o E U M (.int k (r : Int)) := by
  subst ha
  have h1 := yl_shr (P := P) (N := N) (G := G) (U := U) (M := M) ho hx hy hb h
  have e : (m : Int) / 2 ^ n = (r : Int) := by rw [← hr]; simp
  rwa [e] at h1
end

theorem or_add {t h s : Nat} (ht : t < 2 ^ s) : t ||| h * 2 ^ s = h * 2 ^ s + t := by
  have := Nat.shiftLeft_add_eq_or_of_lt (i := s) (b := t) ht h
  rw [Nat.shiftLeft_eq] at this
  rw [Nat.or_comm]; exact this.symm

theorem pow_facts {s : Nat} (hs : s < 32) : ∃ w w' : Nat, w = 2 ^ s ∧ w * w' = 4294967296 ∧ 0 < w ∧ 0 < w' ∧ w ≤ 2147483648 := by
  refine ⟨2 ^ s, 2 ^ (32 - s), rfl, ?_, Nat.pow_pos (by omega), Nat.pow_pos (by omega), ?_⟩
  · rw [← Nat.pow_add, show s + (32 - s) = 32 by omega]
  · calc 2 ^ s ≤ 2 ^ 31 := Nat.pow_le_pow_right (by omega) (by omega)
      _ = 2147483648 := by decide

theorem shift_step {x w w' : Nat} (hw : w * w' = 4294967296) (hx : x < 4294967296) (h0 : 0 < w) : x * w % 4294967296 = x % w' * w ∧ x * w / 4294967296 < w ∧ x * w < 4294967296 * w := by
  refine ⟨?_, ?_, Nat.mul_lt_mul_of_pos_right hx h0⟩
  · rw [← hw, Nat.mul_comm w w', Nat.mul_mod_mul_right]
  · exact Nat.div_lt_of_lt_mul (by rw [Nat.mul_comm x w, Nat.mul_comm _ w]; exact Nat.mul_lt_mul_of_pos_left hx h0)

theorem shifted_ct {p : Option Addr} {n c s : Nat} {a : List Nat} (ha : Dig U M p n c a) (hs : s < 32) (hn : n ≤ 1099511627776) :
    Ct Try.prog 89 [.slice p n c, .int .u64 (s : Int)] G U M fun v U' D => ∃ bo l, v = .slice (some ⟨bo, 0, none⟩) (n + 1) (n + 1) ∧ D = [(bo, .arr (l.map dg), TU32)] ∧ l.length = n + 1 ∧ Bd l ∧ val l = val a * 2 ^ s ∧ U = U' := by
  have hl1 := ha.len
  have h3 := ha.capm
  have h4 := ha.cap
  obtain ⟨w, w', hw, hww, hw0, hw0', hw31⟩ := pow_facts hs
  refine ct_of_st Try.func89 rfl rfl rfl rfl ?_
  repeat (first | refine st_seq ?_ | refine st_region (T := tys) ?_ | refine sl_nil ?_ | refine sk_seq ?_ | refine st_block ?_ | refine sk_block ?_ | refine st_ret ?_ | refine st_exit ?_ | refine st_skip ?_ | refine sk_seq_ret ?_ | refine sk_block_ret ?_ | refine sk_loop_ret ?_ | refine sk_cut_ret ?_ | refine sk_cut_exit ?_ | refine sk_seq_exit ?_ | refine sk_block_here ?_ | refine sk_block_far rfl ?_ | refine sk_loop_exit ?_ | refine st_true rfl ?_ | refine st_false rfl ?_ | refine w_i64 ?_ | refine w_u64 ?_ | refine w_u32 ?_ | refine w_cv ?_ | refine w_cv32 ?_ | refine w_shr ?_ | refine w_shl ?_ | refine w_p ?_ | refine w_no ?_ | refine w_m 0 ?_ | refine w_m 1 ?_ | refine w_m 2 ?_ | refine w_m 3 ?_ | refine w_m 4 ?_ | refine w_m 5 ?_ | refine w_m 6 ?_ | refine w_m 7 ?_ | refine w_m 8 ?_ | refine w_m 9 ?_ | refine w_m 10 ?_ | refine w_m 11 ?_ | refine w_m 12 ?_)
  refine sl_make (m := n + 1) (n := n + 1) sym rfl rfl rfl rfl rfl (by omega) (by omega) rfl rfl (Nat.le_refl _) (by omega) (by omega) rfl rfl rfl rfl (fun bo => ?_)
  rw [dg_rep]
  repeat (first | refine st_seq ?_ | refine st_region (T := tys) ?_ | refine sl_nil ?_ | refine sk_seq ?_ | refine st_block ?_ | refine sk_block ?_ | refine st_ret ?_ | refine st_exit ?_ | refine st_skip ?_ | refine sk_seq_ret ?_ | refine sk_block_ret ?_ | refine sk_loop_ret ?_ | refine sk_cut_ret ?_ | refine sk_cut_exit ?_ | refine sk_seq_exit ?_ | refine sk_block_here ?_ | refine sk_block_far rfl ?_ | refine sk_loop_exit ?_ | refine st_true rfl ?_ | refine st_false rfl ?_ | refine w_i64 ?_ | refine w_u64 ?_ | refine w_u32 ?_ | refine w_cv ?_ | refine w_cv32 ?_ | refine w_shr ?_ | refine w_shl ?_ | refine w_p ?_ | refine w_no ?_ | refine w_m 0 ?_ | refine w_m 1 ?_ | refine w_m 2 ?_ | refine w_m 3 ?_ | refine w_m 4 ?_ | refine w_m 5 ?_ | refine w_m 6 ?_ | refine w_m 7 ?_ | refine w_m 8 ?_ | refine w_m 9 ?_ | refine w_m 10 ?_ | refine w_m 11 ?_ | refine w_m 12 ?_)
  refine st_loop (fun m E U' M' => ∃ (i t : Nat) (r : List Nat), i ≤ n ∧ t < w ∧ r.length = i ∧ Bd r ∧ val r + 4294967296 ^ i * t = val (a.take i) * w ∧
      E = [(15, .int .i64 (i : Int)), (14, .int .i64 (n : Int)), (13, .slice p n c), (0, .slice p n c), (1, .int .u64 (s : Int)), (5, .slice (some ⟨bo, 0, none⟩) (n + 1) (n + 1))] ∧
      U = U' ∧ M' = (bo, .arr ((r ++ t :: List.replicate (n - i) 0).map dg), TU32) :: M ∧ m = n - i) (n0 := n)
    (E0 := [(15, .int .i64 ((0 : Nat) : Int)), (14, .int .i64 (n : Int)), (13, .slice p n c), (0, .slice p n c), (1, .int .u64 (s : Int)), (5, .slice (some ⟨bo, 0, none⟩) (n + 1) (n + 1))])
    ⟨rfl, rfl, rfl, rfl, rfl, rfl, trivial⟩ ⟨0, 0, [], by omega, by omega, rfl, (by intro d hd; cases hd), by simp [val], rfl, rfl, by rw [List.replicate_succ]; rfl, rfl⟩ ?_
  rintro m E U' M' ⟨i, t, r, hi, ht, hr, hbr, hv, rfl, rfl, rfl, rfl⟩
  repeat (first | refine st_seq ?_ | refine st_region (T := tys) ?_ | refine sl_nil ?_ | refine sk_seq ?_ | refine st_block ?_ | refine sk_block ?_ | refine st_ret ?_ | refine st_exit ?_ | refine st_skip ?_ | refine sk_seq_ret ?_ | refine sk_block_ret ?_ | refine sk_loop_ret ?_ | refine sk_cut_ret ?_ | refine sk_cut_exit ?_ | refine sk_seq_exit ?_ | refine sk_block_here ?_ | refine sk_block_far rfl ?_ | refine sk_loop_exit ?_ | refine st_true rfl ?_ | refine st_false rfl ?_ | refine w_i64 ?_ | refine w_u64 ?_ | refine w_u32 ?_ | refine w_cv ?_ | refine w_cv32 ?_ | refine w_shr ?_ | refine w_shl ?_ | refine w_p ?_ | refine w_no ?_ | refine w_m 0 ?_ | refine w_m 1 ?_ | refine w_m 2 ?_ | refine w_m 3 ?_ | refine w_m 4 ?_ | refine w_m 5 ?_ | refine w_m 6 ?_ | refine w_m 7 ?_ | refine w_m 8 ?_ | refine w_m 9 ?_ | refine w_m 10 ?_ | refine w_m 11 ?_ | refine w_m 12 ?_)
  refine st_dec rfl (fun h5 => ?_) (fun h5 => ?_)
  · obtain ⟨x, hx, hbx, hp1, hcx⟩ := ha.get (k := i) (by omega)
    replace hcx := fun G w hw => hcx G w (Mem.anti (M' := (bo, .arr ((r ++ t :: List.replicate (n - i) 0).map dg), TU32) :: M) hw (ULe.refl _) (List.sublist_cons_self ..))
    obtain ⟨g1, g2, g3⟩ := shift_step hww hbx hw0
    have hrep : List.replicate (n - i) 0 = 0 :: List.replicate (n - (i + 1)) 0 := by
      rw [show n - i = (n - (i + 1)) + 1 by omega, List.replicate_succ]
    have hget : (r ++ t :: List.replicate (n - i) 0)[i]? = some t := by
      rw [List.getElem?_append_right (by omega), hr, Nat.sub_self]; rfl
    have hlow : x % w' * w < 4294967296 := by rw [← g1]; exact Nat.mod_lt _ (by omega)
    have hor : t ||| x % w' * w = x % w' * w + t := by rw [hw] at ht ⊢; exact or_add ht
    have hsum : x % w' * w + t < 4294967296 := by
      have h1 : x % w' + 1 ≤ w' := Nat.mod_lt _ hw0'
      have h2 : (x % w' + 1) * w ≤ w' * w := Nat.mul_le_mul_right _ h1
      rw [Nat.mul_comm w' w, hww, Nat.add_mul] at h2
      omega
    have e := Nat.mod_add_div (x * w) 4294967296
    generalize hX : x * w = X at *
    generalize hlo : x % w' * w = lo at *
    generalize htp : X / 4294967296 = tp at *
    repeat (first | refine st_seq ?_ | refine st_region (T := tys) ?_ | refine sl_nil ?_ | refine sk_seq ?_ | refine st_block ?_ | refine sk_block ?_ | refine st_ret ?_ | refine st_exit ?_ | refine st_skip ?_ | refine sk_seq_ret ?_ | refine sk_block_ret ?_ | refine sk_loop_ret ?_ | refine sk_cut_ret ?_ | refine sk_cut_exit ?_ | refine sk_seq_exit ?_ | refine sk_block_here ?_ | refine sk_block_far rfl ?_ | refine sk_loop_exit ?_ | refine st_true rfl ?_ | refine st_false rfl ?_ | refine w_i64 ?_ | refine w_u64 ?_ | refine w_u32 ?_ | refine w_cv ?_ | refine w_cv32 ?_ | refine w_shr ?_ | refine w_shl ?_ | refine w_p ?_ | refine w_no ?_ | refine w_m 0 ?_ | refine w_m 1 ?_ | refine w_m 2 ?_ | refine w_m 3 ?_ | refine w_m 4 ?_ | refine w_m 5 ?_ | refine w_m 6 ?_ | refine w_m 7 ?_ | refine w_m 8 ?_ | refine w_m 9 ?_ | refine w_m 10 ?_ | refine w_m 11 ?_ | refine w_m 12 ?_)
    refine sl_y (yl_index1 sym rfl rfl rfl rfl rfl rfl (by omega) hp1) rfl rfl rfl rfl ?_; refine sl_y (yl_loadD sym rfl rfl rfl rfl hcx) rfl rfl rfl rfl ?_
    repeat (first | refine st_seq ?_ | refine st_region (T := tys) ?_ | refine sl_nil ?_ | refine sk_seq ?_ | refine st_block ?_ | refine sk_block ?_ | refine st_ret ?_ | refine st_exit ?_ | refine st_skip ?_ | refine sk_seq_ret ?_ | refine sk_block_ret ?_ | refine sk_loop_ret ?_ | refine sk_cut_ret ?_ | refine sk_cut_exit ?_ | refine sk_seq_exit ?_ | refine sk_block_here ?_ | refine sk_block_far rfl ?_ | refine sk_loop_exit ?_ | refine st_true rfl ?_ | refine st_false rfl ?_ | refine w_i64 ?_ | refine w_u64 ?_ | refine w_u32 ?_ | refine w_cv ?_ | refine w_cv32 ?_ | refine w_shr ?_ | refine w_shl ?_ | refine w_p ?_ | refine w_no ?_ | refine w_m 0 ?_ | refine w_m 1 ?_ | refine w_m 2 ?_ | refine w_m 3 ?_ | refine w_m 4 ?_ | refine w_m 5 ?_ | refine w_m 6 ?_ | refine w_m 7 ?_ | refine w_m 8 ?_ | refine w_m 9 ?_ | refine w_m 10 ?_ | refine w_m 11 ?_ | refine w_m 12 ?_)
    refine sl_y (yl_shlN (m := x) (n := s) rfl rfl rfl rfl rfl (by omega) (r := X) (by rw [← hX, hw]) (by omega)) rfl rfl rfl rfl ?_
    repeat (first | refine st_seq ?_ | refine st_region (T := tys) ?_ | refine sl_nil ?_ | refine sk_seq ?_ | refine st_block ?_ | refine sk_block ?_ | refine st_ret ?_ | refine st_exit ?_ | refine st_skip ?_ | refine sk_seq_ret ?_ | refine sk_block_ret ?_ | refine sk_loop_ret ?_ | refine sk_cut_ret ?_ | refine sk_cut_exit ?_ | refine sk_seq_exit ?_ | refine sk_block_here ?_ | refine sk_block_far rfl ?_ | refine sk_loop_exit ?_ | refine st_true rfl ?_ | refine st_false rfl ?_ | refine w_i64 ?_ | refine w_u64 ?_ | refine w_u32 ?_ | refine w_cv ?_ | refine w_cv32 ?_ | refine w_shr ?_ | refine w_shl ?_ | refine w_p ?_ | refine w_no ?_ | refine w_m 0 ?_ | refine w_m 1 ?_ | refine w_m 2 ?_ | refine w_m 3 ?_ | refine w_m 4 ?_ | refine w_m 5 ?_ | refine w_m 6 ?_ | refine w_m 7 ?_ | refine w_m 8 ?_ | refine w_m 9 ?_ | refine w_m 10 ?_ | refine w_m 11 ?_ | refine w_m 12 ?_)
    refine sl_y (yl_indexM (j := i) sym rfl rfl rfl rfl rfl rfl (by omega)) rfl rfl rfl rfl ?_
    refine sl_y (yl_loadMD 0 sym rfl rfl rfl rfl rfl (j := i) (by omega) hget) rfl rfl rfl rfl ?_
    repeat (first | refine st_seq ?_ | refine st_region (T := tys) ?_ | refine sl_nil ?_ | refine sk_seq ?_ | refine st_block ?_ | refine sk_block ?_ | refine st_ret ?_ | refine st_exit ?_ | refine st_skip ?_ | refine sk_seq_ret ?_ | refine sk_block_ret ?_ | refine sk_loop_ret ?_ | refine sk_cut_ret ?_ | refine sk_cut_exit ?_ | refine sk_seq_exit ?_ | refine sk_block_here ?_ | refine sk_block_far rfl ?_ | refine sk_loop_exit ?_ | refine st_true rfl ?_ | refine st_false rfl ?_ | refine w_i64 ?_ | refine w_u64 ?_ | refine w_u32 ?_ | refine w_cv ?_ | refine w_cv32 ?_ | refine w_shr ?_ | refine w_shl ?_ | refine w_p ?_ | refine w_no ?_ | refine w_m 0 ?_ | refine w_m 1 ?_ | refine w_m 2 ?_ | refine w_m 3 ?_ | refine w_m 4 ?_ | refine w_m 5 ?_ | refine w_m 6 ?_ | refine w_m 7 ?_ | refine w_m 8 ?_ | refine w_m 9 ?_ | refine w_m 10 ?_ | refine w_m 11 ?_ | refine w_m 12 ?_)
    refine sl_y (yl_or32N (m := t) (n := lo) rfl rfl rfl rfl (by omega) (by omega) (by omega) hor) rfl rfl rfl rfl ?_
    refine sl_y (yl_indexM (j := i) sym rfl rfl rfl rfl rfl rfl (by omega)) rfl rfl rfl rfl ?_
    refine sl_storeD 0 sym rfl rfl rfl rfl rfl rfl rfl (j := i) (by omega) (by simp; omega) rfl rfl rfl ?_
    rw [set_mid hr, hrep]
    repeat (first | refine st_seq ?_ | refine st_region (T := tys) ?_ | refine sl_nil ?_ | refine sk_seq ?_ | refine st_block ?_ | refine sk_block ?_ | refine st_ret ?_ | refine st_exit ?_ | refine st_skip ?_ | refine sk_seq_ret ?_ | refine sk_block_ret ?_ | refine sk_loop_ret ?_ | refine sk_cut_ret ?_ | refine sk_cut_exit ?_ | refine sk_seq_exit ?_ | refine sk_block_here ?_ | refine sk_block_far rfl ?_ | refine sk_loop_exit ?_ | refine st_true rfl ?_ | refine st_false rfl ?_ | refine w_i64 ?_ | refine w_u64 ?_ | refine w_u32 ?_ | refine w_cv ?_ | refine w_cv32 ?_ | refine w_shr ?_ | refine w_shl ?_ | refine w_p ?_ | refine w_no ?_ | refine w_m 0 ?_ | refine w_m 1 ?_ | refine w_m 2 ?_ | refine w_m 3 ?_ | refine w_m 4 ?_ | refine w_m 5 ?_ | refine w_m 6 ?_ | refine w_m 7 ?_ | refine w_m 8 ?_ | refine w_m 9 ?_ | refine w_m 10 ?_ | refine w_m 11 ?_ | refine w_m 12 ?_)
    refine sl_y (yl_indexM (j := i + 1) sym rfl rfl rfl rfl rfl rfl (by omega)) rfl rfl rfl rfl ?_
    refine sl_storeD 0 sym rfl rfl rfl (v := tp) (by omega) rfl rfl rfl (j := i + 1) (by omega) (by simp; omega) rfl rfl rfl ?_
    rw [set_mid (by simp [hr])]
    repeat (first | refine st_seq ?_ | refine st_region (T := tys) ?_ | refine sl_nil ?_ | refine sk_seq ?_ | refine st_block ?_ | refine sk_block ?_ | refine st_ret ?_ | refine st_exit ?_ | refine st_skip ?_ | refine sk_seq_ret ?_ | refine sk_block_ret ?_ | refine sk_loop_ret ?_ | refine sk_cut_ret ?_ | refine sk_cut_exit ?_ | refine sk_seq_exit ?_ | refine sk_block_here ?_ | refine sk_block_far rfl ?_ | refine sk_loop_exit ?_ | refine st_true rfl ?_ | refine st_false rfl ?_ | refine w_i64 ?_ | refine w_u64 ?_ | refine w_u32 ?_ | refine w_cv ?_ | refine w_cv32 ?_ | refine w_shr ?_ | refine w_shl ?_ | refine w_p ?_ | refine w_no ?_ | refine w_m 0 ?_ | refine w_m 1 ?_ | refine w_m 2 ?_ | refine w_m 3 ?_ | refine w_m 4 ?_ | refine w_m 5 ?_ | refine w_m 6 ?_ | refine w_m 7 ?_ | refine w_m 8 ?_ | refine w_m 9 ?_ | refine w_m 10 ?_ | refine w_m 11 ?_ | refine w_m 12 ?_)
    refine sk_again (E' := [(15, .int .i64 ((i : Int) + 1)), (14, .int .i64 (n : Int)), (13, .slice p n c), (0, .slice p n c), (1, .int .u64 (s : Int)), (5, .slice (some ⟨bo, 0, none⟩) (n + 1) (n + 1))]) (m := n - (i + 1))
      ⟨rfl, rfl, rfl, rfl, rfl, rfl, trivial⟩ (by omega) ⟨i + 1, tp, r ++ [lo + t], by omega, g2, by simp [hr], bd_snoc hbr hsum, ?_, rfl, rfl, by rw [List.append_assoc _ [tp]]; rfl, rfl⟩
    rw [val_snoc, hr, val_take_succ hx, Nat.pow_succ, Nat.add_mul, ← hv, Nat.mul_assoc (4294967296 ^ i) x w, hX]
    generalize 4294967296 ^ i = pw at *
    grind
  · have : i = n := by omega
    subst this
    repeat (first | refine st_seq ?_ | refine st_region (T := tys) ?_ | refine sl_nil ?_ | refine sk_seq ?_ | refine st_block ?_ | refine sk_block ?_ | refine st_ret ?_ | refine st_exit ?_ | refine st_skip ?_ | refine sk_seq_ret ?_ | refine sk_block_ret ?_ | refine sk_loop_ret ?_ | refine sk_cut_ret ?_ | refine sk_cut_exit ?_ | refine sk_seq_exit ?_ | refine sk_block_here ?_ | refine sk_block_far rfl ?_ | refine sk_loop_exit ?_ | refine st_true rfl ?_ | refine st_false rfl ?_ | refine w_i64 ?_ | refine w_u64 ?_ | refine w_u32 ?_ | refine w_cv ?_ | refine w_cv32 ?_ | refine w_shr ?_ | refine w_shl ?_ | refine w_p ?_ | refine w_no ?_ | refine w_m 0 ?_ | refine w_m 1 ?_ | refine w_m 2 ?_ | refine w_m 3 ?_ | refine w_m 4 ?_ | refine w_m 5 ?_ | refine w_m 6 ?_ | refine w_m 7 ?_ | refine w_m 8 ?_ | refine w_m 9 ?_ | refine w_m 10 ?_ | refine w_m 11 ?_ | refine w_m 12 ?_)
    refine sk_ret [_] sym rfl (.cons (.tmp rfl) .nil) (ULe.refl _) (List.Sublist.refl _) (.inl rfl) ?_
    rw [show List.replicate (i - i) 0 = [] by simp]
    refine ⟨bo, r ++ [t], rfl, rfl, by simp [hr], bd_snoc hbr (by omega), ?_, rfl⟩
    rw [val_snoc, hr, hv, take_all (by omega), hw]

end Go.Proofs.Ytcakainebimmdaa
