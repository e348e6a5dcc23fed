/- Walks of bigint, 8: digits moved to the right. -/
import Derived.Test.YtcakainebimmdaaB7
import Derived.Test.YtcakainebimmdaaHx
namespace Go.Proofs.Ytcakainebimmdaa
open Go.Hp
variable {G : World} {U : UH} {M : MH}

theorem unshift_step {x y w w' : Nat} (hww : w * w' = 4294967296) (hx : x < 4294967296) (h0 : 0 < w) (_h0' : 0 < w') :
    (y * 4294967296 + x) / w % 4294967296 = y % w * w' + x / w ∧ y % w * w' + x / w < 4294967296 ∧ w * (y % w * w' + x / w) + x % w = x + 4294967296 * (y % w) := by
  have h1 : (y * 4294967296 + x) / w = y * w' + x / w := by
    rw [← hww, show y * (w * w') + x = w * (y * w') + x by rw [Nat.mul_left_comm], Nat.mul_add_div h0]
  have h2 : x / w < w' := Nat.div_lt_of_lt_mul (by rw [hww]; exact hx)
  have h3 : y % w < w := Nat.mod_lt _ h0
  have h4 : y % w * w' + x / w < 4294967296 := by
    have : (y % w + 1) * w' ≤ w * w' := Nat.mul_le_mul_right _ h3
    rw [hww, Nat.add_mul] at this
    omega
  refine ⟨?_, h4, ?_⟩
  · rw [h1]
    have e : y * w' = y % w * w' + 4294967296 * (y / w) := by
      have := Nat.mod_add_div y w
      calc y * w' = (y % w + w * (y / w)) * w' := by rw [this]
        _ = y % w * w' + w * w' * (y / w) := by rw [Nat.add_mul]; congr 1; rw [Nat.mul_assoc, Nat.mul_comm (y / w), ← Nat.mul_assoc]
        _ = _ := by rw [hww]
    rw [e, show y % w * w' + 4294967296 * (y / w) + x / w = (y % w * w' + x / w) + 4294967296 * (y / w) by omega, Nat.add_mul_mod_self_left, Nat.mod_eq_of_lt h4]
  · have e := Nat.mod_add_div x w
    rw [Nat.mul_add]
    have : w * (y % w * w') = 4294967296 * (y % w) := by rw [Nat.mul_left_comm, hww, Nat.mul_comm]
    omega

theorem unshifted_ct {p : Option Addr} {n c s : Nat} {a : List Nat} (ha : Dig U M p n c a) (hs : s < 32) (hn : n ≤ 1099511627776) :
    Ct Try.prog 91 [.slice p n c, .int .u64 (s : Int)] G U M fun v U' D => ∃ q k cc l, v = .slice q k cc ∧ Own D q k cc l ∧ val l = val a / 2 ^ s ∧ k = n ∧ U = U' := by
  have hl1 := ha.len
  have h3 := ha.capm
  have h4 := ha.cap
  obtain ⟨w, w', hw, hww, hw0, hw0', hw31⟩ := pow_facts hs
  refine ct_of_st Try.func91 rfl rfl rfl rfl ?_
  repeat (first | refine st_seq ?_ | refine st_region (T := tys) ?_ | refine sl_nil ?_ | refine sk_seq ?_ | refine st_block ?_ | refine sk_block ?_ | refine st_ret ?_ | refine st_exit ?_ | refine st_skip ?_ | refine sk_seq_ret ?_ | refine sk_block_ret ?_ | refine sk_loop_ret ?_ | refine sk_cut_ret ?_ | refine sk_cut_exit ?_ | refine sk_seq_exit ?_ | refine sk_block_here ?_ | refine sk_block_far rfl ?_ | refine sk_loop_exit ?_ | refine st_true rfl ?_ | refine st_false rfl ?_ | refine w_i64 ?_ | refine w_u64 ?_ | refine w_u32 ?_ | refine w_cv ?_ | refine w_cv32 ?_ | refine w_shr ?_ | refine w_shl ?_ | refine w_p ?_ | refine w_no ?_ | refine w_m 0 ?_ | refine w_m 1 ?_ | refine w_m 2 ?_ | refine w_m 3 ?_ | refine w_m 4 ?_ | refine w_m 5 ?_ | refine w_m 6 ?_ | refine w_m 7 ?_ | refine w_m 8 ?_ | refine w_m 9 ?_ | refine w_m 10 ?_ | refine w_m 11 ?_ | refine w_m 12 ?_)
  refine sl_make (m := n) (n := n) sym rfl rfl rfl rfl rfl rfl rfl rfl rfl (Nat.le_refl _) (by omega) (by omega) rfl rfl rfl rfl (fun bo => ?_)
  rw [dg_rep]
  repeat (first | refine st_seq ?_ | refine st_region (T := tys) ?_ | refine sl_nil ?_ | refine sk_seq ?_ | refine st_block ?_ | refine sk_block ?_ | refine st_ret ?_ | refine st_exit ?_ | refine st_skip ?_ | refine sk_seq_ret ?_ | refine sk_block_ret ?_ | refine sk_loop_ret ?_ | refine sk_cut_ret ?_ | refine sk_cut_exit ?_ | refine sk_seq_exit ?_ | refine sk_block_here ?_ | refine sk_block_far rfl ?_ | refine sk_loop_exit ?_ | refine st_true rfl ?_ | refine st_false rfl ?_ | refine w_i64 ?_ | refine w_u64 ?_ | refine w_u32 ?_ | refine w_cv ?_ | refine w_cv32 ?_ | refine w_shr ?_ | refine w_shl ?_ | refine w_p ?_ | refine w_no ?_ | refine w_m 0 ?_ | refine w_m 1 ?_ | refine w_m 2 ?_ | refine w_m 3 ?_ | refine w_m 4 ?_ | refine w_m 5 ?_ | refine w_m 6 ?_ | refine w_m 7 ?_ | refine w_m 8 ?_ | refine w_m 9 ?_ | refine w_m 10 ?_ | refine w_m 11 ?_ | refine w_m 12 ?_)
  refine st_loop (fun m E U' M' => ∃ (i e : Nat) (r : List Nat), i ≤ n ∧ r.length = i ∧ Bd r ∧ e = a.getD i 0 % w ∧ w * val r + a.getD 0 0 % w = val (a.take i) + 4294967296 ^ i * e ∧
      E = [(13, .int .i64 (i : Int)), (12, .int .i64 (n : Int)), (0, .slice p n c), (1, .int .u64 (s : Int)), (5, .slice (some ⟨bo, 0, none⟩) n n)] ∧
      U = U' ∧ M' = (bo, .arr ((r ++ List.replicate (n - i) 0).map dg), TU32) :: M ∧ m = n - i) (n0 := n)
    (E0 := [(13, .int .i64 ((0 : Nat) : Int)), (12, .int .i64 (n : Int)), (0, .slice p n c), (1, .int .u64 (s : Int)), (5, .slice (some ⟨bo, 0, none⟩) n n)])
    ⟨rfl, rfl, rfl, rfl, rfl, trivial⟩ ⟨0, a.getD 0 0 % w, [], by omega, rfl, (by intro d hd; cases hd), rfl, by simp [val], rfl, rfl, rfl, rfl⟩ ?_
  rintro m E U' M' ⟨i, e, r, hi, hr, hbr, he, hv, rfl, rfl, rfl, rfl⟩
  repeat (first | refine st_seq ?_ | refine st_region (T := tys) ?_ | refine sl_nil ?_ | refine sk_seq ?_ | refine st_block ?_ | refine sk_block ?_ | refine st_ret ?_ | refine st_exit ?_ | refine st_skip ?_ | refine sk_seq_ret ?_ | refine sk_block_ret ?_ | refine sk_loop_ret ?_ | refine sk_cut_ret ?_ | refine sk_cut_exit ?_ | refine sk_seq_exit ?_ | refine sk_block_here ?_ | refine sk_block_far rfl ?_ | refine sk_loop_exit ?_ | refine st_true rfl ?_ | refine st_false rfl ?_ | refine w_i64 ?_ | refine w_u64 ?_ | refine w_u32 ?_ | refine w_cv ?_ | refine w_cv32 ?_ | refine w_shr ?_ | refine w_shl ?_ | refine w_p ?_ | refine w_no ?_ | refine w_m 0 ?_ | refine w_m 1 ?_ | refine w_m 2 ?_ | refine w_m 3 ?_ | refine w_m 4 ?_ | refine w_m 5 ?_ | refine w_m 6 ?_ | refine w_m 7 ?_ | refine w_m 8 ?_ | refine w_m 9 ?_ | refine w_m 10 ?_ | refine w_m 11 ?_ | refine w_m 12 ?_)
  refine st_dec rfl (fun h5 => ?_) (fun h5 => ?_)
  · obtain ⟨x, hx, hbx, hp1, hcx⟩ := ha.get (k := i) (by omega)
    replace hcx := fun G w hw => hcx G w (Mem.anti (M' := (bo, .arr ((r ++ List.replicate (n - i) 0).map dg), TU32) :: M) hw (ULe.refl _) (List.sublist_cons_self ..))
    repeat (first | refine st_seq ?_ | refine st_region (T := tys) ?_ | refine sl_nil ?_ | refine sk_seq ?_ | refine st_block ?_ | refine sk_block ?_ | refine st_ret ?_ | refine st_exit ?_ | refine st_skip ?_ | refine sk_seq_ret ?_ | refine sk_block_ret ?_ | refine sk_loop_ret ?_ | refine sk_cut_ret ?_ | refine sk_cut_exit ?_ | refine sk_seq_exit ?_ | refine sk_block_here ?_ | refine sk_block_far rfl ?_ | refine sk_loop_exit ?_ | refine st_true rfl ?_ | refine st_false rfl ?_ | refine w_i64 ?_ | refine w_u64 ?_ | refine w_u32 ?_ | refine w_cv ?_ | refine w_cv32 ?_ | refine w_shr ?_ | refine w_shl ?_ | refine w_p ?_ | refine w_no ?_ | refine w_m 0 ?_ | refine w_m 1 ?_ | refine w_m 2 ?_ | refine w_m 3 ?_ | refine w_m 4 ?_ | refine w_m 5 ?_ | refine w_m 6 ?_ | refine w_m 7 ?_ | refine w_m 8 ?_ | refine w_m 9 ?_ | refine w_m 10 ?_ | refine w_m 11 ?_ | refine w_m 12 ?_)
    refine sl_y (yl_index1 sym rfl rfl rfl rfl rfl rfl (by omega) hp1) rfl rfl rfl rfl ?_; refine sl_y (yl_loadD sym rfl rfl rfl rfl hcx) rfl rfl rfl rfl ?_
    repeat (first | refine st_region (T := tys) ?_ | refine sl_nil ?_ | refine sk_seq ?_ | refine sk_block ?_ | refine st_ret ?_ | refine st_exit ?_ | refine st_skip ?_ | refine sk_seq_ret ?_ | refine sk_block_ret ?_ | refine sk_loop_ret ?_ | refine sk_cut_ret ?_ | refine sk_cut_exit ?_ | refine sk_seq_exit ?_ | refine sk_block_here ?_ | refine sk_block_far rfl ?_ | refine sk_loop_exit ?_ | refine st_true rfl ?_ | refine st_false rfl ?_ | refine w_i64 ?_ | refine w_u64 ?_ | refine w_u32 ?_ | refine w_cv ?_ | refine w_cv32 ?_ | refine w_shr ?_ | refine w_shl ?_ | refine w_p ?_ | refine w_no ?_ | refine w_m 0 ?_ | refine w_m 1 ?_ | refine w_m 2 ?_ | refine w_m 3 ?_ | refine w_m 4 ?_ | refine w_m 5 ?_ | refine w_m 6 ?_ | refine w_m 7 ?_ | refine w_m 8 ?_ | refine w_m 9 ?_ | refine w_m 10 ?_ | refine w_m 11 ?_ | refine w_m 12 ?_)
    refine st_seq_cut (fun E U' M' => ∃ y : Nat, y < 4294967296 ∧ a.getD (i + 1) 0 = y ∧
      E = [(7, .int .u64 ((y * 4294967296 + x : Nat) : Int)), (6, .int .i64 (i : Int)), (13, .int .i64 (i : Int)), (12, .int .i64 (n : Int)), (0, .slice p n c), (1, .int .u64 (s : Int)), (5, .slice (some ⟨bo, 0, none⟩) n n)] ∧
      U = U' ∧ M' = (bo, .arr ((r ++ List.replicate (n - i) 0).map dg), TU32) :: M) ?_ ?_
    · repeat (first | refine st_seq ?_ | refine st_region (T := tys) ?_ | refine sl_nil ?_ | refine sk_seq ?_ | refine st_block ?_ | refine sk_block ?_ | refine st_ret ?_ | refine st_exit ?_ | refine st_skip ?_ | refine sk_seq_ret ?_ | refine sk_block_ret ?_ | refine sk_loop_ret ?_ | refine sk_cut_ret ?_ | refine sk_cut_exit ?_ | refine sk_seq_exit ?_ | refine sk_block_here ?_ | refine sk_block_far rfl ?_ | refine sk_loop_exit ?_ | refine st_true rfl ?_ | refine st_false rfl ?_ | refine w_i64 ?_ | refine w_u64 ?_ | refine w_u32 ?_ | refine w_cv ?_ | refine w_cv32 ?_ | refine w_shr ?_ | refine w_shl ?_ | refine w_p ?_ | refine w_no ?_ | refine w_m 0 ?_ | refine w_m 1 ?_ | refine w_m 2 ?_ | refine w_m 3 ?_ | refine w_m 4 ?_ | refine w_m 5 ?_ | refine w_m 6 ?_ | refine w_m 7 ?_ | refine w_m 8 ?_ | refine w_m 9 ?_ | refine w_m 10 ?_ | refine w_m 11 ?_ | refine w_m 12 ?_)
      refine st_dec rfl (fun h8 => ?_) (fun h8 => ?_)
      · obtain ⟨y, hy, hby, hp2, hcy⟩ := ha.get (k := i + 1) (by omega)
        replace hcy := fun G w hw => hcy G w (Mem.anti (M' := (bo, .arr ((r ++ List.replicate (n - i) 0).map dg), TU32) :: M) hw (ULe.refl _) (List.sublist_cons_self ..))
        repeat (first | refine st_seq ?_ | refine st_region (T := tys) ?_ | refine sl_nil ?_ | refine sk_seq ?_ | refine st_block ?_ | refine sk_block ?_ | refine st_ret ?_ | refine st_exit ?_ | refine st_skip ?_ | refine sk_seq_ret ?_ | refine sk_block_ret ?_ | refine sk_loop_ret ?_ | refine sk_cut_ret ?_ | refine sk_cut_exit ?_ | refine sk_seq_exit ?_ | refine sk_block_here ?_ | refine sk_block_far rfl ?_ | refine sk_loop_exit ?_ | refine st_true rfl ?_ | refine st_false rfl ?_ | refine w_i64 ?_ | refine w_u64 ?_ | refine w_u32 ?_ | refine w_cv ?_ | refine w_cv32 ?_ | refine w_shr ?_ | refine w_shl ?_ | refine w_p ?_ | refine w_no ?_ | refine w_m 0 ?_ | refine w_m 1 ?_ | refine w_m 2 ?_ | refine w_m 3 ?_ | refine w_m 4 ?_ | refine w_m 5 ?_ | refine w_m 6 ?_ | refine w_m 7 ?_ | refine w_m 8 ?_ | refine w_m 9 ?_ | refine w_m 10 ?_ | refine w_m 11 ?_ | refine w_m 12 ?_)
        refine sl_y (yl_index1 sym rfl rfl rfl rfl rfl ((show (i : Int) + 1 = ((i + 1 : Nat) : Int) by omega)) (by first | omega | assumption) hp2) rfl rfl rfl rfl ?_; refine sl_y (yl_loadD sym rfl rfl rfl rfl hcy) rfl rfl rfl rfl ?_
        repeat (first | refine st_seq ?_ | refine st_region (T := tys) ?_ | refine sl_nil ?_ | refine sk_seq ?_ | refine st_block ?_ | refine sk_block ?_ | refine st_ret ?_ | refine st_exit ?_ | refine st_skip ?_ | refine sk_seq_ret ?_ | refine sk_block_ret ?_ | refine sk_loop_ret ?_ | refine sk_cut_ret ?_ | refine sk_cut_exit ?_ | refine sk_seq_exit ?_ | refine sk_block_here ?_ | refine sk_block_far rfl ?_ | refine sk_loop_exit ?_ | refine st_true rfl ?_ | refine st_false rfl ?_ | refine w_i64 ?_ | refine w_u64 ?_ | refine w_u32 ?_ | refine w_cv ?_ | refine w_cv32 ?_ | refine w_shr ?_ | refine w_shl ?_ | refine w_p ?_ | refine w_no ?_ | refine w_m 0 ?_ | refine w_m 1 ?_ | refine w_m 2 ?_ | refine w_m 3 ?_ | refine w_m 4 ?_ | refine w_m 5 ?_ | refine w_m 6 ?_ | refine w_m 7 ?_ | refine w_m 8 ?_ | refine w_m 9 ?_ | refine w_m 10 ?_ | refine w_m 11 ?_ | refine w_m 12 ?_)
        refine sl_y (yl_orlo (m := y) (n := x) rfl rfl rfl rfl (by rw [wrap_u64]; omega) hby hbx) rfl rfl rfl rfl ?_
        repeat (first | refine st_seq ?_ | refine st_region (T := tys) ?_ | refine sl_nil ?_ | refine sk_seq ?_ | refine st_block ?_ | refine sk_block ?_ | refine st_ret ?_ | refine st_exit ?_ | refine st_skip ?_ | refine sk_seq_ret ?_ | refine sk_block_ret ?_ | refine sk_loop_ret ?_ | refine sk_cut_ret ?_ | refine sk_cut_exit ?_ | refine sk_seq_exit ?_ | refine sk_block_here ?_ | refine sk_block_far rfl ?_ | refine sk_loop_exit ?_ | refine st_true rfl ?_ | refine st_false rfl ?_ | refine w_i64 ?_ | refine w_u64 ?_ | refine w_u32 ?_ | refine w_cv ?_ | refine w_cv32 ?_ | refine w_shr ?_ | refine w_shl ?_ | refine w_p ?_ | refine w_no ?_ | refine w_m 0 ?_ | refine w_m 1 ?_ | refine w_m 2 ?_ | refine w_m 3 ?_ | refine w_m 4 ?_ | refine w_m 5 ?_ | refine w_m 6 ?_ | refine w_m 7 ?_ | refine w_m 8 ?_ | refine w_m 9 ?_ | refine w_m 10 ?_ | refine w_m 11 ?_ | refine w_m 12 ?_)
        exact sk_cut (E' := [(7, .int .u64 ((y * 4294967296 + x : Nat) : Int)), (6, .int .i64 (i : Int)), (13, .int .i64 (i : Int)), (12, .int .i64 (n : Int)), (0, .slice p n c), (1, .int .u64 (s : Int)), (5, .slice (some ⟨bo, 0, none⟩) n n)])
          ⟨rfl, rfl, rfl, rfl, rfl, rfl, rfl, trivial⟩ ⟨y, hby, getD_of hy, rfl, rfl, rfl⟩
      · repeat (first | refine st_seq ?_ | refine st_region (T := tys) ?_ | refine sl_nil ?_ | refine sk_seq ?_ | refine st_block ?_ | refine sk_block ?_ | refine st_ret ?_ | refine st_exit ?_ | refine st_skip ?_ | refine sk_seq_ret ?_ | refine sk_block_ret ?_ | refine sk_loop_ret ?_ | refine sk_cut_ret ?_ | refine sk_cut_exit ?_ | refine sk_seq_exit ?_ | refine sk_block_here ?_ | refine sk_block_far rfl ?_ | refine sk_loop_exit ?_ | refine st_true rfl ?_ | refine st_false rfl ?_ | refine w_i64 ?_ | refine w_u64 ?_ | refine w_u32 ?_ | refine w_cv ?_ | refine w_cv32 ?_ | refine w_shr ?_ | refine w_shl ?_ | refine w_p ?_ | refine w_no ?_ | refine w_m 0 ?_ | refine w_m 1 ?_ | refine w_m 2 ?_ | refine w_m 3 ?_ | refine w_m 4 ?_ | refine w_m 5 ?_ | refine w_m 6 ?_ | refine w_m 7 ?_ | refine w_m 8 ?_ | refine w_m 9 ?_ | refine w_m 10 ?_ | refine w_m 11 ?_ | refine w_m 12 ?_)
        refine sk_cut (E' := [(7, .int .u64 (x : Int)), (6, .int .i64 (i : Int)), (13, .int .i64 (i : Int)), (12, .int .i64 (n : Int)), (0, .slice p n c), (1, .int .u64 (s : Int)), (5, .slice (some ⟨bo, 0, none⟩) n n)])
          ⟨rfl, rfl, rfl, rfl, rfl, rfl, rfl, trivial⟩ ⟨0, by omega, ?_, by simp only [Nat.zero_mul, Nat.zero_add], rfl, rfl⟩
        rw [List.getD, List.getElem?_eq_none (by omega)]; rfl
    · rintro E U' M' ⟨y, hby, hgy, rfl, rfl, rfl⟩
      obtain ⟨g1, g2, g3⟩ := unshift_step (y := y) hww hbx hw0 hw0'
      have hlt : y * 4294967296 + x < 18446744073709551616 := by omega
      rw [getD_of hx] at he
      generalize hX : y * 4294967296 + x = X at *
      generalize hlo : y % w * w' + x / w = lo at *
      generalize hT : X / w = T at *
      repeat (first | refine st_seq ?_ | refine st_region (T := tys) ?_ | refine sl_nil ?_ | refine sk_seq ?_ | refine st_block ?_ | refine sk_block ?_ | refine st_ret ?_ | refine st_exit ?_ | refine st_skip ?_ | refine sk_seq_ret ?_ | refine sk_block_ret ?_ | refine sk_loop_ret ?_ | refine sk_cut_ret ?_ | refine sk_cut_exit ?_ | refine sk_seq_exit ?_ | refine sk_block_here ?_ | refine sk_block_far rfl ?_ | refine sk_loop_exit ?_ | refine st_true rfl ?_ | refine st_false rfl ?_ | refine w_i64 ?_ | refine w_u64 ?_ | refine w_u32 ?_ | refine w_cv ?_ | refine w_cv32 ?_ | refine w_shr ?_ | refine w_shl ?_ | refine w_p ?_ | refine w_no ?_ | refine w_m 0 ?_ | refine w_m 1 ?_ | refine w_m 2 ?_ | refine w_m 3 ?_ | refine w_m 4 ?_ | refine w_m 5 ?_ | refine w_m 6 ?_ | refine w_m 7 ?_ | refine w_m 8 ?_ | refine w_m 9 ?_ | refine w_m 10 ?_ | refine w_m 11 ?_ | refine w_m 12 ?_)
      refine sl_y (yl_shrN (k := .u64) (m := X) (n := s) rfl rfl rfl rfl rfl (by simp only [IntKind.bits]; omega) (r := T) (by rw [← hT, hw])) rfl rfl rfl rfl ?_
      repeat (first | refine st_seq ?_ | refine st_region (T := tys) ?_ | refine sl_nil ?_ | refine sk_seq ?_ | refine st_block ?_ | refine sk_block ?_ | refine st_ret ?_ | refine st_exit ?_ | refine st_skip ?_ | refine sk_seq_ret ?_ | refine sk_block_ret ?_ | refine sk_loop_ret ?_ | refine sk_cut_ret ?_ | refine sk_cut_exit ?_ | refine sk_seq_exit ?_ | refine sk_block_here ?_ | refine sk_block_far rfl ?_ | refine sk_loop_exit ?_ | refine st_true rfl ?_ | refine st_false rfl ?_ | refine w_i64 ?_ | refine w_u64 ?_ | refine w_u32 ?_ | refine w_cv ?_ | refine w_cv32 ?_ | refine w_shr ?_ | refine w_shl ?_ | refine w_p ?_ | refine w_no ?_ | refine w_m 0 ?_ | refine w_m 1 ?_ | refine w_m 2 ?_ | refine w_m 3 ?_ | refine w_m 4 ?_ | refine w_m 5 ?_ | refine w_m 6 ?_ | refine w_m 7 ?_ | refine w_m 8 ?_ | refine w_m 9 ?_ | refine w_m 10 ?_ | refine w_m 11 ?_ | refine w_m 12 ?_)
      refine sl_y (yl_indexM (j := i) sym rfl rfl rfl rfl rfl rfl (by omega)) rfl rfl rfl rfl ?_
      refine sl_storeD 0 sym rfl rfl rfl (v := lo) (by omega) rfl rfl rfl (j := i) (by omega) (by simp only [List.length_append, List.length_replicate]; omega) rfl rfl rfl ?_
      rw [set_at hr (by omega)]
      repeat (first | refine st_seq ?_ | refine st_region (T := tys) ?_ | refine sl_nil ?_ | refine sk_seq ?_ | refine st_block ?_ | refine sk_block ?_ | refine st_ret ?_ | refine st_exit ?_ | refine st_skip ?_ | refine sk_seq_ret ?_ | refine sk_block_ret ?_ | refine sk_loop_ret ?_ | refine sk_cut_ret ?_ | refine sk_cut_exit ?_ | refine sk_seq_exit ?_ | refine sk_block_here ?_ | refine sk_block_far rfl ?_ | refine sk_loop_exit ?_ | refine st_true rfl ?_ | refine st_false rfl ?_ | refine w_i64 ?_ | refine w_u64 ?_ | refine w_u32 ?_ | refine w_cv ?_ | refine w_cv32 ?_ | refine w_shr ?_ | refine w_shl ?_ | refine w_p ?_ | refine w_no ?_ | refine w_m 0 ?_ | refine w_m 1 ?_ | refine w_m 2 ?_ | refine w_m 3 ?_ | refine w_m 4 ?_ | refine w_m 5 ?_ | refine w_m 6 ?_ | refine w_m 7 ?_ | refine w_m 8 ?_ | refine w_m 9 ?_ | refine w_m 10 ?_ | refine w_m 11 ?_ | refine w_m 12 ?_)
      refine sk_again (E' := [(13, .int .i64 ((i : Int) + 1)), (12, .int .i64 (n : Int)), (0, .slice p n c), (1, .int .u64 (s : Int)), (5, .slice (some ⟨bo, 0, none⟩) n n)]) (m := n - (i + 1))
        ⟨rfl, rfl, rfl, rfl, rfl, trivial⟩ (by omega) ⟨i + 1, y % w, r ++ [lo], by omega, by simp [hr], bd_snoc hbr g2, by rw [hgy], ?_, rfl, rfl, rfl, rfl⟩
      rw [val_snoc, hr, val_take_succ hx, Nat.mul_add, Nat.pow_succ]
      rw [he] at hv
      generalize 4294967296 ^ i = pw at *
      generalize w * val r = A at *
      grind
  · have : i = n := by omega
    subst this
    repeat (first | refine st_seq ?_ | refine st_region (T := tys) ?_ | refine sl_nil ?_ | refine sk_seq ?_ | refine st_block ?_ | refine sk_block ?_ | refine st_ret ?_ | refine st_exit ?_ | refine st_skip ?_ | refine sk_seq_ret ?_ | refine sk_block_ret ?_ | refine sk_loop_ret ?_ | refine sk_cut_ret ?_ | refine sk_cut_exit ?_ | refine sk_seq_exit ?_ | refine sk_block_here ?_ | refine sk_block_far rfl ?_ | refine sk_loop_exit ?_ | refine st_true rfl ?_ | refine st_false rfl ?_ | refine w_i64 ?_ | refine w_u64 ?_ | refine w_u32 ?_ | refine w_cv ?_ | refine w_cv32 ?_ | refine w_shr ?_ | refine w_shl ?_ | refine w_p ?_ | refine w_no ?_ | refine w_m 0 ?_ | refine w_m 1 ?_ | refine w_m 2 ?_ | refine w_m 3 ?_ | refine w_m 4 ?_ | refine w_m 5 ?_ | refine w_m 6 ?_ | refine w_m 7 ?_ | refine w_m 8 ?_ | refine w_m 9 ?_ | refine w_m 10 ?_ | refine w_m 11 ?_ | refine w_m 12 ?_)
    refine sk_ret [_] sym rfl (.cons (.tmp rfl) .nil) (ULe.refl _) (List.Sublist.refl _) (.inl rfl) ?_
    rw [show List.replicate (i - i) 0 = [] by simp, List.append_nil]
    have ho := Own.row (b := bo) (n := i) (c := i) (r := r) (Nat.le_refl _) (by simp [hr]) (by omega) hbr
    rw [take_all (by omega)] at ho
    refine ⟨_, _, _, _, rfl, ho, ?_, rfl, rfl⟩
    have e0 : e = 0 := by rw [he, List.getD, List.getElem?_eq_none (by omega)]; exact Nat.zero_mod _
    rw [e0, Nat.mul_zero, Nat.add_zero, take_all (by omega)] at hv
    rw [← hv, ← hw, Nat.mul_add_div hw0, Nat.div_eq_of_lt (Nat.mod_lt _ hw0), Nat.add_zero]

end Go.Proofs.Ytcakainebimmdaa
