/- Walks of bigint, 4: differences and products of digits. -/
import Derived.Test.YtcakainebimmdaaB3
namespace Go.Proofs.Ytcakainebimmdaa
open Go.Hp
variable {G : World} {U : UH} {M : MH}

theorem less_ct {p p' : Option Addr} {n c n' c' : Nat} {a b : List Nat} (ha : Dig U M p n c a) (hb : Dig U M p' n' c' b) (hn : n ≤ 1099511627776) (hle : n' ≤ n) (hval : val b ≤ val a) :
    Ct Try.prog 72 [.slice p n c, .slice p' n' c'] G U M fun v U' D => ∃ q k cc l, v = .slice q k cc ∧ Own D q k cc l ∧ val l = val a - val b ∧ k = n ∧ U = U' := by
  have hl1 := ha.len
  have hl2 := hb.len
  have h3 := ha.capm
  have h4 := ha.cap
  have h6 := hb.cap; have h7 := hb.capm
  refine ct_of_st Try.func72 rfl rfl rfl rfl ?_
  repeat (first | refine st_seq ?_ | refine st_region (T := tys) ?_ | refine sl_nil ?_ | refine sk_seq ?_ | refine st_block ?_ | refine sk_block ?_ | refine st_ret ?_ | refine st_exit ?_ | refine st_skip ?_ | refine sk_seq_ret ?_ | refine sk_block_ret ?_ | refine sk_loop_ret ?_ | refine sk_cut_ret ?_ | refine sk_cut_exit ?_ | refine sk_seq_exit ?_ | refine sk_block_here ?_ | refine sk_block_far rfl ?_ | refine sk_loop_exit ?_ | refine st_true rfl ?_ | refine st_false rfl ?_ | refine w_i64 ?_ | refine w_u64 ?_ | refine w_u32 ?_ | refine w_cv ?_ | refine w_cv32 ?_ | refine w_shr ?_ | refine w_shl ?_ | refine w_p ?_ | refine w_no ?_ | refine w_m 0 ?_ | refine w_m 1 ?_ | refine w_m 2 ?_ | refine w_m 3 ?_ | refine w_m 4 ?_ | refine w_m 5 ?_ | refine w_m 6 ?_ | refine w_m 7 ?_ | refine w_m 8 ?_ | refine w_m 9 ?_ | refine w_m 10 ?_ | refine w_m 11 ?_ | refine w_m 12 ?_)
  refine sl_make (m := n) (n := n) sym rfl rfl rfl rfl rfl rfl rfl rfl rfl (Nat.le_refl _) (by omega) (by omega) rfl rfl rfl rfl (fun bo => ?_)
  rw [dg_rep]
  repeat (first | refine st_seq ?_ | refine st_region (T := tys) ?_ | refine sl_nil ?_ | refine sk_seq ?_ | refine st_block ?_ | refine sk_block ?_ | refine st_ret ?_ | refine st_exit ?_ | refine st_skip ?_ | refine sk_seq_ret ?_ | refine sk_block_ret ?_ | refine sk_loop_ret ?_ | refine sk_cut_ret ?_ | refine sk_cut_exit ?_ | refine sk_seq_exit ?_ | refine sk_block_here ?_ | refine sk_block_far rfl ?_ | refine sk_loop_exit ?_ | refine st_true rfl ?_ | refine st_false rfl ?_ | refine w_i64 ?_ | refine w_u64 ?_ | refine w_u32 ?_ | refine w_cv ?_ | refine w_cv32 ?_ | refine w_shr ?_ | refine w_shl ?_ | refine w_p ?_ | refine w_no ?_ | refine w_m 0 ?_ | refine w_m 1 ?_ | refine w_m 2 ?_ | refine w_m 3 ?_ | refine w_m 4 ?_ | refine w_m 5 ?_ | refine w_m 6 ?_ | refine w_m 7 ?_ | refine w_m 8 ?_ | refine w_m 9 ?_ | refine w_m 10 ?_ | refine w_m 11 ?_ | refine w_m 12 ?_)
  refine st_loop (fun m E U' M' => ∃ (i cy : Nat) (r : List Nat), i ≤ n ∧ cy ≤ 1 ∧ r.length = i ∧ Bd r ∧ val r + val (b.take i) = val (a.take i) + 4294967296 ^ i * cy ∧
      E = [(15, .int .i64 (i : Int)), (14, .int .i64 (n : Int)), (13, .slice p n c), (0, .slice p n c), (1, .slice p' n' c'), (5, .slice (some ⟨bo, 0, none⟩) n n), (6, .int .u32 (cy : Int))] ∧
      U = U' ∧ M' = (bo, .arr ((r ++ List.replicate (n - i) 0).map dg), TU32) :: M ∧ m = n - i) (n0 := n)
    (E0 := [(15, .int .i64 ((0 : Nat) : Int)), (14, .int .i64 (n : Int)), (13, .slice p n c), (0, .slice p n c), (1, .slice p' n' c'), (5, .slice (some ⟨bo, 0, none⟩) n n), (6, .int .u32 ((0 : Nat) : Int))])
    ⟨rfl, rfl, rfl, rfl, rfl, rfl, rfl, trivial⟩ ⟨0, 0, [], by omega, by omega, rfl, (by intro d hd; cases hd), by simp [val], rfl, rfl, rfl, rfl⟩ ?_
  rintro m E U' M' ⟨i, cy, r, hi, hcy, hr, hbr, hv, rfl, rfl, rfl, rfl⟩
  repeat (first | refine st_seq ?_ | refine st_region (T := tys) ?_ | refine sl_nil ?_ | refine sk_seq ?_ | refine st_block ?_ | refine sk_block ?_ | refine st_ret ?_ | refine st_exit ?_ | refine st_skip ?_ | refine sk_seq_ret ?_ | refine sk_block_ret ?_ | refine sk_loop_ret ?_ | refine sk_cut_ret ?_ | refine sk_cut_exit ?_ | refine sk_seq_exit ?_ | refine sk_block_here ?_ | refine sk_block_far rfl ?_ | refine sk_loop_exit ?_ | refine st_true rfl ?_ | refine st_false rfl ?_ | refine w_i64 ?_ | refine w_u64 ?_ | refine w_u32 ?_ | refine w_cv ?_ | refine w_cv32 ?_ | refine w_shr ?_ | refine w_shl ?_ | refine w_p ?_ | refine w_no ?_ | refine w_m 0 ?_ | refine w_m 1 ?_ | refine w_m 2 ?_ | refine w_m 3 ?_ | refine w_m 4 ?_ | refine w_m 5 ?_ | refine w_m 6 ?_ | refine w_m 7 ?_ | refine w_m 8 ?_ | refine w_m 9 ?_ | refine w_m 10 ?_ | refine w_m 11 ?_ | refine w_m 12 ?_)
  refine st_dec rfl (fun h5 => ?_) (fun h5 => ?_)
  · obtain ⟨x, hx, hbx, hp1, hcx⟩ := ha.get (k := i) (by omega)
    replace hcx := fun G w hw => hcx G w (Mem.anti (M' := (bo, .arr ((r ++ List.replicate (n - i) 0).map dg), TU32) :: M) hw (ULe.refl _) (List.sublist_cons_self ..))
    repeat (first | refine st_seq ?_ | refine st_region (T := tys) ?_ | refine sl_nil ?_ | refine sk_seq ?_ | refine st_block ?_ | refine sk_block ?_ | refine st_ret ?_ | refine st_exit ?_ | refine st_skip ?_ | refine sk_seq_ret ?_ | refine sk_block_ret ?_ | refine sk_loop_ret ?_ | refine sk_cut_ret ?_ | refine sk_cut_exit ?_ | refine sk_seq_exit ?_ | refine sk_block_here ?_ | refine sk_block_far rfl ?_ | refine sk_loop_exit ?_ | refine st_true rfl ?_ | refine st_false rfl ?_ | refine w_i64 ?_ | refine w_u64 ?_ | refine w_u32 ?_ | refine w_cv ?_ | refine w_cv32 ?_ | refine w_shr ?_ | refine w_shl ?_ | refine w_p ?_ | refine w_no ?_ | refine w_m 0 ?_ | refine w_m 1 ?_ | refine w_m 2 ?_ | refine w_m 3 ?_ | refine w_m 4 ?_ | refine w_m 5 ?_ | refine w_m 6 ?_ | refine w_m 7 ?_ | refine w_m 8 ?_ | refine w_m 9 ?_ | refine w_m 10 ?_ | refine w_m 11 ?_ | refine w_m 12 ?_)
    refine sl_y (yl_index1 sym rfl rfl rfl rfl rfl rfl (by omega) hp1) rfl rfl rfl rfl ?_; refine sl_y (yl_loadD sym rfl rfl rfl rfl hcx) rfl rfl rfl rfl ?_
    repeat (first | refine st_region (T := tys) ?_ | refine sl_nil ?_ | refine sk_seq ?_ | refine sk_block ?_ | refine st_ret ?_ | refine st_exit ?_ | refine st_skip ?_ | refine sk_seq_ret ?_ | refine sk_block_ret ?_ | refine sk_loop_ret ?_ | refine sk_cut_ret ?_ | refine sk_cut_exit ?_ | refine sk_seq_exit ?_ | refine sk_block_here ?_ | refine sk_block_far rfl ?_ | refine sk_loop_exit ?_ | refine st_true rfl ?_ | refine st_false rfl ?_ | refine w_i64 ?_ | refine w_u64 ?_ | refine w_u32 ?_ | refine w_cv ?_ | refine w_cv32 ?_ | refine w_shr ?_ | refine w_shl ?_ | refine w_p ?_ | refine w_no ?_ | refine w_m 0 ?_ | refine w_m 1 ?_ | refine w_m 2 ?_ | refine w_m 3 ?_ | refine w_m 4 ?_ | refine w_m 5 ?_ | refine w_m 6 ?_ | refine w_m 7 ?_ | refine w_m 8 ?_ | refine w_m 9 ?_ | refine w_m 10 ?_ | refine w_m 11 ?_ | refine w_m 12 ?_)
    refine st_seq ?_
    repeat (first | refine st_region (T := tys) ?_ | refine sl_nil ?_ | refine sk_seq ?_ | refine sk_block ?_ | refine st_ret ?_ | refine st_exit ?_ | refine st_skip ?_ | refine sk_seq_ret ?_ | refine sk_block_ret ?_ | refine sk_loop_ret ?_ | refine sk_cut_ret ?_ | refine sk_cut_exit ?_ | refine sk_seq_exit ?_ | refine sk_block_here ?_ | refine sk_block_far rfl ?_ | refine sk_loop_exit ?_ | refine st_true rfl ?_ | refine st_false rfl ?_ | refine w_i64 ?_ | refine w_u64 ?_ | refine w_u32 ?_ | refine w_cv ?_ | refine w_cv32 ?_ | refine w_shr ?_ | refine w_shl ?_ | refine w_p ?_ | refine w_no ?_ | refine w_m 0 ?_ | refine w_m 1 ?_ | refine w_m 2 ?_ | refine w_m 3 ?_ | refine w_m 4 ?_ | refine w_m 5 ?_ | refine w_m 6 ?_ | refine w_m 7 ?_ | refine w_m 8 ?_ | refine w_m 9 ?_ | refine w_m 10 ?_ | refine w_m 11 ?_ | refine w_m 12 ?_)
    refine st_seq_cut (fun E U' M' => ∃ y : Nat, y < 4294967296 ∧ val (b.take (i + 1)) = val (b.take i) + 4294967296 ^ i * y ∧
      E = [(9, .int .u32 (y : Int)), (8, .int .u32 (x : Int)), (7, .int .i64 (i : Int)), (15, .int .i64 (i : Int)), (14, .int .i64 (n : Int)), (13, .slice p n c), (0, .slice p n c), (1, .slice p' n' c'), (5, .slice (some ⟨bo, 0, none⟩) n n), (6, .int .u32 (cy : Int))] ∧
      U = U' ∧ M' = (bo, .arr ((r ++ List.replicate (n - i) 0).map dg), TU32) :: M) ?_ ?_
    · repeat (first | refine st_seq ?_ | refine st_region (T := tys) ?_ | refine sl_nil ?_ | refine sk_seq ?_ | refine st_block ?_ | refine sk_block ?_ | refine st_ret ?_ | refine st_exit ?_ | refine st_skip ?_ | refine sk_seq_ret ?_ | refine sk_block_ret ?_ | refine sk_loop_ret ?_ | refine sk_cut_ret ?_ | refine sk_cut_exit ?_ | refine sk_seq_exit ?_ | refine sk_block_here ?_ | refine sk_block_far rfl ?_ | refine sk_loop_exit ?_ | refine st_true rfl ?_ | refine st_false rfl ?_ | refine w_i64 ?_ | refine w_u64 ?_ | refine w_u32 ?_ | refine w_cv ?_ | refine w_cv32 ?_ | refine w_shr ?_ | refine w_shl ?_ | refine w_p ?_ | refine w_no ?_ | refine w_m 0 ?_ | refine w_m 1 ?_ | refine w_m 2 ?_ | refine w_m 3 ?_ | refine w_m 4 ?_ | refine w_m 5 ?_ | refine w_m 6 ?_ | refine w_m 7 ?_ | refine w_m 8 ?_ | refine w_m 9 ?_ | refine w_m 10 ?_ | refine w_m 11 ?_ | refine w_m 12 ?_)
      refine st_dec rfl (fun h8 => ?_) (fun h8 => ?_)
      · obtain ⟨y, hy, hby, hp2, hcy'⟩ := hb.get (k := i) (by omega)
        replace hcy' := fun G w hw => hcy' G w (Mem.anti (M' := (bo, .arr ((r ++ List.replicate (n - i) 0).map dg), TU32) :: M) hw (ULe.refl _) (List.sublist_cons_self ..))
        repeat (first | refine st_seq ?_ | refine st_region (T := tys) ?_ | refine sl_nil ?_ | refine sk_seq ?_ | refine st_block ?_ | refine sk_block ?_ | refine st_ret ?_ | refine st_exit ?_ | refine st_skip ?_ | refine sk_seq_ret ?_ | refine sk_block_ret ?_ | refine sk_loop_ret ?_ | refine sk_cut_ret ?_ | refine sk_cut_exit ?_ | refine sk_seq_exit ?_ | refine sk_block_here ?_ | refine sk_block_far rfl ?_ | refine sk_loop_exit ?_ | refine st_true rfl ?_ | refine st_false rfl ?_ | refine w_i64 ?_ | refine w_u64 ?_ | refine w_u32 ?_ | refine w_cv ?_ | refine w_cv32 ?_ | refine w_shr ?_ | refine w_shl ?_ | refine w_p ?_ | refine w_no ?_ | refine w_m 0 ?_ | refine w_m 1 ?_ | refine w_m 2 ?_ | refine w_m 3 ?_ | refine w_m 4 ?_ | refine w_m 5 ?_ | refine w_m 6 ?_ | refine w_m 7 ?_ | refine w_m 8 ?_ | refine w_m 9 ?_ | refine w_m 10 ?_ | refine w_m 11 ?_ | refine w_m 12 ?_)
        refine sl_y (yl_index1 sym rfl rfl rfl rfl rfl rfl (by omega) hp2) rfl rfl rfl rfl ?_; refine sl_y (yl_loadD sym rfl rfl rfl rfl hcy') rfl rfl rfl rfl ?_
        repeat (first | refine st_seq ?_ | refine st_region (T := tys) ?_ | refine sl_nil ?_ | refine sk_seq ?_ | refine st_block ?_ | refine sk_block ?_ | refine st_ret ?_ | refine st_exit ?_ | refine st_skip ?_ | refine sk_seq_ret ?_ | refine sk_block_ret ?_ | refine sk_loop_ret ?_ | refine sk_cut_ret ?_ | refine sk_cut_exit ?_ | refine sk_seq_exit ?_ | refine sk_block_here ?_ | refine sk_block_far rfl ?_ | refine sk_loop_exit ?_ | refine st_true rfl ?_ | refine st_false rfl ?_ | refine w_i64 ?_ | refine w_u64 ?_ | refine w_u32 ?_ | refine w_cv ?_ | refine w_cv32 ?_ | refine w_shr ?_ | refine w_shl ?_ | refine w_p ?_ | refine w_no ?_ | refine w_m 0 ?_ | refine w_m 1 ?_ | refine w_m 2 ?_ | refine w_m 3 ?_ | refine w_m 4 ?_ | refine w_m 5 ?_ | refine w_m 6 ?_ | refine w_m 7 ?_ | refine w_m 8 ?_ | refine w_m 9 ?_ | refine w_m 10 ?_ | refine w_m 11 ?_ | refine w_m 12 ?_)
        exact sk_cut (E' := [(9, .int .u32 (y : Int)), (8, .int .u32 (x : Int)), (7, .int .i64 (i : Int)), (15, .int .i64 (i : Int)), (14, .int .i64 (n : Int)), (13, .slice p n c), (0, .slice p n c), (1, .slice p' n' c'), (5, .slice (some ⟨bo, 0, none⟩) n n), (6, .int .u32 (cy : Int))])
          ⟨rfl, rfl, rfl, rfl, rfl, rfl, rfl, rfl, rfl, rfl, trivial⟩ ⟨y, hby, val_take_succ hy, rfl, rfl, rfl⟩
      · repeat (first | refine st_seq ?_ | refine st_region (T := tys) ?_ | refine sl_nil ?_ | refine sk_seq ?_ | refine st_block ?_ | refine sk_block ?_ | refine st_ret ?_ | refine st_exit ?_ | refine st_skip ?_ | refine sk_seq_ret ?_ | refine sk_block_ret ?_ | refine sk_loop_ret ?_ | refine sk_cut_ret ?_ | refine sk_cut_exit ?_ | refine sk_seq_exit ?_ | refine sk_block_here ?_ | refine sk_block_far rfl ?_ | refine sk_loop_exit ?_ | refine st_true rfl ?_ | refine st_false rfl ?_ | refine w_i64 ?_ | refine w_u64 ?_ | refine w_u32 ?_ | refine w_cv ?_ | refine w_cv32 ?_ | refine w_shr ?_ | refine w_shl ?_ | refine w_p ?_ | refine w_no ?_ | refine w_m 0 ?_ | refine w_m 1 ?_ | refine w_m 2 ?_ | refine w_m 3 ?_ | refine w_m 4 ?_ | refine w_m 5 ?_ | refine w_m 6 ?_ | refine w_m 7 ?_ | refine w_m 8 ?_ | refine w_m 9 ?_ | refine w_m 10 ?_ | refine w_m 11 ?_ | refine w_m 12 ?_)
        exact sk_cut (E' := [(9, .int .u32 ((0 : Nat) : Int)), (8, .int .u32 (x : Int)), (7, .int .i64 (i : Int)), (15, .int .i64 (i : Int)), (14, .int .i64 (n : Int)), (13, .slice p n c), (0, .slice p n c), (1, .slice p' n' c'), (5, .slice (some ⟨bo, 0, none⟩) n n), (6, .int .u32 (cy : Int))])
          ⟨rfl, rfl, rfl, rfl, rfl, rfl, rfl, rfl, rfl, rfl, trivial⟩ ⟨0, by omega, take_more (by omega), rfl, rfl, rfl⟩
    · rintro E U' M' ⟨y, hby, hvy, rfl, rfl, rfl⟩
      repeat (first | refine st_seq ?_ | refine st_region (T := tys) ?_ | refine sl_nil ?_ | refine sk_seq ?_ | refine st_block ?_ | refine sk_block ?_ | refine st_ret ?_ | refine st_exit ?_ | refine st_skip ?_ | refine sk_seq_ret ?_ | refine sk_block_ret ?_ | refine sk_loop_ret ?_ | refine sk_cut_ret ?_ | refine sk_cut_exit ?_ | refine sk_seq_exit ?_ | refine sk_block_here ?_ | refine sk_block_far rfl ?_ | refine sk_loop_exit ?_ | refine st_true rfl ?_ | refine st_false rfl ?_ | refine w_i64 ?_ | refine w_u64 ?_ | refine w_u32 ?_ | refine w_cv ?_ | refine w_cv32 ?_ | refine w_shr ?_ | refine w_shl ?_ | refine w_p ?_ | refine w_no ?_ | refine w_m 0 ?_ | refine w_m 1 ?_ | refine w_m 2 ?_ | refine w_m 3 ?_ | refine w_m 4 ?_ | refine w_m 5 ?_ | refine w_m 6 ?_ | refine w_m 7 ?_ | refine w_m 8 ?_ | refine w_m 9 ?_ | refine w_m 10 ?_ | refine w_m 11 ?_ | refine w_m 12 ?_)
      refine sl_call rfl rfl rfl rfl rfl rfl (fun _ => Sub32_ct hbx hby (by omega)) ?_
      rintro v U' D hU ⟨rfl, rfl, rfl⟩
      repeat (first | refine st_seq ?_ | refine st_region (T := tys) ?_ | refine sl_nil ?_ | refine sk_seq ?_ | refine st_block ?_ | refine sk_block ?_ | refine st_ret ?_ | refine st_exit ?_ | refine st_skip ?_ | refine sk_seq_ret ?_ | refine sk_block_ret ?_ | refine sk_loop_ret ?_ | refine sk_cut_ret ?_ | refine sk_cut_exit ?_ | refine sk_seq_exit ?_ | refine sk_block_here ?_ | refine sk_block_far rfl ?_ | refine sk_loop_exit ?_ | refine st_true rfl ?_ | refine st_false rfl ?_ | refine w_i64 ?_ | refine w_u64 ?_ | refine w_u32 ?_ | refine w_cv ?_ | refine w_cv32 ?_ | refine w_shr ?_ | refine w_shl ?_ | refine w_p ?_ | refine w_no ?_ | refine w_m 0 ?_ | refine w_m 1 ?_ | refine w_m 2 ?_ | refine w_m 3 ?_ | refine w_m 4 ?_ | refine w_m 5 ?_ | refine w_m 6 ?_ | refine w_m 7 ?_ | refine w_m 8 ?_ | refine w_m 9 ?_ | refine w_m 10 ?_ | refine w_m 11 ?_ | refine w_m 12 ?_)
      refine sl_y (yl_indexM (j := i) sym rfl rfl rfl rfl rfl rfl (by omega)) rfl rfl rfl rfl ?_
      refine sl_storeD 0 sym rfl rfl rfl rfl rfl rfl rfl (j := i) (by omega) (by simp only [List.length_append, List.length_replicate]; omega) rfl rfl rfl ?_
      rw [set_at hr (by omega)]
      repeat (first | refine st_seq ?_ | refine st_region (T := tys) ?_ | refine sl_nil ?_ | refine sk_seq ?_ | refine st_block ?_ | refine sk_block ?_ | refine st_ret ?_ | refine st_exit ?_ | refine st_skip ?_ | refine sk_seq_ret ?_ | refine sk_block_ret ?_ | refine sk_loop_ret ?_ | refine sk_cut_ret ?_ | refine sk_cut_exit ?_ | refine sk_seq_exit ?_ | refine sk_block_here ?_ | refine sk_block_far rfl ?_ | refine sk_loop_exit ?_ | refine st_true rfl ?_ | refine st_false rfl ?_ | refine w_i64 ?_ | refine w_u64 ?_ | refine w_u32 ?_ | refine w_cv ?_ | refine w_cv32 ?_ | refine w_shr ?_ | refine w_shl ?_ | refine w_p ?_ | refine w_no ?_ | refine w_m 0 ?_ | refine w_m 1 ?_ | refine w_m 2 ?_ | refine w_m 3 ?_ | refine w_m 4 ?_ | refine w_m 5 ?_ | refine w_m 6 ?_ | refine w_m 7 ?_ | refine w_m 8 ?_ | refine w_m 9 ?_ | refine w_m 10 ?_ | refine w_m 11 ?_ | refine w_m 12 ?_)
      refine sk_again (E' := [(15, .int .i64 ((i : Int) + 1)), (14, .int .i64 (n : Int)), (13, .slice p n c), (0, .slice p n c), (1, .slice p' n' c'), (5, .slice (some ⟨bo, 0, none⟩) n n), (6, .int .u32 (((if x < y + cy then 1 else 0 : Nat)) : Int))]) (m := n - (i + 1))
        ⟨rfl, rfl, rfl, rfl, rfl, rfl, rfl, trivial⟩ (by omega) ⟨i + 1, (if x < y + cy then 1 else 0), r ++ [(x + 8589934592 - y - cy) % 4294967296], by omega, by split <;> omega, by simp [hr], bd_snoc hbr (Nat.mod_lt _ (by omega)), ?_, rfl, rfl, rfl, rfl⟩
      rw [val_snoc, hr, val_take_succ hx, hvy, Nat.pow_succ]
      have e : (x + 8589934592 - y - cy) % 4294967296 + y + cy = x + 4294967296 * (if x < y + cy then 1 else 0) := by split <;> omega
      generalize (x + 8589934592 - y - cy) % 4294967296 = s at *
      generalize (if x < y + cy then 1 else 0) = q at *
      generalize 4294967296 ^ i = pw at *
      grind
  · have : i = n := by omega
    subst this
    repeat (first | refine st_seq ?_ | refine st_region (T := tys) ?_ | refine sl_nil ?_ | refine sk_seq ?_ | refine st_block ?_ | refine sk_block ?_ | refine st_ret ?_ | refine st_exit ?_ | refine st_skip ?_ | refine sk_seq_ret ?_ | refine sk_block_ret ?_ | refine sk_loop_ret ?_ | refine sk_cut_ret ?_ | refine sk_cut_exit ?_ | refine sk_seq_exit ?_ | refine sk_block_here ?_ | refine sk_block_far rfl ?_ | refine sk_loop_exit ?_ | refine st_true rfl ?_ | refine st_false rfl ?_ | refine w_i64 ?_ | refine w_u64 ?_ | refine w_u32 ?_ | refine w_cv ?_ | refine w_cv32 ?_ | refine w_shr ?_ | refine w_shl ?_ | refine w_p ?_ | refine w_no ?_ | refine w_m 0 ?_ | refine w_m 1 ?_ | refine w_m 2 ?_ | refine w_m 3 ?_ | refine w_m 4 ?_ | refine w_m 5 ?_ | refine w_m 6 ?_ | refine w_m 7 ?_ | refine w_m 8 ?_ | refine w_m 9 ?_ | refine w_m 10 ?_ | refine w_m 11 ?_ | refine w_m 12 ?_)
    refine sk_ret [_] sym rfl (.cons (.tmp rfl) .nil) (ULe.refl _) (List.Sublist.refl _) (.inl rfl) ?_
    have ho := Own.row (b := bo) (n := i) (c := i) (r := r ++ List.replicate (i - i) 0) (Nat.le_refl _) (by simp [hr]) (by omega) (bd_app hbr (bd_rep _))
    rw [take_all (by simp [hr])] at ho
    refine ⟨_, _, _, _, rfl, ho, ?_, rfl, rfl⟩
    rw [val_app_rep]
    rw [take_all (by omega), take_all (by omega)] at hv
    have h8 := val_lt hbr
    rw [hr] at h8
    have h9 : cy = 0 := by
      rcases Nat.eq_zero_or_pos cy with h | h
      · exact h
      · have : cy = 1 := by omega
        subst this
        generalize 4294967296 ^ i = pw at *
        omega
    subst h9
    omega

theorem set_mid {A R : List Nat} {x v k : Nat} (h : A.length = k) : (A ++ x :: R).set k v = (A ++ [v]) ++ R := by
  rw [← h, List.set_append_right _ _ (Nat.le_refl _), Nat.sub_self, List.set_cons_zero, List.append_assoc]; rfl
theorem mul_bound {x y : Nat} (hx : x < 4294967296) (hy : y < 4294967296) : x * y ≤ 18446744065119617025 := by
  have := Nat.mul_le_mul (show x ≤ 4294967295 by omega) (show y ≤ 4294967295 by omega)
  omega


end Go.Proofs.Ytcakainebimmdaa
