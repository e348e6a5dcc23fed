/- Walks of bigint, 6: division by one digit, shifts. -/
import Derived.Test.YtcakainebimmdaaB5
namespace Go.Proofs.Ytcakainebimmdaa
open Go.Hp
variable {G : World} {U : UH} {M : MH}

theorem Div32_ct {hi lo y : Nat} (hlo : lo < 4294967296) (hy : y < 4294967296) (hlt : hi < y) :
    Ct Try.prog 86 [.int .u32 (hi : Int), .int .u32 (lo : Int), .int .u32 (y : Int)] G U M fun v U' D => v = .tuple #[.int .u32 (((hi * 4294967296 + lo) / y : Nat) : Int), .int .u32 (((hi * 4294967296 + lo) % y : Nat) : Int)] ∧ U = U' ∧ D = [] := by
  have hq : (hi * 4294967296 + lo) / y < 4294967296 := Nat.div_lt_of_lt_mul (by
    have : (hi + 1) * 4294967296 ≤ y * 4294967296 := Nat.mul_le_mul_right _ hlt
    omega)
  have hr : (hi * 4294967296 + lo) % y < y := Nat.mod_lt _ (by omega)
  generalize hQ : (hi * 4294967296 + lo) / y = Q at *
  generalize hR : (hi * 4294967296 + lo) % y = R at *
  refine ct_of_st Try.func86 rfl rfl rfl rfl ?_
  repeat (first | refine st_seq ?_ | refine st_region (T := tys) ?_ | refine sl_nil ?_ | refine sk_seq ?_ | refine st_block ?_ | refine sk_block ?_ | refine st_ret ?_ | refine st_exit ?_ | refine st_skip ?_ | refine sk_seq_ret ?_ | refine sk_block_ret ?_ | refine sk_loop_ret ?_ | refine sk_cut_ret ?_ | refine sk_cut_exit ?_ | refine sk_seq_exit ?_ | refine sk_block_here ?_ | refine sk_block_far rfl ?_ | refine sk_loop_exit ?_ | refine st_true rfl ?_ | refine st_false rfl ?_ | refine w_i64 ?_ | refine w_u64 ?_ | refine w_u32 ?_ | refine w_cv ?_ | refine w_cv32 ?_ | refine w_shr ?_ | refine w_shl ?_ | refine w_p ?_ | refine w_no ?_ | refine w_m 0 ?_ | refine w_m 1 ?_ | refine w_m 2 ?_ | refine w_m 3 ?_ | refine w_m 4 ?_ | refine w_m 5 ?_ | refine w_m 6 ?_ | refine w_m 7 ?_ | refine w_m 8 ?_ | refine w_m 9 ?_ | refine w_m 10 ?_ | refine w_m 11 ?_ | refine w_m 12 ?_)
  refine sl_gdec rfl rfl (fun h0 => ?_) (fun h0 => absurd (show ((y : Int) ≠ 0) by omega) h0)
  repeat (first | refine st_seq ?_ | refine st_region (T := tys) ?_ | refine sl_nil ?_ | refine sk_seq ?_ | refine st_block ?_ | refine sk_block ?_ | refine st_ret ?_ | refine st_exit ?_ | refine st_skip ?_ | refine sk_seq_ret ?_ | refine sk_block_ret ?_ | refine sk_loop_ret ?_ | refine sk_cut_ret ?_ | refine sk_cut_exit ?_ | refine sk_seq_exit ?_ | refine sk_block_here ?_ | refine sk_block_far rfl ?_ | refine sk_loop_exit ?_ | refine st_true rfl ?_ | refine st_false rfl ?_ | refine w_i64 ?_ | refine w_u64 ?_ | refine w_u32 ?_ | refine w_cv ?_ | refine w_cv32 ?_ | refine w_shr ?_ | refine w_shl ?_ | refine w_p ?_ | refine w_no ?_ | refine w_m 0 ?_ | refine w_m 1 ?_ | refine w_m 2 ?_ | refine w_m 3 ?_ | refine w_m 4 ?_ | refine w_m 5 ?_ | refine w_m 6 ?_ | refine w_m 7 ?_ | refine w_m 8 ?_ | refine w_m 9 ?_ | refine w_m 10 ?_ | refine w_m 11 ?_ | refine w_m 12 ?_)
  refine st_dec rfl (fun h1 => ?_) (fun h1 => ?_)
  · exfalso; omega
  repeat (first | refine st_seq ?_ | refine st_region (T := tys) ?_ | refine sl_nil ?_ | refine sk_seq ?_ | refine st_block ?_ | refine sk_block ?_ | refine st_ret ?_ | refine st_exit ?_ | refine st_skip ?_ | refine sk_seq_ret ?_ | refine sk_block_ret ?_ | refine sk_loop_ret ?_ | refine sk_cut_ret ?_ | refine sk_cut_exit ?_ | refine sk_seq_exit ?_ | refine sk_block_here ?_ | refine sk_block_far rfl ?_ | refine sk_loop_exit ?_ | refine st_true rfl ?_ | refine st_false rfl ?_ | refine w_i64 ?_ | refine w_u64 ?_ | refine w_u32 ?_ | refine w_cv ?_ | refine w_cv32 ?_ | refine w_shr ?_ | refine w_shl ?_ | refine w_p ?_ | refine w_no ?_ | refine w_m 0 ?_ | refine w_m 1 ?_ | refine w_m 2 ?_ | refine w_m 3 ?_ | refine w_m 4 ?_ | refine w_m 5 ?_ | refine w_m 6 ?_ | refine w_m 7 ?_ | refine w_m 8 ?_ | refine w_m 9 ?_ | refine w_m 10 ?_ | refine w_m 11 ?_ | refine w_m 12 ?_)
  refine sl_y (yl_or32 (m := hi) (n := lo) rfl rfl rfl (by rw [wrap_u64]; omega) rfl (by omega) hlo) rfl rfl rfl rfl ?_
  repeat (first | refine st_seq ?_ | refine st_region (T := tys) ?_ | refine sl_nil ?_ | refine sk_seq ?_ | refine st_block ?_ | refine sk_block ?_ | refine st_ret ?_ | refine st_exit ?_ | refine st_skip ?_ | refine sk_seq_ret ?_ | refine sk_block_ret ?_ | refine sk_loop_ret ?_ | refine sk_cut_ret ?_ | refine sk_cut_exit ?_ | refine sk_seq_exit ?_ | refine sk_block_here ?_ | refine sk_block_far rfl ?_ | refine sk_loop_exit ?_ | refine st_true rfl ?_ | refine st_false rfl ?_ | refine w_i64 ?_ | refine w_u64 ?_ | refine w_u32 ?_ | refine w_cv ?_ | refine w_cv32 ?_ | refine w_shr ?_ | refine w_shl ?_ | refine w_p ?_ | refine w_no ?_ | refine w_m 0 ?_ | refine w_m 1 ?_ | refine w_m 2 ?_ | refine w_m 3 ?_ | refine w_m 4 ?_ | refine w_m 5 ?_ | refine w_m 6 ?_ | refine w_m 7 ?_ | refine w_m 8 ?_ | refine w_m 9 ?_ | refine w_m 10 ?_ | refine w_m 11 ?_ | refine w_m 12 ?_)
  refine st_draw [0, 1, 2, 3, 4, 5, 6, 7, 8, 9, 10, 11] sym (by kernel_rfl) ?_
  repeat (first | refine st_seq ?_ | refine st_region (T := tys) ?_ | refine sl_nil ?_ | refine sk_seq ?_ | refine st_block ?_ | refine sk_block ?_ | refine st_ret ?_ | refine st_exit ?_ | refine st_skip ?_ | refine sk_seq_ret ?_ | refine sk_block_ret ?_ | refine sk_loop_ret ?_ | refine sk_cut_ret ?_ | refine sk_cut_exit ?_ | refine sk_seq_exit ?_ | refine sk_block_here ?_ | refine sk_block_far rfl ?_ | refine sk_loop_exit ?_ | refine st_true rfl ?_ | refine st_false rfl ?_ | refine w_i64 ?_ | refine w_u64 ?_ | refine w_u32 ?_ | refine w_cv ?_ | refine w_cv32 ?_ | refine w_shr ?_ | refine w_shl ?_ | refine w_p ?_ | refine w_no ?_ | refine w_m 0 ?_ | refine w_m 1 ?_ | refine w_m 2 ?_ | refine w_m 3 ?_ | refine w_m 4 ?_ | refine w_m 5 ?_ | refine w_m 6 ?_ | refine w_m 7 ?_ | refine w_m 8 ?_ | refine w_m 9 ?_ | refine w_m 10 ?_ | refine w_m 11 ?_ | refine w_m 12 ?_)
  refine sl_y (yl_quoN (m := hi * 4294967296 + lo) (n := y) rfl rfl rfl rfl rfl (by simp only [kmax]; omega) (by omega) hQ) rfl rfl rfl rfl ?_
  repeat (first | refine st_seq ?_ | refine st_region (T := tys) ?_ | refine sl_nil ?_ | refine sk_seq ?_ | refine st_block ?_ | refine sk_block ?_ | refine st_ret ?_ | refine st_exit ?_ | refine st_skip ?_ | refine sk_seq_ret ?_ | refine sk_block_ret ?_ | refine sk_loop_ret ?_ | refine sk_cut_ret ?_ | refine sk_cut_exit ?_ | refine sk_seq_exit ?_ | refine sk_block_here ?_ | refine sk_block_far rfl ?_ | refine sk_loop_exit ?_ | refine st_true rfl ?_ | refine st_false rfl ?_ | refine w_i64 ?_ | refine w_u64 ?_ | refine w_u32 ?_ | refine w_cv ?_ | refine w_cv32 ?_ | refine w_shr ?_ | refine w_shl ?_ | refine w_p ?_ | refine w_no ?_ | refine w_m 0 ?_ | refine w_m 1 ?_ | refine w_m 2 ?_ | refine w_m 3 ?_ | refine w_m 4 ?_ | refine w_m 5 ?_ | refine w_m 6 ?_ | refine w_m 7 ?_ | refine w_m 8 ?_ | refine w_m 9 ?_ | refine w_m 10 ?_ | refine w_m 11 ?_ | refine w_m 12 ?_)
  refine sl_y (yl_remN (m := hi * 4294967296 + lo) (n := y) rfl rfl rfl rfl rfl (by simp only [kmax]; omega) (by omega) hR) rfl rfl rfl rfl ?_
  repeat (first | refine st_seq ?_ | refine st_region (T := tys) ?_ | refine sl_nil ?_ | refine sk_seq ?_ | refine st_block ?_ | refine sk_block ?_ | refine st_ret ?_ | refine st_exit ?_ | refine st_skip ?_ | refine sk_seq_ret ?_ | refine sk_block_ret ?_ | refine sk_loop_ret ?_ | refine sk_cut_ret ?_ | refine sk_cut_exit ?_ | refine sk_seq_exit ?_ | refine sk_block_here ?_ | refine sk_block_far rfl ?_ | refine sk_loop_exit ?_ | refine st_true rfl ?_ | refine st_false rfl ?_ | refine w_i64 ?_ | refine w_u64 ?_ | refine w_u32 ?_ | refine w_cv ?_ | refine w_cv32 ?_ | refine w_shr ?_ | refine w_shl ?_ | refine w_p ?_ | refine w_no ?_ | refine w_m 0 ?_ | refine w_m 1 ?_ | refine w_m 2 ?_ | refine w_m 3 ?_ | refine w_m 4 ?_ | refine w_m 5 ?_ | refine w_m 6 ?_ | refine w_m 7 ?_ | refine w_m 8 ?_ | refine w_m 9 ?_ | refine w_m 10 ?_ | refine w_m 11 ?_ | refine w_m 12 ?_)
  exact sk_ret [] sym rfl (.cons (.tmp rfl) (.cons (.tmp rfl) .nil)) (ULe.refl _) (List.Sublist.refl _) (.inl rfl) ⟨rfl, rfl, rfl⟩

theorem set_back {q : List Nat} {k x : Nat} : (List.replicate (k + 1) 0 ++ q).set k x = List.replicate k 0 ++ (x :: q) := by
  rw [List.replicate_succ', List.append_assoc]
  exact (set_mid (by simp)).trans (by simp)

theorem short_ct {p : Option Addr} {n c d : Nat} {a : List Nat} (ha : Dig U M p n c a) (hd0 : 0 < d) (hd : d < 4294967296) (hn : n ≤ 1099511627776) :
    Ct Try.prog 66 [.slice p n c, .int .u32 (d : Int)] G U M fun v U' D => ∃ q k cc l, v = .tuple #[.slice q k cc, .int .u32 ((val a % d : Nat) : Int)] ∧ Own D q k cc l ∧ val l = val a / d ∧ k = n ∧ U = U' := by
  have hl1 := ha.len
  have h3 := ha.capm
  have h4 := ha.cap
  refine ct_of_st Try.func66 rfl rfl rfl rfl ?_
  repeat (first | refine st_seq ?_ | refine st_region (T := tys) ?_ | refine sl_nil ?_ | refine sk_seq ?_ | refine st_block ?_ | refine sk_block ?_ | refine st_ret ?_ | refine st_exit ?_ | refine st_skip ?_ | refine sk_seq_ret ?_ | refine sk_block_ret ?_ | refine sk_loop_ret ?_ | refine sk_cut_ret ?_ | refine sk_cut_exit ?_ | refine sk_seq_exit ?_ | refine sk_block_here ?_ | refine sk_block_far rfl ?_ | refine sk_loop_exit ?_ | refine st_true rfl ?_ | refine st_false rfl ?_ | refine w_i64 ?_ | refine w_u64 ?_ | refine w_u32 ?_ | refine w_cv ?_ | refine w_cv32 ?_ | refine w_shr ?_ | refine w_shl ?_ | refine w_p ?_ | refine w_no ?_ | refine w_m 0 ?_ | refine w_m 1 ?_ | refine w_m 2 ?_ | refine w_m 3 ?_ | refine w_m 4 ?_ | refine w_m 5 ?_ | refine w_m 6 ?_ | refine w_m 7 ?_ | refine w_m 8 ?_ | refine w_m 9 ?_ | refine w_m 10 ?_ | refine w_m 11 ?_ | refine w_m 12 ?_)
  refine sl_make (m := n) (n := n) sym rfl rfl rfl rfl rfl rfl rfl rfl rfl (Nat.le_refl _) (by omega) (by omega) rfl rfl rfl rfl (fun bo => ?_)
  rw [dg_rep]
  repeat (first | refine st_seq ?_ | refine st_region (T := tys) ?_ | refine sl_nil ?_ | refine sk_seq ?_ | refine st_block ?_ | refine sk_block ?_ | refine st_ret ?_ | refine st_exit ?_ | refine st_skip ?_ | refine sk_seq_ret ?_ | refine sk_block_ret ?_ | refine sk_loop_ret ?_ | refine sk_cut_ret ?_ | refine sk_cut_exit ?_ | refine sk_seq_exit ?_ | refine sk_block_here ?_ | refine sk_block_far rfl ?_ | refine sk_loop_exit ?_ | refine st_true rfl ?_ | refine st_false rfl ?_ | refine w_i64 ?_ | refine w_u64 ?_ | refine w_u32 ?_ | refine w_cv ?_ | refine w_cv32 ?_ | refine w_shr ?_ | refine w_shl ?_ | refine w_p ?_ | refine w_no ?_ | refine w_m 0 ?_ | refine w_m 1 ?_ | refine w_m 2 ?_ | refine w_m 3 ?_ | refine w_m 4 ?_ | refine w_m 5 ?_ | refine w_m 6 ?_ | refine w_m 7 ?_ | refine w_m 8 ?_ | refine w_m 9 ?_ | refine w_m 10 ?_ | refine w_m 11 ?_ | refine w_m 12 ?_)
  refine st_loop (fun m E U' M' => ∃ (k r : Nat) (q : List Nat), k ≤ n ∧ r < d ∧ q.length = n - k ∧ Bd q ∧ val q * d + r = val (a.drop k) ∧
      E = [(8, .int .i64 ((k : Int) - 1)), (0, .slice p n c), (1, .int .u32 (d : Int)), (6, .slice (some ⟨bo, 0, none⟩) n n), (7, .int .u32 (r : Int))] ∧
      U = U' ∧ M' = (bo, .arr ((List.replicate k 0 ++ q).map dg), TU32) :: M ∧ k = m) (n0 := n)
    (E0 := [(8, .int .i64 ((n : Int) - 1)), (0, .slice p n c), (1, .int .u32 (d : Int)), (6, .slice (some ⟨bo, 0, none⟩) n n), (7, .int .u32 ((0 : Nat) : Int))])
    ⟨rfl, rfl, rfl, rfl, rfl, trivial⟩ ⟨n, 0, [], by omega, by omega, by simp, (by intro d hd; cases hd), by rw [List.drop_of_length_le (by omega)]; simp [val], rfl, rfl, by rw [List.append_nil], rfl⟩ ?_
  rintro m E U' M' ⟨k, r, q, hk, hr, hq, hbq, hv, rfl, rfl, rfl, rfl⟩
  repeat (first | refine st_seq ?_ | refine st_region (T := tys) ?_ | refine sl_nil ?_ | refine sk_seq ?_ | refine st_block ?_ | refine sk_block ?_ | refine st_ret ?_ | refine st_exit ?_ | refine st_skip ?_ | refine sk_seq_ret ?_ | refine sk_block_ret ?_ | refine sk_loop_ret ?_ | refine sk_cut_ret ?_ | refine sk_cut_exit ?_ | refine sk_seq_exit ?_ | refine sk_block_here ?_ | refine sk_block_far rfl ?_ | refine sk_loop_exit ?_ | refine st_true rfl ?_ | refine st_false rfl ?_ | refine w_i64 ?_ | refine w_u64 ?_ | refine w_u32 ?_ | refine w_cv ?_ | refine w_cv32 ?_ | refine w_shr ?_ | refine w_shl ?_ | refine w_p ?_ | refine w_no ?_ | refine w_m 0 ?_ | refine w_m 1 ?_ | refine w_m 2 ?_ | refine w_m 3 ?_ | refine w_m 4 ?_ | refine w_m 5 ?_ | refine w_m 6 ?_ | refine w_m 7 ?_ | refine w_m 8 ?_ | refine w_m 9 ?_ | refine w_m 10 ?_ | refine w_m 11 ?_ | refine w_m 12 ?_)
  refine st_dec rfl (fun h5 => ?_) (fun h5 => ?_)
  · have hk1 : (k : Int) - 1 = ((k - 1 : Nat) : Int) := by omega
    obtain ⟨x, hx, hbx, hp1, hcx⟩ := ha.get (k := k - 1) (by omega)
    replace hcx := fun G w hw => hcx G w (Mem.anti (M' := (bo, .arr ((List.replicate k 0 ++ q).map dg), TU32) :: M) hw (ULe.refl _) (List.sublist_cons_self ..))
    repeat (first | refine st_seq ?_ | refine st_region (T := tys) ?_ | refine sl_nil ?_ | refine sk_seq ?_ | refine st_block ?_ | refine sk_block ?_ | refine st_ret ?_ | refine st_exit ?_ | refine st_skip ?_ | refine sk_seq_ret ?_ | refine sk_block_ret ?_ | refine sk_loop_ret ?_ | refine sk_cut_ret ?_ | refine sk_cut_exit ?_ | refine sk_seq_exit ?_ | refine sk_block_here ?_ | refine sk_block_far rfl ?_ | refine sk_loop_exit ?_ | refine st_true rfl ?_ | refine st_false rfl ?_ | refine w_i64 ?_ | refine w_u64 ?_ | refine w_u32 ?_ | refine w_cv ?_ | refine w_cv32 ?_ | refine w_shr ?_ | refine w_shl ?_ | refine w_p ?_ | refine w_no ?_ | refine w_m 0 ?_ | refine w_m 1 ?_ | refine w_m 2 ?_ | refine w_m 3 ?_ | refine w_m 4 ?_ | refine w_m 5 ?_ | refine w_m 6 ?_ | refine w_m 7 ?_ | refine w_m 8 ?_ | refine w_m 9 ?_ | refine w_m 10 ?_ | refine w_m 11 ?_ | refine w_m 12 ?_)
    refine sl_y (yl_index1 sym rfl rfl rfl rfl rfl (hk1) (by first | omega | assumption) hp1) rfl rfl rfl rfl ?_; refine sl_y (yl_loadD sym rfl rfl rfl rfl hcx) rfl rfl rfl rfl ?_
    repeat (first | refine st_seq ?_ | refine st_region (T := tys) ?_ | refine sl_nil ?_ | refine sk_seq ?_ | refine st_block ?_ | refine sk_block ?_ | refine st_ret ?_ | refine st_exit ?_ | refine st_skip ?_ | refine sk_seq_ret ?_ | refine sk_block_ret ?_ | refine sk_loop_ret ?_ | refine sk_cut_ret ?_ | refine sk_cut_exit ?_ | refine sk_seq_exit ?_ | refine sk_block_here ?_ | refine sk_block_far rfl ?_ | refine sk_loop_exit ?_ | refine st_true rfl ?_ | refine st_false rfl ?_ | refine w_i64 ?_ | refine w_u64 ?_ | refine w_u32 ?_ | refine w_cv ?_ | refine w_cv32 ?_ | refine w_shr ?_ | refine w_shl ?_ | refine w_p ?_ | refine w_no ?_ | refine w_m 0 ?_ | refine w_m 1 ?_ | refine w_m 2 ?_ | refine w_m 3 ?_ | refine w_m 4 ?_ | refine w_m 5 ?_ | refine w_m 6 ?_ | refine w_m 7 ?_ | refine w_m 8 ?_ | refine w_m 9 ?_ | refine w_m 10 ?_ | refine w_m 11 ?_ | refine w_m 12 ?_)
    refine sl_call rfl rfl rfl rfl rfl rfl (fun _ => Div32_ct hbx hd hr) ?_
    rintro v U' D hU ⟨rfl, rfl, rfl⟩
    repeat (first | refine st_seq ?_ | refine st_region (T := tys) ?_ | refine sl_nil ?_ | refine sk_seq ?_ | refine st_block ?_ | refine sk_block ?_ | refine st_ret ?_ | refine st_exit ?_ | refine st_skip ?_ | refine sk_seq_ret ?_ | refine sk_block_ret ?_ | refine sk_loop_ret ?_ | refine sk_cut_ret ?_ | refine sk_cut_exit ?_ | refine sk_seq_exit ?_ | refine sk_block_here ?_ | refine sk_block_far rfl ?_ | refine sk_loop_exit ?_ | refine st_true rfl ?_ | refine st_false rfl ?_ | refine w_i64 ?_ | refine w_u64 ?_ | refine w_u32 ?_ | refine w_cv ?_ | refine w_cv32 ?_ | refine w_shr ?_ | refine w_shl ?_ | refine w_p ?_ | refine w_no ?_ | refine w_m 0 ?_ | refine w_m 1 ?_ | refine w_m 2 ?_ | refine w_m 3 ?_ | refine w_m 4 ?_ | refine w_m 5 ?_ | refine w_m 6 ?_ | refine w_m 7 ?_ | refine w_m 8 ?_ | refine w_m 9 ?_ | refine w_m 10 ?_ | refine w_m 11 ?_ | refine w_m 12 ?_)
    refine sl_y (yl_indexM (j := k - 1) sym rfl rfl rfl rfl rfl hk1 (by omega)) rfl rfl rfl rfl ?_
    refine sl_storeD 0 sym rfl rfl rfl rfl rfl rfl rfl (j := k - 1) (by omega) (by simp only [List.length_append, List.length_replicate]; omega) rfl rfl rfl ?_
    have e : List.replicate k 0 ++ q = List.replicate (k - 1 + 1) 0 ++ q := by rw [show k - 1 + 1 = k by omega]
    rw [e, set_back]
    repeat (first | refine st_seq ?_ | refine st_region (T := tys) ?_ | refine sl_nil ?_ | refine sk_seq ?_ | refine st_block ?_ | refine sk_block ?_ | refine st_ret ?_ | refine st_exit ?_ | refine st_skip ?_ | refine sk_seq_ret ?_ | refine sk_block_ret ?_ | refine sk_loop_ret ?_ | refine sk_cut_ret ?_ | refine sk_cut_exit ?_ | refine sk_seq_exit ?_ | refine sk_block_here ?_ | refine sk_block_far rfl ?_ | refine sk_loop_exit ?_ | refine st_true rfl ?_ | refine st_false rfl ?_ | refine w_i64 ?_ | refine w_u64 ?_ | refine w_u32 ?_ | refine w_cv ?_ | refine w_cv32 ?_ | refine w_shr ?_ | refine w_shl ?_ | refine w_p ?_ | refine w_no ?_ | refine w_m 0 ?_ | refine w_m 1 ?_ | refine w_m 2 ?_ | refine w_m 3 ?_ | refine w_m 4 ?_ | refine w_m 5 ?_ | refine w_m 6 ?_ | refine w_m 7 ?_ | refine w_m 8 ?_ | refine w_m 9 ?_ | refine w_m 10 ?_ | refine w_m 11 ?_ | refine w_m 12 ?_)
    have hql : (r * 4294967296 + x) / d < 4294967296 := Nat.div_lt_of_lt_mul (by
      have : (r + 1) * 4294967296 ≤ d * 4294967296 := Nat.mul_le_mul_right _ hr
      omega)
    rw [hk1]
    refine sk_again (E' := [(8, .int .i64 (((k - 1 : Nat) : Int) - 1)), (0, .slice p n c), (1, .int .u32 (d : Int)), (6, .slice (some ⟨bo, 0, none⟩) n n), (7, .int .u32 (((r * 4294967296 + x) % d : Nat) : Int))]) (m := k - 1)
      ⟨rfl, rfl, rfl, rfl, rfl, trivial⟩ (by omega) ⟨k - 1, (r * 4294967296 + x) % d, (r * 4294967296 + x) / d :: q, by omega, Nat.mod_lt _ hd0, by simp [hq]; omega, ?_, ?_, rfl, rfl, rfl, rfl⟩
    · intro y hy; rcases List.mem_cons.1 hy with rfl | hy
      · exact hql
      · exact hbq y hy
    · obtain ⟨hl, he⟩ := List.getElem?_eq_some_iff.1 hx
      rw [List.drop_eq_getElem_cons hl, he, show k - 1 + 1 = k by omega]
      have e2 := Nat.mod_add_div (r * 4294967296 + x) d
      simp only [val, ← hv]
      generalize (r * 4294967296 + x) % d = s at *
      generalize (r * 4294967296 + x) / d = t at *
      grind
  · have : k = 0 := by omega
    subst this
    repeat (first | refine st_seq ?_ | refine st_region (T := tys) ?_ | refine sl_nil ?_ | refine sk_seq ?_ | refine st_block ?_ | refine sk_block ?_ | refine st_ret ?_ | refine st_exit ?_ | refine st_skip ?_ | refine sk_seq_ret ?_ | refine sk_block_ret ?_ | refine sk_loop_ret ?_ | refine sk_cut_ret ?_ | refine sk_cut_exit ?_ | refine sk_seq_exit ?_ | refine sk_block_here ?_ | refine sk_block_far rfl ?_ | refine sk_loop_exit ?_ | refine st_true rfl ?_ | refine st_false rfl ?_ | refine w_i64 ?_ | refine w_u64 ?_ | refine w_u32 ?_ | refine w_cv ?_ | refine w_cv32 ?_ | refine w_shr ?_ | refine w_shl ?_ | refine w_p ?_ | refine w_no ?_ | refine w_m 0 ?_ | refine w_m 1 ?_ | refine w_m 2 ?_ | refine w_m 3 ?_ | refine w_m 4 ?_ | refine w_m 5 ?_ | refine w_m 6 ?_ | refine w_m 7 ?_ | refine w_m 8 ?_ | refine w_m 9 ?_ | refine w_m 10 ?_ | refine w_m 11 ?_ | refine w_m 12 ?_)
    refine sk_ret [_] sym rfl (.cons (.tmp rfl) (.cons (.tmp rfl) .nil)) (ULe.refl _) (List.Sublist.refl _) (.inl rfl) ?_
    have ho := Own.row (b := bo) (n := n) (c := n) (r := List.replicate 0 0 ++ q) (Nat.le_refl _) (by simpa using hq) (by omega) (by simpa using hbq)
    rw [take_all (by simp [hq])] at ho
    simp only [List.drop_zero] at hv
    have e1 : val a % d = r := by rw [← hv, Nat.mul_comm, Nat.mul_add_mod, Nat.mod_eq_of_lt hr]
    have e2 : val a / d = val q := by rw [← hv, Nat.mul_comm, Nat.mul_add_div hd0, Nat.div_eq_of_lt hr, Nat.add_zero]
    refine ⟨_, _, _, _, ?_, ho, ?_, rfl, rfl⟩
    · rw [e1]; rfl
    · rw [e2]; simp

end Go.Proofs.Ytcakainebimmdaa
