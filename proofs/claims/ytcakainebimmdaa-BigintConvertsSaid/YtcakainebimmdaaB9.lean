/- Walks of bigint, 9: one digit of a quotient. -/
import Derived.Test.YtcakainebimmdaaB8
import Derived.Test.YtcakainebimmdaaK
namespace Go.Proofs.Ytcakainebimmdaa
open Go.Hp
variable {G : World} {U : UH} {M : MH}

theorem row_get {pre ul suf : List Nat} {j k d : Nat} (hp : pre.length = j) (h : ul[k]? = some d) : (pre ++ ul ++ suf)[j + k]? = some d := by
  have := (List.getElem?_eq_some_iff.1 h).1
  rw [List.append_assoc, List.getElem?_append_right (by omega), hp, Nat.add_sub_cancel_left, List.getElem?_append_left this, h]

theorem row_set {pre D R suf : List Nat} {j i x d : Nat} (hp : pre.length = j) (hD : D.length = i) : (pre ++ (D ++ x :: R) ++ suf).set (j + i) d = pre ++ ((D ++ [d]) ++ R) ++ suf := by
  rw [List.append_assoc, List.set_append_right _ _ (by omega), hp, Nat.add_sub_cancel_left, List.append_assoc, List.cons_append, set_mid hD]
  simp

theorem Sub32_ex {x y b : Nat} (hx : x < 4294967296) (hy : y < 4294967296) (hb : b ≤ 1) :
    Ct Try.prog 93 [.int .u32 (x : Int), .int .u32 (y : Int), .int .u32 (b : Int)] G U M fun v U' D => ∃ d b' : Nat, v = .tuple #[.int .u32 (d : Int), .int .u32 (b' : Int)] ∧ d < 4294967296 ∧ b' ≤ 1 ∧ d + y + b = x + 4294967296 * b' ∧ U = U' ∧ D = [] :=
  (Sub32_ct hx hy hb).mono fun v U' D _ ⟨h1, h2, h3⟩ => ⟨_, _, h1, Nat.mod_lt _ (by omega), by split <;> omega, by split <;> omega, h2, h3⟩
theorem Add32_ex {x y b : Nat} (hx : x < 4294967296) (hy : y < 4294967296) (hb : b ≤ 1) :
    Ct Try.prog 92 [.int .u32 (x : Int), .int .u32 (y : Int), .int .u32 (b : Int)] G U M fun v U' D => ∃ d b' : Nat, v = .tuple #[.int .u32 (d : Int), .int .u32 (b' : Int)] ∧ d < 4294967296 ∧ b' ≤ 1 ∧ d + 4294967296 * b' = x + y + b ∧ U = U' ∧ D = [] :=
  (Add32_ct hx hy (by omega)).mono fun v U' D _ ⟨h1, h2, h3⟩ => ⟨_, _, h1, Nat.mod_lt _ (by omega), by omega, by omega, h2, h3⟩

theorem sub_last {D gv u pw cy bo d u0 b' : Nat} (h : D + gv = u + pw * (cy + bo)) (hd : d + cy + bo = u0 + 4294967296 * b') : D + pw * d + gv = u + pw * u0 + pw * 4294967296 * b' := by
  have e : pw * (d + cy + bo) = pw * (u0 + 4294967296 * b') := by rw [hd]
  simp only [Nat.mul_add, Nat.mul_assoc] at *
  omega
theorem wrap_eq {D R pw s : Nat} (h : D + pw * s = R + pw * 4294967296) (hD : D < pw) (hR : R < pw) : s = 4294967296 ∧ D = R := by
  have : s = 4294967296 := by
    rcases Nat.lt_trichotomy s 4294967296 with h1 | h1 | h1
    · have := Nat.mul_le_mul_left pw (show s + 1 ≤ 4294967296 from h1)
      rw [Nat.mul_add] at this
      omega
    · exact h1
    · have := Nat.mul_le_mul_left pw (show 4294967296 + 1 ≤ s from h1)
      rw [Nat.mul_add] at this
      omega
  subst this
  exact ⟨rfl, by omega⟩

theorem val_top2 {l : List Nat} {n v2 v1 : Nat} (h2 : l[n]? = some v2) (h1 : l[n + 1]? = some v1) : val (l.take (n + 2)) = val (l.take n) + 4294967296 ^ n * (v2 + 4294967296 * v1) := by
  rw [show n + 2 = (n + 1) + 1 by omega, val_take_succ h1, val_take_succ h2, Nat.pow_succ, Nat.mul_add, Nat.mul_assoc]
  omega
theorem val_top3 {l : List Nat} {n u2 u1 u0 : Nat} (h2 : l[n]? = some u2) (h1 : l[n + 1]? = some u1) (h0 : l[n + 2]? = some u0) : val (l.take (n + 3)) = val (l.take n) + 4294967296 ^ n * (u2 + 4294967296 * (u0 * 4294967296 + u1)) := by
  rw [show n + 3 = (n + 2) + 1 by omega, val_take_succ h0, val_top2 h2 h1, Nat.pow_add, show 4294967296 ^ 2 = 4294967296 * 4294967296 by decide, Nat.mul_assoc (4294967296 ^ n), Nat.add_assoc, ← Nat.mul_add]
  congr 2
  omega

set_option maxHeartbeats 4000000 in
theorem digit_ct {b j0 c n cv : Nat} {pv : Option Addr} {pre ul suf vl : List Nat} (hv : Dig U M pv (n + 2) cv vl) (hn : n ≤ 1099511627776) (hpre : pre.length = j0) (hul : ul.length = n + 3) (hub : Bd ul) (_hj0 : j0 ≤ 1099511627777)
    (hlt : val ul < val vl * 4294967296) (htop : 2147483648 ≤ vl.getD (n + 1) 0) :
    Cx Try.prog 90 [.slice (some ⟨b, j0, none⟩) (n + 3) c, .slice pv (n + 2) cv] G U ((b, .arr ((pre ++ ul ++ suf).map dg), TU32) :: M) fun v U' M' =>
      v = .int .u32 ((val ul / val vl : Nat) : Int) ∧ U = U' ∧ ∃ ul', ul'.length = n + 3 ∧ Bd ul' ∧ val ul' = val ul % val vl ∧ M' = (b, .arr ((pre ++ ul' ++ suf).map dg), TU32) :: M := by
  have hl1 := hv.len
  have h3 := hv.capm
  have h4 := hv.cap
  obtain ⟨v1, hv1, hbv1, hpv1, hcv1⟩ := hv.get (k := n + 1) (by omega)
  obtain ⟨v2, hv2, hbv2, hpv2, hcv2⟩ := hv.get (k := n) (by omega)
  rw [getD_of hv1] at htop
  obtain ⟨u0, hu0⟩ : ∃ d, ul[n + 2]? = some d := ⟨_, List.getElem?_eq_getElem (by omega)⟩
  obtain ⟨u1, hu1⟩ : ∃ d, ul[n + 1]? = some d := ⟨_, List.getElem?_eq_getElem (by omega)⟩
  obtain ⟨u2, hu2⟩ : ∃ d, ul[n]? = some d := ⟨_, List.getElem?_eq_getElem (by omega)⟩
  have hbu0 := bd_get hub hu0
  have hbu1 := bd_get hub hu1
  have hbu2 := bd_get hub hu2
  have kd : KD (4294967296 ^ n) (val (ul.take n)) u2 (u0 * 4294967296 + u1) (val (vl.take n)) v2 v1 (val ul) (val vl) := by
    refine ⟨?_, ?_, ?_, ?_, hbu2, hbv2, by omega, hlt⟩
    · rw [← val_top3 hu2 hu1 hu0, take_all (by omega)]
    · rw [← val_top2 hv2 hv1, take_all (by omega)]
    · have := val_lt (bd_take hub n); rwa [List.length_take, Nat.min_eq_left (by omega)] at this
    · have := val_lt (bd_take hv.bd n); rwa [List.length_take, Nat.min_eq_left (by omega)] at this
  have hUle := val_lt hub
  rw [hul] at hUle
  generalize hV : val vl = V at *
  generalize hUv : val ul = UV at *
  have hT : u0 * 4294967296 + u1 < 18446744073709551616 := by omega
  replace hcv1 := fun G w hw => hcv1 G w (Mem.anti (M' := (b, .arr ((pre ++ ul ++ suf).map dg), TU32) :: M) hw (ULe.refl _) (List.sublist_cons_self ..))
  replace hcv2 := fun G w hw => hcv2 G w (Mem.anti (M' := (b, .arr ((pre ++ ul ++ suf).map dg), TU32) :: M) hw (ULe.refl _) (List.sublist_cons_self ..))
  generalize hTop : u0 * 4294967296 + u1 = top at *
  refine cx_of_st Try.func90 rfl rfl rfl rfl ?_
  repeat (first | refine st_seq ?_ | refine st_region (T := tys) ?_ | refine sl_nil ?_ | refine sk_seq ?_ | refine st_block ?_ | refine sk_block ?_ | refine st_ret ?_ | refine st_exit ?_ | refine st_skip ?_ | refine sk_seq_ret ?_ | refine sk_block_ret ?_ | refine sk_loop_ret ?_ | refine sk_cut_ret ?_ | refine sk_cut_exit ?_ | refine sk_seq_exit ?_ | refine sk_block_here ?_ | refine sk_block_far rfl ?_ | refine sk_loop_exit ?_ | refine st_true rfl ?_ | refine st_false rfl ?_ | refine w_i64 ?_ | refine w_u64 ?_ | refine w_u32 ?_ | refine w_cv ?_ | refine w_cv32 ?_ | refine w_shr ?_ | refine w_shl ?_ | refine w_p ?_ | refine w_no ?_ | refine w_m 0 ?_ | refine w_m 1 ?_ | refine w_m 2 ?_ | refine w_m 3 ?_ | refine w_m 4 ?_ | refine w_m 5 ?_ | refine w_m 6 ?_ | refine w_m 7 ?_ | refine w_m 8 ?_ | refine w_m 9 ?_ | refine w_m 10 ?_ | refine w_m 11 ?_ | refine w_m 12 ?_)
  refine st_draw [0, 1, 2, 3, 4, 5, 6, 7, 8, 9, 10, 11, 12, 13] sym (by kernel_rfl) ?_
  repeat (first | refine st_seq ?_ | refine st_region (T := tys) ?_ | refine sl_nil ?_ | refine sk_seq ?_ | refine st_block ?_ | refine sk_block ?_ | refine st_ret ?_ | refine st_exit ?_ | refine st_skip ?_ | refine sk_seq_ret ?_ | refine sk_block_ret ?_ | refine sk_loop_ret ?_ | refine sk_cut_ret ?_ | refine sk_cut_exit ?_ | refine sk_seq_exit ?_ | refine sk_block_here ?_ | refine sk_block_far rfl ?_ | refine sk_loop_exit ?_ | refine st_true rfl ?_ | refine st_false rfl ?_ | refine w_i64 ?_ | refine w_u64 ?_ | refine w_u32 ?_ | refine w_cv ?_ | refine w_cv32 ?_ | refine w_shr ?_ | refine w_shl ?_ | refine w_p ?_ | refine w_no ?_ | refine w_m 0 ?_ | refine w_m 1 ?_ | refine w_m 2 ?_ | refine w_m 3 ?_ | refine w_m 4 ?_ | refine w_m 5 ?_ | refine w_m 6 ?_ | refine w_m 7 ?_ | refine w_m 8 ?_ | refine w_m 9 ?_ | refine w_m 10 ?_ | refine w_m 11 ?_ | refine w_m 12 ?_)
  refine sl_y (yl_indexM (j := n + 2) sym rfl rfl rfl rfl rfl (by omega) (by omega)) rfl rfl rfl rfl ?_
  refine sl_y (yl_loadMD 0 sym rfl rfl rfl rfl rfl (j := j0 + (n + 2)) (by omega) (row_get hpre hu0)) rfl rfl rfl rfl ?_
  repeat (first | refine st_seq ?_ | refine st_region (T := tys) ?_ | refine sl_nil ?_ | refine sk_seq ?_ | refine st_block ?_ | refine sk_block ?_ | refine st_ret ?_ | refine st_exit ?_ | refine st_skip ?_ | refine sk_seq_ret ?_ | refine sk_block_ret ?_ | refine sk_loop_ret ?_ | refine sk_cut_ret ?_ | refine sk_cut_exit ?_ | refine sk_seq_exit ?_ | refine sk_block_here ?_ | refine sk_block_far rfl ?_ | refine sk_loop_exit ?_ | refine st_true rfl ?_ | refine st_false rfl ?_ | refine w_i64 ?_ | refine w_u64 ?_ | refine w_u32 ?_ | refine w_cv ?_ | refine w_cv32 ?_ | refine w_shr ?_ | refine w_shl ?_ | refine w_p ?_ | refine w_no ?_ | refine w_m 0 ?_ | refine w_m 1 ?_ | refine w_m 2 ?_ | refine w_m 3 ?_ | refine w_m 4 ?_ | refine w_m 5 ?_ | refine w_m 6 ?_ | refine w_m 7 ?_ | refine w_m 8 ?_ | refine w_m 9 ?_ | refine w_m 10 ?_ | refine w_m 11 ?_ | refine w_m 12 ?_)
  refine sl_y (yl_indexM (j := n + 1) sym rfl rfl rfl rfl rfl (by omega) (by omega)) rfl rfl rfl rfl ?_
  refine sl_y (yl_loadMD 0 sym rfl rfl rfl rfl rfl (j := j0 + (n + 1)) (by omega) (row_get hpre hu1)) rfl rfl rfl rfl ?_
  repeat (first | refine st_seq ?_ | refine st_region (T := tys) ?_ | refine sl_nil ?_ | refine sk_seq ?_ | refine st_block ?_ | refine sk_block ?_ | refine st_ret ?_ | refine st_exit ?_ | refine st_skip ?_ | refine sk_seq_ret ?_ | refine sk_block_ret ?_ | refine sk_loop_ret ?_ | refine sk_cut_ret ?_ | refine sk_cut_exit ?_ | refine sk_seq_exit ?_ | refine sk_block_here ?_ | refine sk_block_far rfl ?_ | refine sk_loop_exit ?_ | refine st_true rfl ?_ | refine st_false rfl ?_ | refine w_i64 ?_ | refine w_u64 ?_ | refine w_u32 ?_ | refine w_cv ?_ | refine w_cv32 ?_ | refine w_shr ?_ | refine w_shl ?_ | refine w_p ?_ | refine w_no ?_ | refine w_m 0 ?_ | refine w_m 1 ?_ | refine w_m 2 ?_ | refine w_m 3 ?_ | refine w_m 4 ?_ | refine w_m 5 ?_ | refine w_m 6 ?_ | refine w_m 7 ?_ | refine w_m 8 ?_ | refine w_m 9 ?_ | refine w_m 10 ?_ | refine w_m 11 ?_ | refine w_m 12 ?_)
  refine sl_y (yl_or32 (m := u0) (n := u1) rfl rfl rfl (by rw [wrap_u64]; omega) rfl hbu0 hbu1) rfl rfl rfl rfl ?_
  rw [hTop]
  repeat (first | refine st_seq ?_ | refine st_region (T := tys) ?_ | refine sl_nil ?_ | refine sk_seq ?_ | refine st_block ?_ | refine sk_block ?_ | refine st_ret ?_ | refine st_exit ?_ | refine st_skip ?_ | refine sk_seq_ret ?_ | refine sk_block_ret ?_ | refine sk_loop_ret ?_ | refine sk_cut_ret ?_ | refine sk_cut_exit ?_ | refine sk_seq_exit ?_ | refine sk_block_here ?_ | refine sk_block_far rfl ?_ | refine sk_loop_exit ?_ | refine st_true rfl ?_ | refine st_false rfl ?_ | refine w_i64 ?_ | refine w_u64 ?_ | refine w_u32 ?_ | refine w_cv ?_ | refine w_cv32 ?_ | refine w_shr ?_ | refine w_shl ?_ | refine w_p ?_ | refine w_no ?_ | refine w_m 0 ?_ | refine w_m 1 ?_ | refine w_m 2 ?_ | refine w_m 3 ?_ | refine w_m 4 ?_ | refine w_m 5 ?_ | refine w_m 6 ?_ | refine w_m 7 ?_ | refine w_m 8 ?_ | refine w_m 9 ?_ | refine w_m 10 ?_ | refine w_m 11 ?_ | refine w_m 12 ?_)
  refine st_draw [0, 1, 2, 3, 4, 5, 6, 7, 8, 9, 10, 11, 12, 13, 14, 15, 16, 17] sym (by kernel_rfl) ?_
  repeat (first | refine st_seq ?_ | refine st_region (T := tys) ?_ | refine sl_nil ?_ | refine sk_seq ?_ | refine st_block ?_ | refine sk_block ?_ | refine st_ret ?_ | refine st_exit ?_ | refine st_skip ?_ | refine sk_seq_ret ?_ | refine sk_block_ret ?_ | refine sk_loop_ret ?_ | refine sk_cut_ret ?_ | refine sk_cut_exit ?_ | refine sk_seq_exit ?_ | refine sk_block_here ?_ | refine sk_block_far rfl ?_ | refine sk_loop_exit ?_ | refine st_true rfl ?_ | refine st_false rfl ?_ | refine w_i64 ?_ | refine w_u64 ?_ | refine w_u32 ?_ | refine w_cv ?_ | refine w_cv32 ?_ | refine w_shr ?_ | refine w_shl ?_ | refine w_p ?_ | refine w_no ?_ | refine w_m 0 ?_ | refine w_m 1 ?_ | refine w_m 2 ?_ | refine w_m 3 ?_ | refine w_m 4 ?_ | refine w_m 5 ?_ | refine w_m 6 ?_ | refine w_m 7 ?_ | refine w_m 8 ?_ | refine w_m 9 ?_ | refine w_m 10 ?_ | refine w_m 11 ?_ | refine w_m 12 ?_)
  refine sl_y (yl_index1 sym rfl rfl rfl rfl rfl ((show ((n + 2 : Nat) : Int) - 1 = ((n + 1 : Nat) : Int) by omega)) (by first | omega | assumption) hpv1) rfl rfl rfl rfl ?_; refine sl_y (yl_loadD sym rfl rfl rfl rfl hcv1) rfl rfl rfl rfl ?_
  repeat (first | refine st_seq ?_ | refine st_region (T := tys) ?_ | refine sl_nil ?_ | refine sk_seq ?_ | refine st_block ?_ | refine sk_block ?_ | refine st_ret ?_ | refine st_exit ?_ | refine st_skip ?_ | refine sk_seq_ret ?_ | refine sk_block_ret ?_ | refine sk_loop_ret ?_ | refine sk_cut_ret ?_ | refine sk_cut_exit ?_ | refine sk_seq_exit ?_ | refine sk_block_here ?_ | refine sk_block_far rfl ?_ | refine sk_loop_exit ?_ | refine st_true rfl ?_ | refine st_false rfl ?_ | refine w_i64 ?_ | refine w_u64 ?_ | refine w_u32 ?_ | refine w_cv ?_ | refine w_cv32 ?_ | refine w_shr ?_ | refine w_shl ?_ | refine w_p ?_ | refine w_no ?_ | refine w_m 0 ?_ | refine w_m 1 ?_ | refine w_m 2 ?_ | refine w_m 3 ?_ | refine w_m 4 ?_ | refine w_m 5 ?_ | refine w_m 6 ?_ | refine w_m 7 ?_ | refine w_m 8 ?_ | refine w_m 9 ?_ | refine w_m 10 ?_ | refine w_m 11 ?_ | refine w_m 12 ?_)
  refine sl_y (yl_quoN (m := top) (n := v1) rfl rfl rfl rfl rfl (by simp only [kmax]; omega) (by omega) rfl) rfl rfl rfl rfl ?_
  repeat (first | refine st_seq ?_ | refine st_region (T := tys) ?_ | refine sl_nil ?_ | refine sk_seq ?_ | refine st_block ?_ | refine sk_block ?_ | refine st_ret ?_ | refine st_exit ?_ | refine st_skip ?_ | refine sk_seq_ret ?_ | refine sk_block_ret ?_ | refine sk_loop_ret ?_ | refine sk_cut_ret ?_ | refine sk_cut_exit ?_ | refine sk_seq_exit ?_ | refine sk_block_here ?_ | refine sk_block_far rfl ?_ | refine sk_loop_exit ?_ | refine st_true rfl ?_ | refine st_false rfl ?_ | refine w_i64 ?_ | refine w_u64 ?_ | refine w_u32 ?_ | refine w_cv ?_ | refine w_cv32 ?_ | refine w_shr ?_ | refine w_shl ?_ | refine w_p ?_ | refine w_no ?_ | refine w_m 0 ?_ | refine w_m 1 ?_ | refine w_m 2 ?_ | refine w_m 3 ?_ | refine w_m 4 ?_ | refine w_m 5 ?_ | refine w_m 6 ?_ | refine w_m 7 ?_ | refine w_m 8 ?_ | refine w_m 9 ?_ | refine w_m 10 ?_ | refine w_m 11 ?_ | refine w_m 12 ?_)
  refine sl_y (yl_index1 sym rfl rfl rfl rfl rfl ((show ((n + 2 : Nat) : Int) - 1 = ((n + 1 : Nat) : Int) by omega)) (by first | omega | assumption) hpv1) rfl rfl rfl rfl ?_; refine sl_y (yl_loadD sym rfl rfl rfl rfl hcv1) rfl rfl rfl rfl ?_
  repeat (first | refine st_seq ?_ | refine st_region (T := tys) ?_ | refine sl_nil ?_ | refine sk_seq ?_ | refine st_block ?_ | refine sk_block ?_ | refine st_ret ?_ | refine st_exit ?_ | refine st_skip ?_ | refine sk_seq_ret ?_ | refine sk_block_ret ?_ | refine sk_loop_ret ?_ | refine sk_cut_ret ?_ | refine sk_cut_exit ?_ | refine sk_seq_exit ?_ | refine sk_block_here ?_ | refine sk_block_far rfl ?_ | refine sk_loop_exit ?_ | refine st_true rfl ?_ | refine st_false rfl ?_ | refine w_i64 ?_ | refine w_u64 ?_ | refine w_u32 ?_ | refine w_cv ?_ | refine w_cv32 ?_ | refine w_shr ?_ | refine w_shl ?_ | refine w_p ?_ | refine w_no ?_ | refine w_m 0 ?_ | refine w_m 1 ?_ | refine w_m 2 ?_ | refine w_m 3 ?_ | refine w_m 4 ?_ | refine w_m 5 ?_ | refine w_m 6 ?_ | refine w_m 7 ?_ | refine w_m 8 ?_ | refine w_m 9 ?_ | refine w_m 10 ?_ | refine w_m 11 ?_ | refine w_m 12 ?_)
  refine sl_y (yl_remN (m := top) (n := v1) rfl rfl rfl rfl rfl (by simp only [kmax]; omega) (by omega) rfl) rfl rfl rfl rfl ?_
  have e1 : top / v1 * v1 + top % v1 = top := by rw [Nat.mul_comm]; exact Nat.div_add_mod top v1
  have e2 : top % v1 < v1 := Nat.mod_lt _ (by omega)
  generalize top / v1 = g0 at *
  generalize top % v1 = r0 at *
  repeat (first | refine st_region (T := tys) ?_ | refine sl_nil ?_ | refine sk_seq ?_ | refine sk_block ?_ | refine st_ret ?_ | refine st_exit ?_ | refine st_skip ?_ | refine sk_seq_ret ?_ | refine sk_block_ret ?_ | refine sk_loop_ret ?_ | refine sk_cut_ret ?_ | refine sk_cut_exit ?_ | refine sk_seq_exit ?_ | refine sk_block_here ?_ | refine sk_block_far rfl ?_ | refine sk_loop_exit ?_ | refine st_true rfl ?_ | refine st_false rfl ?_ | refine w_i64 ?_ | refine w_u64 ?_ | refine w_u32 ?_ | refine w_cv ?_ | refine w_cv32 ?_ | refine w_shr ?_ | refine w_shl ?_ | refine w_p ?_ | refine w_no ?_ | refine w_m 0 ?_ | refine w_m 1 ?_ | refine w_m 2 ?_ | refine w_m 3 ?_ | refine w_m 4 ?_ | refine w_m 5 ?_ | refine w_m 6 ?_ | refine w_m 7 ?_ | refine w_m 8 ?_ | refine w_m 9 ?_ | refine w_m 10 ?_ | refine w_m 11 ?_ | refine w_m 12 ?_)
  refine st_seq_cut (fun E U' M' => ∃ g : Nat, g < 4294967296 ∧ g * V ≤ UV + V ∧ UV < (g + 1) * V ∧
    E = [(7, .int .u64 (g : Int)), (5, .int .i64 ((n + 2 : Nat) : Int)), (0, .slice (some ⟨b, j0, none⟩) (n + 3) c), (1, .slice pv (n + 2) cv)] ∧ U = U' ∧ M' = (b, .arr ((pre ++ ul ++ suf).map dg), TU32) :: M) ?_ ?_
  · repeat (first | refine st_seq ?_ | refine st_region (T := tys) ?_ | refine sl_nil ?_ | refine sk_seq ?_ | refine st_block ?_ | refine sk_block ?_ | refine st_ret ?_ | refine st_exit ?_ | refine st_skip ?_ | refine sk_seq_ret ?_ | refine sk_block_ret ?_ | refine sk_loop_ret ?_ | refine sk_cut_ret ?_ | refine sk_cut_exit ?_ | refine sk_seq_exit ?_ | refine sk_block_here ?_ | refine sk_block_far rfl ?_ | refine sk_loop_exit ?_ | refine st_true rfl ?_ | refine st_false rfl ?_ | refine w_i64 ?_ | refine w_u64 ?_ | refine w_u32 ?_ | refine w_cv ?_ | refine w_cv32 ?_ | refine w_shr ?_ | refine w_shl ?_ | refine w_p ?_ | refine w_no ?_ | refine w_m 0 ?_ | refine w_m 1 ?_ | refine w_m 2 ?_ | refine w_m 3 ?_ | refine w_m 4 ?_ | refine w_m 5 ?_ | refine w_m 6 ?_ | refine w_m 7 ?_ | refine w_m 8 ?_ | refine w_m 9 ?_ | refine w_m 10 ?_ | refine w_m 11 ?_ | refine w_m 12 ?_)
    refine st_loop (fun m E U' M' => ∃ (g r : Nat), g * v1 + r = top ∧ r < 4294967296 ∧ UV < (g + 1) * V ∧
        E = [(7, .int .u64 (g : Int)), (8, .int .u64 (r : Int)), (5, .int .i64 ((n + 2 : Nat) : Int)), (0, .slice (some ⟨b, j0, none⟩) (n + 3) c), (1, .slice pv (n + 2) cv)] ∧
        U = U' ∧ M' = (b, .arr ((pre ++ ul ++ suf).map dg), TU32) :: M ∧ g = m) (n0 := g0)
      (E0 := [(7, .int .u64 (g0 : Int)), (8, .int .u64 (r0 : Int)), (5, .int .i64 ((n + 2 : Nat) : Int)), (0, .slice (some ⟨b, j0, none⟩) (n + 3) c), (1, .slice pv (n + 2) cv)])
      ⟨rfl, rfl, rfl, rfl, rfl, trivial⟩ ⟨g0, r0, e1, by omega, kd.start e1 e2, rfl, rfl, rfl, rfl⟩ ?_
    clear e1 e2
    rintro m E U' M' ⟨g, r, e1, e2, hq, rfl, rfl, rfl, rfl⟩
    have hsm := kd.small e1 htop
    refine st_seq_cut (fun E U' M' => UV < g * V ∧
      E = [(7, .int .u64 (g : Int)), (8, .int .u64 (r : Int)), (5, .int .i64 ((n + 2 : Nat) : Int)), (0, .slice (some ⟨b, j0, none⟩) (n + 3) c), (1, .slice pv (n + 2) cv)] ∧ U = U' ∧ M' = (b, .arr ((pre ++ ul ++ suf).map dg), TU32) :: M) ?_ ?_
    · refine st_seq ?_
      refine st_draw [0, 1, 2, 3, 4, 5, 6, 7, 8, 9, 10, 11, 12, 13, 14, 15, 16, 17, 18, 19, 20, 21] sym (by kernel_rfl) ?_
      repeat (first | refine st_seq ?_ | refine st_region (T := tys) ?_ | refine sl_nil ?_ | refine sk_seq ?_ | refine st_block ?_ | refine sk_block ?_ | refine st_ret ?_ | refine st_exit ?_ | refine st_skip ?_ | refine sk_seq_ret ?_ | refine sk_block_ret ?_ | refine sk_loop_ret ?_ | refine sk_cut_ret ?_ | refine sk_cut_exit ?_ | refine sk_seq_exit ?_ | refine sk_block_here ?_ | refine sk_block_far rfl ?_ | refine sk_loop_exit ?_ | refine st_true rfl ?_ | refine st_false rfl ?_ | refine w_i64 ?_ | refine w_u64 ?_ | refine w_u32 ?_ | refine w_cv ?_ | refine w_cv32 ?_ | refine w_shr ?_ | refine w_shl ?_ | refine w_p ?_ | refine w_no ?_ | refine w_m 0 ?_ | refine w_m 1 ?_ | refine w_m 2 ?_ | refine w_m 3 ?_ | refine w_m 4 ?_ | refine w_m 5 ?_ | refine w_m 6 ?_ | refine w_m 7 ?_ | refine w_m 8 ?_ | refine w_m 9 ?_ | refine w_m 10 ?_ | refine w_m 11 ?_ | refine w_m 12 ?_)
      refine sl_gdec rfl rfl (fun h0 => ?_) (fun h0 => ?_)
      · repeat (first | refine st_seq ?_ | refine st_region (T := tys) ?_ | refine sl_nil ?_ | refine sk_seq ?_ | refine st_block ?_ | refine sk_block ?_ | refine st_ret ?_ | refine st_exit ?_ | refine st_skip ?_ | refine sk_seq_ret ?_ | refine sk_block_ret ?_ | refine sk_loop_ret ?_ | refine sk_cut_ret ?_ | refine sk_cut_exit ?_ | refine sk_seq_exit ?_ | refine sk_block_here ?_ | refine sk_block_far rfl ?_ | refine sk_loop_exit ?_ | refine st_true rfl ?_ | refine st_false rfl ?_ | refine w_i64 ?_ | refine w_u64 ?_ | refine w_u32 ?_ | refine w_cv ?_ | refine w_cv32 ?_ | refine w_shr ?_ | refine w_shl ?_ | refine w_p ?_ | refine w_no ?_ | refine w_m 0 ?_ | refine w_m 1 ?_ | refine w_m 2 ?_ | refine w_m 3 ?_ | refine w_m 4 ?_ | refine w_m 5 ?_ | refine w_m 6 ?_ | refine w_m 7 ?_ | refine w_m 8 ?_ | refine w_m 9 ?_ | refine w_m 10 ?_ | refine w_m 11 ?_ | refine w_m 12 ?_)
        exact sk_cut (E' := [(7, .int .u64 (g : Int)), (8, .int .u64 (r : Int)), (5, .int .i64 ((n + 2 : Nat) : Int)), (0, .slice (some ⟨b, j0, none⟩) (n + 3) c), (1, .slice pv (n + 2) cv)])
          ⟨rfl, rfl, rfl, rfl, rfl, trivial⟩ ⟨kd.big (by omega), rfl, rfl, rfl⟩
      · have hgB : g < 4294967296 := by omega
        have hm := mul_bound hgB hbv2
        have hm' : 0 ≤ (g : Int) * (v2 : Int) ∧ (g : Int) * (v2 : Int) ≤ 18446744065119617025 := by
          have : (g : Int) * (v2 : Int) = ((g * v2 : Nat) : Int) := by simp
          omega
        repeat (first | refine st_seq ?_ | refine st_region (T := tys) ?_ | refine sl_nil ?_ | refine sk_seq ?_ | refine st_block ?_ | refine sk_block ?_ | refine st_ret ?_ | refine st_exit ?_ | refine st_skip ?_ | refine sk_seq_ret ?_ | refine sk_block_ret ?_ | refine sk_loop_ret ?_ | refine sk_cut_ret ?_ | refine sk_cut_exit ?_ | refine sk_seq_exit ?_ | refine sk_block_here ?_ | refine sk_block_far rfl ?_ | refine sk_loop_exit ?_ | refine st_true rfl ?_ | refine st_false rfl ?_ | refine w_i64 ?_ | refine w_u64 ?_ | refine w_u32 ?_ | refine w_cv ?_ | refine w_cv32 ?_ | refine w_shr ?_ | refine w_shl ?_ | refine w_p ?_ | refine w_no ?_ | refine w_m 0 ?_ | refine w_m 1 ?_ | refine w_m 2 ?_ | refine w_m 3 ?_ | refine w_m 4 ?_ | refine w_m 5 ?_ | refine w_m 6 ?_ | refine w_m 7 ?_ | refine w_m 8 ?_ | refine w_m 9 ?_ | refine w_m 10 ?_ | refine w_m 11 ?_ | refine w_m 12 ?_)
        refine sl_y (yl_index1 sym rfl rfl rfl rfl rfl ((show ((n + 2 : Nat) : Int) - 2 = ((n : Nat) : Int) by omega)) (by first | omega | assumption) hpv2) rfl rfl rfl rfl ?_; refine sl_y (yl_loadD sym rfl rfl rfl rfl hcv2) rfl rfl rfl rfl ?_
        repeat (first | refine st_seq ?_ | refine st_region (T := tys) ?_ | refine sl_nil ?_ | refine sk_seq ?_ | refine st_block ?_ | refine sk_block ?_ | refine st_ret ?_ | refine st_exit ?_ | refine st_skip ?_ | refine sk_seq_ret ?_ | refine sk_block_ret ?_ | refine sk_loop_ret ?_ | refine sk_cut_ret ?_ | refine sk_cut_exit ?_ | refine sk_seq_exit ?_ | refine sk_block_here ?_ | refine sk_block_far rfl ?_ | refine sk_loop_exit ?_ | refine st_true rfl ?_ | refine st_false rfl ?_ | refine w_i64 ?_ | refine w_u64 ?_ | refine w_u32 ?_ | refine w_cv ?_ | refine w_cv32 ?_ | refine w_shr ?_ | refine w_shl ?_ | refine w_p ?_ | refine w_no ?_ | refine w_m 0 ?_ | refine w_m 1 ?_ | refine w_m 2 ?_ | refine w_m 3 ?_ | refine w_m 4 ?_ | refine w_m 5 ?_ | refine w_m 6 ?_ | refine w_m 7 ?_ | refine w_m 8 ?_ | refine w_m 9 ?_ | refine w_m 10 ?_ | refine w_m 11 ?_ | refine w_m 12 ?_)
        refine sl_y (yl_indexM (j := n) sym rfl rfl rfl rfl rfl (by omega) (by omega)) rfl rfl rfl rfl ?_
        refine sl_y (yl_loadMD 0 sym rfl rfl rfl rfl rfl (j := j0 + n) (by omega) (row_get hpre hu2)) rfl rfl rfl rfl ?_
        repeat (first | refine st_seq ?_ | refine st_region (T := tys) ?_ | refine sl_nil ?_ | refine sk_seq ?_ | refine st_block ?_ | refine sk_block ?_ | refine st_ret ?_ | refine st_exit ?_ | refine st_skip ?_ | refine sk_seq_ret ?_ | refine sk_block_ret ?_ | refine sk_loop_ret ?_ | refine sk_cut_ret ?_ | refine sk_cut_exit ?_ | refine sk_seq_exit ?_ | refine sk_block_here ?_ | refine sk_block_far rfl ?_ | refine sk_loop_exit ?_ | refine st_true rfl ?_ | refine st_false rfl ?_ | refine w_i64 ?_ | refine w_u64 ?_ | refine w_u32 ?_ | refine w_cv ?_ | refine w_cv32 ?_ | refine w_shr ?_ | refine w_shl ?_ | refine w_p ?_ | refine w_no ?_ | refine w_m 0 ?_ | refine w_m 1 ?_ | refine w_m 2 ?_ | refine w_m 3 ?_ | refine w_m 4 ?_ | refine w_m 5 ?_ | refine w_m 6 ?_ | refine w_m 7 ?_ | refine w_m 8 ?_ | refine w_m 9 ?_ | refine w_m 10 ?_ | refine w_m 11 ?_ | refine w_m 12 ?_)
        refine sl_y (yl_or32 (m := r) (n := u2) rfl rfl rfl (by rw [wrap_u64]; omega) rfl e2 hbu2) rfl rfl rfl rfl ?_
        repeat (first | refine st_seq ?_ | refine st_region (T := tys) ?_ | refine sl_nil ?_ | refine sk_seq ?_ | refine st_block ?_ | refine sk_block ?_ | refine st_ret ?_ | refine st_exit ?_ | refine st_skip ?_ | refine sk_seq_ret ?_ | refine sk_block_ret ?_ | refine sk_loop_ret ?_ | refine sk_cut_ret ?_ | refine sk_cut_exit ?_ | refine sk_seq_exit ?_ | refine sk_block_here ?_ | refine sk_block_far rfl ?_ | refine sk_loop_exit ?_ | refine st_true rfl ?_ | refine st_false rfl ?_ | refine w_i64 ?_ | refine w_u64 ?_ | refine w_u32 ?_ | refine w_cv ?_ | refine w_cv32 ?_ | refine w_shr ?_ | refine w_shl ?_ | refine w_p ?_ | refine w_no ?_ | refine w_m 0 ?_ | refine w_m 1 ?_ | refine w_m 2 ?_ | refine w_m 3 ?_ | refine w_m 4 ?_ | refine w_m 5 ?_ | refine w_m 6 ?_ | refine w_m 7 ?_ | refine w_m 8 ?_ | refine w_m 9 ?_ | refine w_m 10 ?_ | refine w_m 11 ?_ | refine w_m 12 ?_)
        have e3 : (g : Int) * (v2 : Int) = ((g * v2 : Nat) : Int) := by simp
        rw [e3]
        refine st_dec rfl (fun h1 => ?_) (fun h1 => ?_)
        · repeat (first | refine st_seq ?_ | refine st_region (T := tys) ?_ | refine sl_nil ?_ | refine sk_seq ?_ | refine st_block ?_ | refine sk_block ?_ | refine st_ret ?_ | refine st_exit ?_ | refine st_skip ?_ | refine sk_seq_ret ?_ | refine sk_block_ret ?_ | refine sk_loop_ret ?_ | refine sk_cut_ret ?_ | refine sk_cut_exit ?_ | refine sk_seq_exit ?_ | refine sk_block_here ?_ | refine sk_block_far rfl ?_ | refine sk_loop_exit ?_ | refine st_true rfl ?_ | refine st_false rfl ?_ | refine w_i64 ?_ | refine w_u64 ?_ | refine w_u32 ?_ | refine w_cv ?_ | refine w_cv32 ?_ | refine w_shr ?_ | refine w_shl ?_ | refine w_p ?_ | refine w_no ?_ | refine w_m 0 ?_ | refine w_m 1 ?_ | refine w_m 2 ?_ | refine w_m 3 ?_ | refine w_m 4 ?_ | refine w_m 5 ?_ | refine w_m 6 ?_ | refine w_m 7 ?_ | refine w_m 8 ?_ | refine w_m 9 ?_ | refine w_m 10 ?_ | refine w_m 11 ?_ | refine w_m 12 ?_)
          exact sk_cut (E' := [(7, .int .u64 (g : Int)), (8, .int .u64 (r : Int)), (5, .int .i64 ((n + 2 : Nat) : Int)), (0, .slice (some ⟨b, j0, none⟩) (n + 3) c), (1, .slice pv (n + 2) cv)])
            ⟨rfl, rfl, rfl, rfl, rfl, trivial⟩ ⟨kd.cmp e1 (by omega), rfl, rfl, rfl⟩
        · repeat (first | refine st_seq ?_ | refine st_region (T := tys) ?_ | refine sl_nil ?_ | refine sk_seq ?_ | refine st_block ?_ | refine sk_block ?_ | refine st_ret ?_ | refine st_exit ?_ | refine st_skip ?_ | refine sk_seq_ret ?_ | refine sk_block_ret ?_ | refine sk_loop_ret ?_ | refine sk_cut_ret ?_ | refine sk_cut_exit ?_ | refine sk_seq_exit ?_ | refine sk_block_here ?_ | refine sk_block_far rfl ?_ | refine sk_loop_exit ?_ | refine st_true rfl ?_ | refine st_false rfl ?_ | refine w_i64 ?_ | refine w_u64 ?_ | refine w_u32 ?_ | refine w_cv ?_ | refine w_cv32 ?_ | refine w_shr ?_ | refine w_shl ?_ | refine w_p ?_ | refine w_no ?_ | refine w_m 0 ?_ | refine w_m 1 ?_ | refine w_m 2 ?_ | refine w_m 3 ?_ | refine w_m 4 ?_ | refine w_m 5 ?_ | refine w_m 6 ?_ | refine w_m 7 ?_ | refine w_m 8 ?_ | refine w_m 9 ?_ | refine w_m 10 ?_ | refine w_m 11 ?_ | refine w_m 12 ?_)
          exact sk_cut (E' := [(7, .int .u64 (g : Int)), (5, .int .i64 ((n + 2 : Nat) : Int)), (0, .slice (some ⟨b, j0, none⟩) (n + 3) c), (1, .slice pv (n + 2) cv)])
            ⟨rfl, rfl, rfl, rfl, trivial⟩ ⟨g, hgB, kd.fin hgB e1 (by omega), hq, rfl, rfl, rfl⟩
    · rintro E U' M' ⟨hq', rfl, rfl, rfl⟩
      have hg1 : 0 < g := by
        rcases Nat.eq_zero_or_pos g with h | h
        · subst h; simp at hq'
        · exact h
      obtain ⟨g', rfl⟩ : ∃ g', g = g' + 1 := ⟨g - 1, by omega⟩
      have e3 : g' * v1 + (r + v1) = top := by rw [Nat.add_mul] at e1; omega
      repeat (first | refine st_seq ?_ | refine st_region (T := tys) ?_ | refine sl_nil ?_ | refine sk_seq ?_ | refine st_block ?_ | refine sk_block ?_ | refine st_ret ?_ | refine st_exit ?_ | refine st_skip ?_ | refine sk_seq_ret ?_ | refine sk_block_ret ?_ | refine sk_loop_ret ?_ | refine sk_cut_ret ?_ | refine sk_cut_exit ?_ | refine sk_seq_exit ?_ | refine sk_block_here ?_ | refine sk_block_far rfl ?_ | refine sk_loop_exit ?_ | refine st_true rfl ?_ | refine st_false rfl ?_ | refine w_i64 ?_ | refine w_u64 ?_ | refine w_u32 ?_ | refine w_cv ?_ | refine w_cv32 ?_ | refine w_shr ?_ | refine w_shl ?_ | refine w_p ?_ | refine w_no ?_ | refine w_m 0 ?_ | refine w_m 1 ?_ | refine w_m 2 ?_ | refine w_m 3 ?_ | refine w_m 4 ?_ | refine w_m 5 ?_ | refine w_m 6 ?_ | refine w_m 7 ?_ | refine w_m 8 ?_ | refine w_m 9 ?_ | refine w_m 10 ?_ | refine w_m 11 ?_ | refine w_m 12 ?_)
      refine sl_y (yl_index1 sym rfl rfl rfl rfl rfl ((show ((n + 2 : Nat) : Int) - 1 = ((n + 1 : Nat) : Int) by omega)) (by first | omega | assumption) hpv1) rfl rfl rfl rfl ?_; refine sl_y (yl_loadD sym rfl rfl rfl rfl hcv1) rfl rfl rfl rfl ?_
      repeat (first | refine st_seq ?_ | refine st_region (T := tys) ?_ | refine sl_nil ?_ | refine sk_seq ?_ | refine st_block ?_ | refine sk_block ?_ | refine st_ret ?_ | refine st_exit ?_ | refine st_skip ?_ | refine sk_seq_ret ?_ | refine sk_block_ret ?_ | refine sk_loop_ret ?_ | refine sk_cut_ret ?_ | refine sk_cut_exit ?_ | refine sk_seq_exit ?_ | refine sk_block_here ?_ | refine sk_block_far rfl ?_ | refine sk_loop_exit ?_ | refine st_true rfl ?_ | refine st_false rfl ?_ | refine w_i64 ?_ | refine w_u64 ?_ | refine w_u32 ?_ | refine w_cv ?_ | refine w_cv32 ?_ | refine w_shr ?_ | refine w_shl ?_ | refine w_p ?_ | refine w_no ?_ | refine w_m 0 ?_ | refine w_m 1 ?_ | refine w_m 2 ?_ | refine w_m 3 ?_ | refine w_m 4 ?_ | refine w_m 5 ?_ | refine w_m 6 ?_ | refine w_m 7 ?_ | refine w_m 8 ?_ | refine w_m 9 ?_ | refine w_m 10 ?_ | refine w_m 11 ?_ | refine w_m 12 ?_)
      have e4 : ((g' + 1 : Nat) : Int) - 1 = (g' : Int) := by omega
      rw [e4]
      refine st_dec rfl (fun h1 => ?_) (fun h1 => ?_)
      · repeat (first | refine st_seq ?_ | refine st_region (T := tys) ?_ | refine sl_nil ?_ | refine sk_seq ?_ | refine st_block ?_ | refine sk_block ?_ | refine st_ret ?_ | refine st_exit ?_ | refine st_skip ?_ | refine sk_seq_ret ?_ | refine sk_block_ret ?_ | refine sk_loop_ret ?_ | refine sk_cut_ret ?_ | refine sk_cut_exit ?_ | refine sk_seq_exit ?_ | refine sk_block_here ?_ | refine sk_block_far rfl ?_ | refine sk_loop_exit ?_ | refine st_true rfl ?_ | refine st_false rfl ?_ | refine w_i64 ?_ | refine w_u64 ?_ | refine w_u32 ?_ | refine w_cv ?_ | refine w_cv32 ?_ | refine w_shr ?_ | refine w_shl ?_ | refine w_p ?_ | refine w_no ?_ | refine w_m 0 ?_ | refine w_m 1 ?_ | refine w_m 2 ?_ | refine w_m 3 ?_ | refine w_m 4 ?_ | refine w_m 5 ?_ | refine w_m 6 ?_ | refine w_m 7 ?_ | refine w_m 8 ?_ | refine w_m 9 ?_ | refine w_m 10 ?_ | refine w_m 11 ?_ | refine w_m 12 ?_)
        obtain ⟨g1, g2⟩ := kd.brk e3 (by omega)
        exact sk_cut (E' := [(7, .int .u64 (g' : Int)), (5, .int .i64 ((n + 2 : Nat) : Int)), (0, .slice (some ⟨b, j0, none⟩) (n + 3) c), (1, .slice pv (n + 2) cv)])
          ⟨rfl, rfl, rfl, rfl, trivial⟩ ⟨g', g1, kd.fin g1 e3 g2, hq', rfl, rfl, rfl⟩
      · repeat (first | refine st_seq ?_ | refine st_region (T := tys) ?_ | refine sl_nil ?_ | refine sk_seq ?_ | refine st_block ?_ | refine sk_block ?_ | refine st_ret ?_ | refine st_exit ?_ | refine st_skip ?_ | refine sk_seq_ret ?_ | refine sk_block_ret ?_ | refine sk_loop_ret ?_ | refine sk_cut_ret ?_ | refine sk_cut_exit ?_ | refine sk_seq_exit ?_ | refine sk_block_here ?_ | refine sk_block_far rfl ?_ | refine sk_loop_exit ?_ | refine st_true rfl ?_ | refine st_false rfl ?_ | refine w_i64 ?_ | refine w_u64 ?_ | refine w_u32 ?_ | refine w_cv ?_ | refine w_cv32 ?_ | refine w_shr ?_ | refine w_shl ?_ | refine w_p ?_ | refine w_no ?_ | refine w_m 0 ?_ | refine w_m 1 ?_ | refine w_m 2 ?_ | refine w_m 3 ?_ | refine w_m 4 ?_ | refine w_m 5 ?_ | refine w_m 6 ?_ | refine w_m 7 ?_ | refine w_m 8 ?_ | refine w_m 9 ?_ | refine w_m 10 ?_ | refine w_m 11 ?_ | refine w_m 12 ?_)
        exact sk_again (E' := [(7, .int .u64 (g' : Int)), (8, .int .u64 ((r : Int) + (v1 : Int))), (5, .int .i64 ((n + 2 : Nat) : Int)), (0, .slice (some ⟨b, j0, none⟩) (n + 3) c), (1, .slice pv (n + 2) cv)]) (m := g')
          ⟨rfl, rfl, rfl, rfl, rfl, trivial⟩ (by omega) ⟨g', r + v1, e3, by omega, hq', rfl, rfl, rfl, rfl⟩
  rintro E U' M' ⟨g, hg, hq1, hq2, rfl, rfl, rfl⟩
  repeat (first | refine st_seq ?_ | refine st_region (T := tys) ?_ | refine sl_nil ?_ | refine sk_seq ?_ | refine st_block ?_ | refine sk_block ?_ | refine st_ret ?_ | refine st_exit ?_ | refine st_skip ?_ | refine sk_seq_ret ?_ | refine sk_block_ret ?_ | refine sk_loop_ret ?_ | refine sk_cut_ret ?_ | refine sk_cut_exit ?_ | refine sk_seq_exit ?_ | refine sk_block_here ?_ | refine sk_block_far rfl ?_ | refine sk_loop_exit ?_ | refine st_true rfl ?_ | refine st_false rfl ?_ | refine w_i64 ?_ | refine w_u64 ?_ | refine w_u32 ?_ | refine w_cv ?_ | refine w_cv32 ?_ | refine w_shr ?_ | refine w_shl ?_ | refine w_p ?_ | refine w_no ?_ | refine w_m 0 ?_ | refine w_m 1 ?_ | refine w_m 2 ?_ | refine w_m 3 ?_ | refine w_m 4 ?_ | refine w_m 5 ?_ | refine w_m 6 ?_ | refine w_m 7 ?_ | refine w_m 8 ?_ | refine w_m 9 ?_ | refine w_m 10 ?_ | refine w_m 11 ?_ | refine w_m 12 ?_)
  refine st_loop (fun m E U' M' => ∃ (i cy bo : Nat) (D : List Nat), i ≤ n + 2 ∧ D.length = i ∧ Bd D ∧ cy < 4294967296 ∧ bo ≤ 1 ∧ val D + g * val (vl.take i) = val (ul.take i) + 4294967296 ^ i * (cy + bo) ∧
      E = [(84, .int .i64 (i : Int)), (83, .int .i64 ((n + 2 : Nat) : Int)), (82, .slice pv (n + 2) cv), (7, .int .u64 (g : Int)), (9, .int .u64 (cy : Int)), (10, .int .u32 (bo : Int)), (5, .int .i64 ((n + 2 : Nat) : Int)), (0, .slice (some ⟨b, j0, none⟩) (n + 3) c), (1, .slice pv (n + 2) cv)] ∧
      U = U' ∧ M' = (b, .arr ((pre ++ (D ++ ul.drop i) ++ suf).map dg), TU32) :: M ∧ m = n + 2 - i) (n0 := n + 2)
    (E0 := [(84, .int .i64 ((0 : Nat) : Int)), (83, .int .i64 ((n + 2 : Nat) : Int)), (82, .slice pv (n + 2) cv), (7, .int .u64 (g : Int)), (9, .int .u64 ((0 : Nat) : Int)), (10, .int .u32 ((0 : Nat) : Int)), (5, .int .i64 ((n + 2 : Nat) : Int)), (0, .slice (some ⟨b, j0, none⟩) (n + 3) c), (1, .slice pv (n + 2) cv)])
    ⟨rfl, rfl, rfl, rfl, rfl, rfl, rfl, rfl, rfl, trivial⟩ ⟨0, 0, 0, [], by omega, rfl, (by intro d hd; cases hd), by omega, by omega, by simp [val], rfl, rfl, rfl, rfl⟩ ?_
  rintro m E U' M' ⟨i, cy, bo, D, hi, hD, hbD, hcy, hbo, hv', rfl, rfl, rfl, rfl⟩
  repeat (first | refine st_seq ?_ | refine st_region (T := tys) ?_ | refine sl_nil ?_ | refine sk_seq ?_ | refine st_block ?_ | refine sk_block ?_ | refine st_ret ?_ | refine st_exit ?_ | refine st_skip ?_ | refine sk_seq_ret ?_ | refine sk_block_ret ?_ | refine sk_loop_ret ?_ | refine sk_cut_ret ?_ | refine sk_cut_exit ?_ | refine sk_seq_exit ?_ | refine sk_block_here ?_ | refine sk_block_far rfl ?_ | refine sk_loop_exit ?_ | refine st_true rfl ?_ | refine st_false rfl ?_ | refine w_i64 ?_ | refine w_u64 ?_ | refine w_u32 ?_ | refine w_cv ?_ | refine w_cv32 ?_ | refine w_shr ?_ | refine w_shl ?_ | refine w_p ?_ | refine w_no ?_ | refine w_m 0 ?_ | refine w_m 1 ?_ | refine w_m 2 ?_ | refine w_m 3 ?_ | refine w_m 4 ?_ | refine w_m 5 ?_ | refine w_m 6 ?_ | refine w_m 7 ?_ | refine w_m 8 ?_ | refine w_m 9 ?_ | refine w_m 10 ?_ | refine w_m 11 ?_ | refine w_m 12 ?_)
  refine st_dec rfl (fun h5 => ?_) (fun h5 => ?_)
  · obtain ⟨x, hx, hbx, hp1, hcx⟩ := hv.get (k := i) (by omega)
    replace hcx := fun G w hw => hcx G w (Mem.anti (M' := (b, .arr ((pre ++ (D ++ ul.drop i) ++ suf).map dg), TU32) :: M) hw (ULe.refl _) (List.sublist_cons_self ..))
    obtain ⟨y, hy⟩ : ∃ d, ul[i]? = some d := ⟨_, List.getElem?_eq_getElem (by omega)⟩
    have hby := bd_get hub hy
    have hdr : ul.drop i = y :: ul.drop (i + 1) := by
      obtain ⟨h1, h2⟩ := List.getElem?_eq_some_iff.1 hy
      rw [List.drop_eq_getElem_cons h1, h2]
    have hrow : (D ++ ul.drop i)[i]? = some y := by
      rw [List.getElem?_append_right (by omega), hD, Nat.sub_self, hdr]; rfl
    have hm := Nat.mul_le_mul (show g ≤ 4294967295 by omega) (show x ≤ 4294967295 by omega)
    have hm1 : (g : Int) * (x : Int) = ((g * x : Nat) : Int) := by simp
    have hm' : 0 ≤ (g : Int) * (x : Int) ∧ (g : Int) * (x : Int) ≤ 18446744065119617025 := by omega
    repeat (first | refine st_seq ?_ | refine st_region (T := tys) ?_ | refine sl_nil ?_ | refine sk_seq ?_ | refine st_block ?_ | refine sk_block ?_ | refine st_ret ?_ | refine st_exit ?_ | refine st_skip ?_ | refine sk_seq_ret ?_ | refine sk_block_ret ?_ | refine sk_loop_ret ?_ | refine sk_cut_ret ?_ | refine sk_cut_exit ?_ | refine sk_seq_exit ?_ | refine sk_block_here ?_ | refine sk_block_far rfl ?_ | refine sk_loop_exit ?_ | refine st_true rfl ?_ | refine st_false rfl ?_ | refine w_i64 ?_ | refine w_u64 ?_ | refine w_u32 ?_ | refine w_cv ?_ | refine w_cv32 ?_ | refine w_shr ?_ | refine w_shl ?_ | refine w_p ?_ | refine w_no ?_ | refine w_m 0 ?_ | refine w_m 1 ?_ | refine w_m 2 ?_ | refine w_m 3 ?_ | refine w_m 4 ?_ | refine w_m 5 ?_ | refine w_m 6 ?_ | refine w_m 7 ?_ | refine w_m 8 ?_ | refine w_m 9 ?_ | refine w_m 10 ?_ | refine w_m 11 ?_ | refine w_m 12 ?_)
    refine sl_y (yl_index1 sym rfl rfl rfl rfl rfl rfl (by omega) hp1) rfl rfl rfl rfl ?_; refine sl_y (yl_loadD sym rfl rfl rfl rfl hcx) rfl rfl rfl rfl ?_
    repeat (first | refine st_seq ?_ | refine st_region (T := tys) ?_ | refine sl_nil ?_ | refine sk_seq ?_ | refine st_block ?_ | refine sk_block ?_ | refine st_ret ?_ | refine st_exit ?_ | refine st_skip ?_ | refine sk_seq_ret ?_ | refine sk_block_ret ?_ | refine sk_loop_ret ?_ | refine sk_cut_ret ?_ | refine sk_cut_exit ?_ | refine sk_seq_exit ?_ | refine sk_block_here ?_ | refine sk_block_far rfl ?_ | refine sk_loop_exit ?_ | refine st_true rfl ?_ | refine st_false rfl ?_ | refine w_i64 ?_ | refine w_u64 ?_ | refine w_u32 ?_ | refine w_cv ?_ | refine w_cv32 ?_ | refine w_shr ?_ | refine w_shl ?_ | refine w_p ?_ | refine w_no ?_ | refine w_m 0 ?_ | refine w_m 1 ?_ | refine w_m 2 ?_ | refine w_m 3 ?_ | refine w_m 4 ?_ | refine w_m 5 ?_ | refine w_m 6 ?_ | refine w_m 7 ?_ | refine w_m 8 ?_ | refine w_m 9 ?_ | refine w_m 10 ?_ | refine w_m 11 ?_ | refine w_m 12 ?_)
    have hm2 : (g : Int) * (x : Int) + (cy : Int) = ((g * x + cy : Nat) : Int) := by omega
    have hm3 : g * x + cy < 18446744073709551616 := by omega
    rw [hm2]
    generalize hTT : g * x + cy = TT at *
    repeat (first | refine st_seq ?_ | refine st_region (T := tys) ?_ | refine sl_nil ?_ | refine sk_seq ?_ | refine st_block ?_ | refine sk_block ?_ | refine st_ret ?_ | refine st_exit ?_ | refine st_skip ?_ | refine sk_seq_ret ?_ | refine sk_block_ret ?_ | refine sk_loop_ret ?_ | refine sk_cut_ret ?_ | refine sk_cut_exit ?_ | refine sk_seq_exit ?_ | refine sk_block_here ?_ | refine sk_block_far rfl ?_ | refine sk_loop_exit ?_ | refine st_true rfl ?_ | refine st_false rfl ?_ | refine w_i64 ?_ | refine w_u64 ?_ | refine w_u32 ?_ | refine w_cv ?_ | refine w_cv32 ?_ | refine w_shr ?_ | refine w_shl ?_ | refine w_p ?_ | refine w_no ?_ | refine w_m 0 ?_ | refine w_m 1 ?_ | refine w_m 2 ?_ | refine w_m 3 ?_ | refine w_m 4 ?_ | refine w_m 5 ?_ | refine w_m 6 ?_ | refine w_m 7 ?_ | refine w_m 8 ?_ | refine w_m 9 ?_ | refine w_m 10 ?_ | refine w_m 11 ?_ | refine w_m 12 ?_)
    refine sl_y (yl_indexM (j := i) sym rfl rfl rfl rfl rfl rfl (by omega)) rfl rfl rfl rfl ?_
    refine sl_y (yl_loadMD 0 sym rfl rfl rfl rfl rfl (j := j0 + i) (by omega) (row_get hpre hrow)) rfl rfl rfl rfl ?_
    repeat (first | refine st_seq ?_ | refine st_region (T := tys) ?_ | refine sl_nil ?_ | refine sk_seq ?_ | refine st_block ?_ | refine sk_block ?_ | refine st_ret ?_ | refine st_exit ?_ | refine st_skip ?_ | refine sk_seq_ret ?_ | refine sk_block_ret ?_ | refine sk_loop_ret ?_ | refine sk_cut_ret ?_ | refine sk_cut_exit ?_ | refine sk_seq_exit ?_ | refine sk_block_here ?_ | refine sk_block_far rfl ?_ | refine sk_loop_exit ?_ | refine st_true rfl ?_ | refine st_false rfl ?_ | refine w_i64 ?_ | refine w_u64 ?_ | refine w_u32 ?_ | refine w_cv ?_ | refine w_cv32 ?_ | refine w_shr ?_ | refine w_shl ?_ | refine w_p ?_ | refine w_no ?_ | refine w_m 0 ?_ | refine w_m 1 ?_ | refine w_m 2 ?_ | refine w_m 3 ?_ | refine w_m 4 ?_ | refine w_m 5 ?_ | refine w_m 6 ?_ | refine w_m 7 ?_ | refine w_m 8 ?_ | refine w_m 9 ?_ | refine w_m 10 ?_ | refine w_m 11 ?_ | refine w_m 12 ?_)
    have hm4 : (TT : Int) % 4294967296 = ((TT % 4294967296 : Nat) : Int) := by omega
    rw [hm4]
    refine sl_call rfl rfl rfl rfl rfl rfl (fun _ => Sub32_ex hby (Nat.mod_lt _ (by omega)) hbo) ?_
    rintro v U' D' hU ⟨d, b', rfl, hd, hb', hde, rfl, rfl⟩
    repeat (first | refine st_seq ?_ | refine st_region (T := tys) ?_ | refine sl_nil ?_ | refine sk_seq ?_ | refine st_block ?_ | refine sk_block ?_ | refine st_ret ?_ | refine st_exit ?_ | refine st_skip ?_ | refine sk_seq_ret ?_ | refine sk_block_ret ?_ | refine sk_loop_ret ?_ | refine sk_cut_ret ?_ | refine sk_cut_exit ?_ | refine sk_seq_exit ?_ | refine sk_block_here ?_ | refine sk_block_far rfl ?_ | refine sk_loop_exit ?_ | refine st_true rfl ?_ | refine st_false rfl ?_ | refine w_i64 ?_ | refine w_u64 ?_ | refine w_u32 ?_ | refine w_cv ?_ | refine w_cv32 ?_ | refine w_shr ?_ | refine w_shl ?_ | refine w_p ?_ | refine w_no ?_ | refine w_m 0 ?_ | refine w_m 1 ?_ | refine w_m 2 ?_ | refine w_m 3 ?_ | refine w_m 4 ?_ | refine w_m 5 ?_ | refine w_m 6 ?_ | refine w_m 7 ?_ | refine w_m 8 ?_ | refine w_m 9 ?_ | refine w_m 10 ?_ | refine w_m 11 ?_ | refine w_m 12 ?_)
    refine sl_y (yl_indexM (j := i) sym rfl rfl rfl rfl rfl rfl (by omega)) rfl rfl rfl rfl ?_
    refine sl_storeD 0 sym rfl rfl rfl rfl rfl rfl rfl (j := j0 + i) (by omega) (by simp only [List.length_append, hD, hpre, List.length_drop]; omega) rfl rfl rfl ?_
    rw [hdr, row_set hpre hD]
    repeat (first | refine st_seq ?_ | refine st_region (T := tys) ?_ | refine sl_nil ?_ | refine sk_seq ?_ | refine st_block ?_ | refine sk_block ?_ | refine st_ret ?_ | refine st_exit ?_ | refine st_skip ?_ | refine sk_seq_ret ?_ | refine sk_block_ret ?_ | refine sk_loop_ret ?_ | refine sk_cut_ret ?_ | refine sk_cut_exit ?_ | refine sk_seq_exit ?_ | refine sk_block_here ?_ | refine sk_block_far rfl ?_ | refine sk_loop_exit ?_ | refine st_true rfl ?_ | refine st_false rfl ?_ | refine w_i64 ?_ | refine w_u64 ?_ | refine w_u32 ?_ | refine w_cv ?_ | refine w_cv32 ?_ | refine w_shr ?_ | refine w_shl ?_ | refine w_p ?_ | refine w_no ?_ | refine w_m 0 ?_ | refine w_m 1 ?_ | refine w_m 2 ?_ | refine w_m 3 ?_ | refine w_m 4 ?_ | refine w_m 5 ?_ | refine w_m 6 ?_ | refine w_m 7 ?_ | refine w_m 8 ?_ | refine w_m 9 ?_ | refine w_m 10 ?_ | refine w_m 11 ?_ | refine w_m 12 ?_)
    rw [show (TT : Int) / 2 ^ 32 = ((TT / 4294967296 : Nat) : Int) by omega]
    refine sk_again (E' := [(84, .int .i64 ((i : Int) + 1)), (83, .int .i64 ((n + 2 : Nat) : Int)), (82, .slice pv (n + 2) cv), (7, .int .u64 (g : Int)), (9, .int .u64 ((TT / 4294967296 : Nat) : Int)), (10, .int .u32 (b' : Int)), (5, .int .i64 ((n + 2 : Nat) : Int)), (0, .slice (some ⟨b, j0, none⟩) (n + 3) c), (1, .slice pv (n + 2) cv)]) (m := n + 2 - (i + 1))
      ⟨rfl, rfl, rfl, rfl, rfl, rfl, rfl, rfl, rfl, trivial⟩ (by omega) ⟨i + 1, TT / 4294967296, b', D ++ [d], by omega, by simp [hD], bd_snoc hbD hd, by omega, hb', ?_, rfl, rfl, rfl, rfl⟩
    rw [val_snoc, hD, val_take_succ hx, val_take_succ hy, Nat.pow_succ]
    exact sub_step hv' (by omega) hde
  · have : i = n + 2 := by omega
    subst this
    have hby := hbu0
    have hdr : ul.drop (n + 2) = u0 :: [] := by
      obtain ⟨h1, h2⟩ := List.getElem?_eq_some_iff.1 hu0
      rw [List.drop_eq_getElem_cons h1, h2, List.drop_of_length_le (by omega)]
    have hrow : (D ++ ul.drop (n + 2))[n + 2]? = some u0 := by
      rw [List.getElem?_append_right (by omega), hD, Nat.sub_self, hdr]; rfl
    repeat (first | refine st_seq ?_ | refine st_region (T := tys) ?_ | refine sl_nil ?_ | refine sk_seq ?_ | refine st_block ?_ | refine sk_block ?_ | refine st_ret ?_ | refine st_exit ?_ | refine st_skip ?_ | refine sk_seq_ret ?_ | refine sk_block_ret ?_ | refine sk_loop_ret ?_ | refine sk_cut_ret ?_ | refine sk_cut_exit ?_ | refine sk_seq_exit ?_ | refine sk_block_here ?_ | refine sk_block_far rfl ?_ | refine sk_loop_exit ?_ | refine st_true rfl ?_ | refine st_false rfl ?_ | refine w_i64 ?_ | refine w_u64 ?_ | refine w_u32 ?_ | refine w_cv ?_ | refine w_cv32 ?_ | refine w_shr ?_ | refine w_shl ?_ | refine w_p ?_ | refine w_no ?_ | refine w_m 0 ?_ | refine w_m 1 ?_ | refine w_m 2 ?_ | refine w_m 3 ?_ | refine w_m 4 ?_ | refine w_m 5 ?_ | refine w_m 6 ?_ | refine w_m 7 ?_ | refine w_m 8 ?_ | refine w_m 9 ?_ | refine w_m 10 ?_ | refine w_m 11 ?_ | refine w_m 12 ?_)
    refine sl_y (yl_indexM (j := n + 2) sym rfl rfl rfl rfl rfl rfl (by omega)) rfl rfl rfl rfl ?_
    refine sl_y (yl_loadMD 0 sym rfl rfl rfl rfl rfl (j := j0 + (n + 2)) (by omega) (row_get hpre hrow)) rfl rfl rfl rfl ?_
    repeat (first | refine st_seq ?_ | refine st_region (T := tys) ?_ | refine sl_nil ?_ | refine sk_seq ?_ | refine st_block ?_ | refine sk_block ?_ | refine st_ret ?_ | refine st_exit ?_ | refine st_skip ?_ | refine sk_seq_ret ?_ | refine sk_block_ret ?_ | refine sk_loop_ret ?_ | refine sk_cut_ret ?_ | refine sk_cut_exit ?_ | refine sk_seq_exit ?_ | refine sk_block_here ?_ | refine sk_block_far rfl ?_ | refine sk_loop_exit ?_ | refine st_true rfl ?_ | refine st_false rfl ?_ | refine w_i64 ?_ | refine w_u64 ?_ | refine w_u32 ?_ | refine w_cv ?_ | refine w_cv32 ?_ | refine w_shr ?_ | refine w_shl ?_ | refine w_p ?_ | refine w_no ?_ | refine w_m 0 ?_ | refine w_m 1 ?_ | refine w_m 2 ?_ | refine w_m 3 ?_ | refine w_m 4 ?_ | refine w_m 5 ?_ | refine w_m 6 ?_ | refine w_m 7 ?_ | refine w_m 8 ?_ | refine w_m 9 ?_ | refine w_m 10 ?_ | refine w_m 11 ?_ | refine w_m 12 ?_)
    refine sl_call rfl rfl rfl rfl rfl rfl (fun _ => Sub32_ex hby hcy hbo) ?_
    rintro v U' D' hU ⟨d, b', rfl, hd, hb', hde, rfl, rfl⟩
    repeat (first | refine st_seq ?_ | refine st_region (T := tys) ?_ | refine sl_nil ?_ | refine sk_seq ?_ | refine st_block ?_ | refine sk_block ?_ | refine st_ret ?_ | refine st_exit ?_ | refine st_skip ?_ | refine sk_seq_ret ?_ | refine sk_block_ret ?_ | refine sk_loop_ret ?_ | refine sk_cut_ret ?_ | refine sk_cut_exit ?_ | refine sk_seq_exit ?_ | refine sk_block_here ?_ | refine sk_block_far rfl ?_ | refine sk_loop_exit ?_ | refine st_true rfl ?_ | refine st_false rfl ?_ | refine w_i64 ?_ | refine w_u64 ?_ | refine w_u32 ?_ | refine w_cv ?_ | refine w_cv32 ?_ | refine w_shr ?_ | refine w_shl ?_ | refine w_p ?_ | refine w_no ?_ | refine w_m 0 ?_ | refine w_m 1 ?_ | refine w_m 2 ?_ | refine w_m 3 ?_ | refine w_m 4 ?_ | refine w_m 5 ?_ | refine w_m 6 ?_ | refine w_m 7 ?_ | refine w_m 8 ?_ | refine w_m 9 ?_ | refine w_m 10 ?_ | refine w_m 11 ?_ | refine w_m 12 ?_)
    refine sl_y (yl_indexM (j := n + 2) sym rfl rfl rfl rfl rfl rfl (by omega)) rfl rfl rfl rfl ?_
    refine sl_storeD 0 sym rfl rfl rfl rfl rfl rfl rfl (j := j0 + (n + 2)) (by omega) (by simp only [List.length_append, hD, hpre, List.length_drop]; omega) rfl rfl rfl ?_
    rw [hdr, row_set hpre hD, List.append_nil]
    have hA : val (D ++ [d]) + g * V = UV + 4294967296 ^ (n + 3) * b' := by
      have e4 : val ul = val (ul.take (n + 2)) + 4294967296 ^ (n + 2) * u0 := by rw [← val_take_succ hu0, take_all (by omega)]
      have e6 : 4294967296 ^ (n + 3) = 4294967296 ^ (n + 2) * 4294967296 := Nat.pow_succ _ _
      rw [take_all (l := vl) (by omega), hV] at hv'
      rw [val_snoc, hD, ← hUv, e4, e6]
      exact sub_last hv' hde
    have hAb : Bd (D ++ [d]) := bd_snoc hbD hd
    have hAl : (D ++ [d]).length = n + 3 := by simp [hD]
    have hAlt := val_lt hAb
    rw [hAl] at hAlt
    generalize D ++ [d] = A at *
    clear hrow hdr hde hv' hD hbD
    repeat (first | refine st_region (T := tys) ?_ | refine sl_nil ?_ | refine sk_seq ?_ | refine sk_block ?_ | refine st_ret ?_ | refine st_exit ?_ | refine st_skip ?_ | refine sk_seq_ret ?_ | refine sk_block_ret ?_ | refine sk_loop_ret ?_ | refine sk_cut_ret ?_ | refine sk_cut_exit ?_ | refine sk_seq_exit ?_ | refine sk_block_here ?_ | refine sk_block_far rfl ?_ | refine sk_loop_exit ?_ | refine st_true rfl ?_ | refine st_false rfl ?_ | refine w_i64 ?_ | refine w_u64 ?_ | refine w_u32 ?_ | refine w_cv ?_ | refine w_cv32 ?_ | refine w_shr ?_ | refine w_shl ?_ | refine w_p ?_ | refine w_no ?_ | refine w_m 0 ?_ | refine w_m 1 ?_ | refine w_m 2 ?_ | refine w_m 3 ?_ | refine w_m 4 ?_ | refine w_m 5 ?_ | refine w_m 6 ?_ | refine w_m 7 ?_ | refine w_m 8 ?_ | refine w_m 9 ?_ | refine w_m 10 ?_ | refine w_m 11 ?_ | refine w_m 12 ?_)
    refine st_seq_cut (fun E U' M' => ∃ (q : Nat) (R : List Nat), q < 4294967296 ∧ UV / V = q ∧ R.length = n + 3 ∧ Bd R ∧ val R = UV % V ∧ E = [(7, .int .u64 (q : Int))] ∧ U = U' ∧ M' = (b, .arr ((pre ++ R ++ suf).map dg), TU32) :: M) ?_ ?_
    · repeat (first | refine st_seq ?_ | refine st_region (T := tys) ?_ | refine sl_nil ?_ | refine sk_seq ?_ | refine st_block ?_ | refine sk_block ?_ | refine st_ret ?_ | refine st_exit ?_ | refine st_skip ?_ | refine sk_seq_ret ?_ | refine sk_block_ret ?_ | refine sk_loop_ret ?_ | refine sk_cut_ret ?_ | refine sk_cut_exit ?_ | refine sk_seq_exit ?_ | refine sk_block_here ?_ | refine sk_block_far rfl ?_ | refine sk_loop_exit ?_ | refine st_true rfl ?_ | refine st_false rfl ?_ | refine w_i64 ?_ | refine w_u64 ?_ | refine w_u32 ?_ | refine w_cv ?_ | refine w_cv32 ?_ | refine w_shr ?_ | refine w_shl ?_ | refine w_p ?_ | refine w_no ?_ | refine w_m 0 ?_ | refine w_m 1 ?_ | refine w_m 2 ?_ | refine w_m 3 ?_ | refine w_m 4 ?_ | refine w_m 5 ?_ | refine w_m 6 ?_ | refine w_m 7 ?_ | refine w_m 8 ?_ | refine w_m 9 ?_ | refine w_m 10 ?_ | refine w_m 11 ?_ | refine w_m 12 ?_)
      refine st_ne rfl (fun h6 => ?_) (fun h6 => ?_)
      · have hb1 : b' = 1 := by omega
        subst hb1
        rw [Nat.mul_one] at hA
        obtain ⟨q, rfl⟩ : ∃ q, g = q + 1 := ⟨g - 1, by
          rcases Nat.eq_zero_or_pos g with h | h
          · subst h; simp at hA; omega
          · omega⟩
        rw [Nat.add_mul, Nat.one_mul] at hA hq1
        have hqd := div_of (U := UV) (V := V) (g := q) (R := UV - q * V) (by omega) (by omega)
        repeat (first | refine st_seq ?_ | refine st_region (T := tys) ?_ | refine sl_nil ?_ | refine sk_seq ?_ | refine st_block ?_ | refine sk_block ?_ | refine st_ret ?_ | refine st_exit ?_ | refine st_skip ?_ | refine sk_seq_ret ?_ | refine sk_block_ret ?_ | refine sk_loop_ret ?_ | refine sk_cut_ret ?_ | refine sk_cut_exit ?_ | refine sk_seq_exit ?_ | refine sk_block_here ?_ | refine sk_block_far rfl ?_ | refine sk_loop_exit ?_ | refine st_true rfl ?_ | refine st_false rfl ?_ | refine w_i64 ?_ | refine w_u64 ?_ | refine w_u32 ?_ | refine w_cv ?_ | refine w_cv32 ?_ | refine w_shr ?_ | refine w_shl ?_ | refine w_p ?_ | refine w_no ?_ | refine w_m 0 ?_ | refine w_m 1 ?_ | refine w_m 2 ?_ | refine w_m 3 ?_ | refine w_m 4 ?_ | refine w_m 5 ?_ | refine w_m 6 ?_ | refine w_m 7 ?_ | refine w_m 8 ?_ | refine w_m 9 ?_ | refine w_m 10 ?_ | refine w_m 11 ?_ | refine w_m 12 ?_)
        have e4 : ((q + 1 : Nat) : Int) - 1 = (q : Int) := by omega
        rw [e4]
        refine st_loop (fun m E U' M' => ∃ (i cy : Nat) (D : List Nat), i ≤ n + 2 ∧ D.length = i ∧ Bd D ∧ cy ≤ 1 ∧ val D + 4294967296 ^ i * cy = val (A.take i) + val (vl.take i) ∧
            E = [(132, .int .i64 (i : Int)), (131, .int .i64 ((n + 2 : Nat) : Int)), (130, .slice pv (n + 2) cv), (7, .int .u64 (q : Int)), (14, .int .u32 (cy : Int)), (5, .int .i64 ((n + 2 : Nat) : Int)), (0, .slice (some ⟨b, j0, none⟩) (n + 3) c), (1, .slice pv (n + 2) cv)] ∧
            U = U' ∧ M' = (b, .arr ((pre ++ (D ++ A.drop i) ++ suf).map dg), TU32) :: M ∧ m = n + 2 - i) (n0 := n + 2)
          (E0 := [(132, .int .i64 ((0 : Nat) : Int)), (131, .int .i64 ((n + 2 : Nat) : Int)), (130, .slice pv (n + 2) cv), (7, .int .u64 (q : Int)), (14, .int .u32 ((0 : Nat) : Int)), (5, .int .i64 ((n + 2 : Nat) : Int)), (0, .slice (some ⟨b, j0, none⟩) (n + 3) c), (1, .slice pv (n + 2) cv)])
          ⟨rfl, rfl, rfl, rfl, rfl, rfl, rfl, rfl, trivial⟩ ⟨0, 0, [], by omega, rfl, (by intro d hd; cases hd), by omega, by simp [val], rfl, rfl, rfl, rfl⟩ ?_
        rintro m E U' M' ⟨i, cy, D, hi, hD, hbD, hcy, hv', rfl, rfl, rfl, rfl⟩
        repeat (first | refine st_seq ?_ | refine st_region (T := tys) ?_ | refine sl_nil ?_ | refine sk_seq ?_ | refine st_block ?_ | refine sk_block ?_ | refine st_ret ?_ | refine st_exit ?_ | refine st_skip ?_ | refine sk_seq_ret ?_ | refine sk_block_ret ?_ | refine sk_loop_ret ?_ | refine sk_cut_ret ?_ | refine sk_cut_exit ?_ | refine sk_seq_exit ?_ | refine sk_block_here ?_ | refine sk_block_far rfl ?_ | refine sk_loop_exit ?_ | refine st_true rfl ?_ | refine st_false rfl ?_ | refine w_i64 ?_ | refine w_u64 ?_ | refine w_u32 ?_ | refine w_cv ?_ | refine w_cv32 ?_ | refine w_shr ?_ | refine w_shl ?_ | refine w_p ?_ | refine w_no ?_ | refine w_m 0 ?_ | refine w_m 1 ?_ | refine w_m 2 ?_ | refine w_m 3 ?_ | refine w_m 4 ?_ | refine w_m 5 ?_ | refine w_m 6 ?_ | refine w_m 7 ?_ | refine w_m 8 ?_ | refine w_m 9 ?_ | refine w_m 10 ?_ | refine w_m 11 ?_ | refine w_m 12 ?_)
        refine st_dec rfl (fun h5 => ?_) (fun h5 => ?_)
        · obtain ⟨x, hx, hbx, hp1, hcx⟩ := hv.get (k := i) (by omega)
          replace hcx := fun G w hw => hcx G w (Mem.anti (M' := (b, .arr ((pre ++ (D ++ A.drop i) ++ suf).map dg), TU32) :: M) hw (ULe.refl _) (List.sublist_cons_self ..))
          obtain ⟨y, hy⟩ : ∃ d, A[i]? = some d := ⟨_, List.getElem?_eq_getElem (by omega)⟩
          have hby := bd_get hAb hy
          have hdr : A.drop i = y :: A.drop (i + 1) := by
            obtain ⟨h1, h2⟩ := List.getElem?_eq_some_iff.1 hy
            rw [List.drop_eq_getElem_cons h1, h2]
          have hrow : (D ++ A.drop i)[i]? = some y := by
            rw [List.getElem?_append_right (by omega), hD, Nat.sub_self, hdr]; rfl
          repeat (first | refine st_seq ?_ | refine st_region (T := tys) ?_ | refine sl_nil ?_ | refine sk_seq ?_ | refine st_block ?_ | refine sk_block ?_ | refine st_ret ?_ | refine st_exit ?_ | refine st_skip ?_ | refine sk_seq_ret ?_ | refine sk_block_ret ?_ | refine sk_loop_ret ?_ | refine sk_cut_ret ?_ | refine sk_cut_exit ?_ | refine sk_seq_exit ?_ | refine sk_block_here ?_ | refine sk_block_far rfl ?_ | refine sk_loop_exit ?_ | refine st_true rfl ?_ | refine st_false rfl ?_ | refine w_i64 ?_ | refine w_u64 ?_ | refine w_u32 ?_ | refine w_cv ?_ | refine w_cv32 ?_ | refine w_shr ?_ | refine w_shl ?_ | refine w_p ?_ | refine w_no ?_ | refine w_m 0 ?_ | refine w_m 1 ?_ | refine w_m 2 ?_ | refine w_m 3 ?_ | refine w_m 4 ?_ | refine w_m 5 ?_ | refine w_m 6 ?_ | refine w_m 7 ?_ | refine w_m 8 ?_ | refine w_m 9 ?_ | refine w_m 10 ?_ | refine w_m 11 ?_ | refine w_m 12 ?_)
          refine sl_y (yl_index1 sym rfl rfl rfl rfl rfl rfl (by omega) hp1) rfl rfl rfl rfl ?_; refine sl_y (yl_loadD sym rfl rfl rfl rfl hcx) rfl rfl rfl rfl ?_
          repeat (first | refine st_seq ?_ | refine st_region (T := tys) ?_ | refine sl_nil ?_ | refine sk_seq ?_ | refine st_block ?_ | refine sk_block ?_ | refine st_ret ?_ | refine st_exit ?_ | refine st_skip ?_ | refine sk_seq_ret ?_ | refine sk_block_ret ?_ | refine sk_loop_ret ?_ | refine sk_cut_ret ?_ | refine sk_cut_exit ?_ | refine sk_seq_exit ?_ | refine sk_block_here ?_ | refine sk_block_far rfl ?_ | refine sk_loop_exit ?_ | refine st_true rfl ?_ | refine st_false rfl ?_ | refine w_i64 ?_ | refine w_u64 ?_ | refine w_u32 ?_ | refine w_cv ?_ | refine w_cv32 ?_ | refine w_shr ?_ | refine w_shl ?_ | refine w_p ?_ | refine w_no ?_ | refine w_m 0 ?_ | refine w_m 1 ?_ | refine w_m 2 ?_ | refine w_m 3 ?_ | refine w_m 4 ?_ | refine w_m 5 ?_ | refine w_m 6 ?_ | refine w_m 7 ?_ | refine w_m 8 ?_ | refine w_m 9 ?_ | refine w_m 10 ?_ | refine w_m 11 ?_ | refine w_m 12 ?_)
          refine sl_y (yl_indexM (j := i) sym rfl rfl rfl rfl rfl rfl (by omega)) rfl rfl rfl rfl ?_
          refine sl_y (yl_loadMD 0 sym rfl rfl rfl rfl rfl (j := j0 + i) (by omega) (row_get hpre hrow)) rfl rfl rfl rfl ?_
          repeat (first | refine st_seq ?_ | refine st_region (T := tys) ?_ | refine sl_nil ?_ | refine sk_seq ?_ | refine st_block ?_ | refine sk_block ?_ | refine st_ret ?_ | refine st_exit ?_ | refine st_skip ?_ | refine sk_seq_ret ?_ | refine sk_block_ret ?_ | refine sk_loop_ret ?_ | refine sk_cut_ret ?_ | refine sk_cut_exit ?_ | refine sk_seq_exit ?_ | refine sk_block_here ?_ | refine sk_block_far rfl ?_ | refine sk_loop_exit ?_ | refine st_true rfl ?_ | refine st_false rfl ?_ | refine w_i64 ?_ | refine w_u64 ?_ | refine w_u32 ?_ | refine w_cv ?_ | refine w_cv32 ?_ | refine w_shr ?_ | refine w_shl ?_ | refine w_p ?_ | refine w_no ?_ | refine w_m 0 ?_ | refine w_m 1 ?_ | refine w_m 2 ?_ | refine w_m 3 ?_ | refine w_m 4 ?_ | refine w_m 5 ?_ | refine w_m 6 ?_ | refine w_m 7 ?_ | refine w_m 8 ?_ | refine w_m 9 ?_ | refine w_m 10 ?_ | refine w_m 11 ?_ | refine w_m 12 ?_)
          refine sl_call rfl rfl rfl rfl rfl rfl (fun _ => Add32_ex hby hbx hcy) ?_
          rintro v U' D' hU ⟨d, c', rfl, hd, hc', hde, rfl, rfl⟩
          repeat (first | refine st_seq ?_ | refine st_region (T := tys) ?_ | refine sl_nil ?_ | refine sk_seq ?_ | refine st_block ?_ | refine sk_block ?_ | refine st_ret ?_ | refine st_exit ?_ | refine st_skip ?_ | refine sk_seq_ret ?_ | refine sk_block_ret ?_ | refine sk_loop_ret ?_ | refine sk_cut_ret ?_ | refine sk_cut_exit ?_ | refine sk_seq_exit ?_ | refine sk_block_here ?_ | refine sk_block_far rfl ?_ | refine sk_loop_exit ?_ | refine st_true rfl ?_ | refine st_false rfl ?_ | refine w_i64 ?_ | refine w_u64 ?_ | refine w_u32 ?_ | refine w_cv ?_ | refine w_cv32 ?_ | refine w_shr ?_ | refine w_shl ?_ | refine w_p ?_ | refine w_no ?_ | refine w_m 0 ?_ | refine w_m 1 ?_ | refine w_m 2 ?_ | refine w_m 3 ?_ | refine w_m 4 ?_ | refine w_m 5 ?_ | refine w_m 6 ?_ | refine w_m 7 ?_ | refine w_m 8 ?_ | refine w_m 9 ?_ | refine w_m 10 ?_ | refine w_m 11 ?_ | refine w_m 12 ?_)
          refine sl_y (yl_indexM (j := i) sym rfl rfl rfl rfl rfl rfl (by omega)) rfl rfl rfl rfl ?_
          refine sl_storeD 0 sym rfl rfl rfl rfl rfl rfl rfl (j := j0 + i) (by omega) (by simp only [List.length_append, hD, hpre, List.length_drop]; omega) rfl rfl rfl ?_
          rw [hdr, row_set hpre hD]
          repeat (first | refine st_seq ?_ | refine st_region (T := tys) ?_ | refine sl_nil ?_ | refine sk_seq ?_ | refine st_block ?_ | refine sk_block ?_ | refine st_ret ?_ | refine st_exit ?_ | refine st_skip ?_ | refine sk_seq_ret ?_ | refine sk_block_ret ?_ | refine sk_loop_ret ?_ | refine sk_cut_ret ?_ | refine sk_cut_exit ?_ | refine sk_seq_exit ?_ | refine sk_block_here ?_ | refine sk_block_far rfl ?_ | refine sk_loop_exit ?_ | refine st_true rfl ?_ | refine st_false rfl ?_ | refine w_i64 ?_ | refine w_u64 ?_ | refine w_u32 ?_ | refine w_cv ?_ | refine w_cv32 ?_ | refine w_shr ?_ | refine w_shl ?_ | refine w_p ?_ | refine w_no ?_ | refine w_m 0 ?_ | refine w_m 1 ?_ | refine w_m 2 ?_ | refine w_m 3 ?_ | refine w_m 4 ?_ | refine w_m 5 ?_ | refine w_m 6 ?_ | refine w_m 7 ?_ | refine w_m 8 ?_ | refine w_m 9 ?_ | refine w_m 10 ?_ | refine w_m 11 ?_ | refine w_m 12 ?_)
          refine sk_again (E' := [(132, .int .i64 ((i : Int) + 1)), (131, .int .i64 ((n + 2 : Nat) : Int)), (130, .slice pv (n + 2) cv), (7, .int .u64 (q : Int)), (14, .int .u32 (c' : Int)), (5, .int .i64 ((n + 2 : Nat) : Int)), (0, .slice (some ⟨b, j0, none⟩) (n + 3) c), (1, .slice pv (n + 2) cv)]) (m := n + 2 - (i + 1))
            ⟨rfl, rfl, rfl, rfl, rfl, rfl, rfl, rfl, trivial⟩ (by omega) ⟨i + 1, c', D ++ [d], by omega, by simp [hD], bd_snoc hbD hd, hc', ?_, rfl, rfl, rfl, rfl⟩
          rw [val_snoc, hD, val_take_succ hx, val_take_succ hy, Nat.pow_succ]
          have e5 : 4294967296 ^ i * (d + 4294967296 * c') = 4294967296 ^ i * (y + x + cy) := by rw [hde]
          simp only [Nat.mul_add, Nat.mul_assoc] at *
          omega
        · have : i = n + 2 := by omega
          subst this
          obtain ⟨y, hy⟩ : ∃ d, A[n + 2]? = some d := ⟨_, List.getElem?_eq_getElem (by omega)⟩
          have hby := bd_get hAb hy
          have hdr : A.drop (n + 2) = y :: [] := by
            obtain ⟨h1, h2⟩ := List.getElem?_eq_some_iff.1 hy
            rw [List.drop_eq_getElem_cons h1, h2, List.drop_of_length_le (by omega)]
          have hrow : (D ++ A.drop (n + 2))[n + 2]? = some y := by
            rw [List.getElem?_append_right (by omega), hD, Nat.sub_self, hdr]; rfl
          have hAs : val A = val (A.take (n + 2)) + 4294967296 ^ (n + 2) * y := by rw [← val_take_succ hy, take_all (by omega)]
          have hvt : val (vl.take (n + 2)) = V := by rw [take_all (by omega), hV]
          have hDlt := val_lt hbD
          rw [hD] at hDlt
          rw [hvt] at hv'
          have hsum : y + cy = 4294967296 ∧ val D = UV - q * V := by
            have e6 : 4294967296 ^ (n + 3) = 4294967296 ^ (n + 2) * 4294967296 := Nat.pow_succ _ _
            rw [e6] at hA
            have e7 := val_lt hv.bd
            rw [hl1, hV] at e7
            refine wrap_eq (pw := 4294967296 ^ (n + 2)) ?_ hDlt (by omega)
            rw [Nat.mul_add]
            omega
          obtain ⟨hs1, hs2⟩ := hsum
          repeat (first | refine st_seq ?_ | refine st_region (T := tys) ?_ | refine sl_nil ?_ | refine sk_seq ?_ | refine st_block ?_ | refine sk_block ?_ | refine st_ret ?_ | refine st_exit ?_ | refine st_skip ?_ | refine sk_seq_ret ?_ | refine sk_block_ret ?_ | refine sk_loop_ret ?_ | refine sk_cut_ret ?_ | refine sk_cut_exit ?_ | refine sk_seq_exit ?_ | refine sk_block_here ?_ | refine sk_block_far rfl ?_ | refine sk_loop_exit ?_ | refine st_true rfl ?_ | refine st_false rfl ?_ | refine w_i64 ?_ | refine w_u64 ?_ | refine w_u32 ?_ | refine w_cv ?_ | refine w_cv32 ?_ | refine w_shr ?_ | refine w_shl ?_ | refine w_p ?_ | refine w_no ?_ | refine w_m 0 ?_ | refine w_m 1 ?_ | refine w_m 2 ?_ | refine w_m 3 ?_ | refine w_m 4 ?_ | refine w_m 5 ?_ | refine w_m 6 ?_ | refine w_m 7 ?_ | refine w_m 8 ?_ | refine w_m 9 ?_ | refine w_m 10 ?_ | refine w_m 11 ?_ | refine w_m 12 ?_)
          refine sl_y (yl_indexM (j := n + 2) sym rfl rfl rfl rfl rfl rfl (by omega)) rfl rfl rfl rfl ?_
          refine sl_y (yl_loadMD 0 sym rfl rfl rfl rfl rfl (j := j0 + (n + 2)) (by omega) (row_get hpre hrow)) rfl rfl rfl rfl ?_
          repeat (first | refine st_seq ?_ | refine st_region (T := tys) ?_ | refine sl_nil ?_ | refine sk_seq ?_ | refine st_block ?_ | refine sk_block ?_ | refine st_ret ?_ | refine st_exit ?_ | refine st_skip ?_ | refine sk_seq_ret ?_ | refine sk_block_ret ?_ | refine sk_loop_ret ?_ | refine sk_cut_ret ?_ | refine sk_cut_exit ?_ | refine sk_seq_exit ?_ | refine sk_block_here ?_ | refine sk_block_far rfl ?_ | refine sk_loop_exit ?_ | refine st_true rfl ?_ | refine st_false rfl ?_ | refine w_i64 ?_ | refine w_u64 ?_ | refine w_u32 ?_ | refine w_cv ?_ | refine w_cv32 ?_ | refine w_shr ?_ | refine w_shl ?_ | refine w_p ?_ | refine w_no ?_ | refine w_m 0 ?_ | refine w_m 1 ?_ | refine w_m 2 ?_ | refine w_m 3 ?_ | refine w_m 4 ?_ | refine w_m 5 ?_ | refine w_m 6 ?_ | refine w_m 7 ?_ | refine w_m 8 ?_ | refine w_m 9 ?_ | refine w_m 10 ?_ | refine w_m 11 ?_ | refine w_m 12 ?_)
          rw [IntKind.wrap_u32, show ((y : Int) + (cy : Int)) % 4294967296 = 0 by omega]
          refine sl_y (yl_indexM (j := n + 2) sym rfl rfl rfl rfl rfl rfl (by omega)) rfl rfl rfl rfl ?_
          refine sl_storeD 0 sym rfl rfl rfl (v := 0) rfl rfl rfl rfl (j := j0 + (n + 2)) (by omega) (by simp only [List.length_append, hD, hpre, List.length_drop]; omega) rfl rfl rfl ?_
          rw [hdr, row_set hpre hD, List.append_nil]
          repeat (first | refine st_seq ?_ | refine st_region (T := tys) ?_ | refine sl_nil ?_ | refine sk_seq ?_ | refine st_block ?_ | refine sk_block ?_ | refine st_ret ?_ | refine st_exit ?_ | refine st_skip ?_ | refine sk_seq_ret ?_ | refine sk_block_ret ?_ | refine sk_loop_ret ?_ | refine sk_cut_ret ?_ | refine sk_cut_exit ?_ | refine sk_seq_exit ?_ | refine sk_block_here ?_ | refine sk_block_far rfl ?_ | refine sk_loop_exit ?_ | refine st_true rfl ?_ | refine st_false rfl ?_ | refine w_i64 ?_ | refine w_u64 ?_ | refine w_u32 ?_ | refine w_cv ?_ | refine w_cv32 ?_ | refine w_shr ?_ | refine w_shl ?_ | refine w_p ?_ | refine w_no ?_ | refine w_m 0 ?_ | refine w_m 1 ?_ | refine w_m 2 ?_ | refine w_m 3 ?_ | refine w_m 4 ?_ | refine w_m 5 ?_ | refine w_m 6 ?_ | refine w_m 7 ?_ | refine w_m 8 ?_ | refine w_m 9 ?_ | refine w_m 10 ?_ | refine w_m 11 ?_ | refine w_m 12 ?_)
          refine sk_cut (E' := [(7, .int .u64 (q : Int))]) ⟨rfl, trivial⟩ ⟨q, D ++ [0], by omega, hqd.1, by simp [hD], bd_snoc hbD (by omega), ?_, rfl, rfl, rfl⟩
          rw [val_snoc, hs2, hqd.2, Nat.mul_zero, Nat.add_zero]
      · have hb0 : b' = 0 := by omega
        subst hb0
        have hqd := div_of (U := UV) (V := V) (g := g) (R := val A) (by omega) (by rw [Nat.add_mul] at hq2; omega)
        repeat (first | refine st_seq ?_ | refine st_region (T := tys) ?_ | refine sl_nil ?_ | refine sk_seq ?_ | refine st_block ?_ | refine sk_block ?_ | refine st_ret ?_ | refine st_exit ?_ | refine st_skip ?_ | refine sk_seq_ret ?_ | refine sk_block_ret ?_ | refine sk_loop_ret ?_ | refine sk_cut_ret ?_ | refine sk_cut_exit ?_ | refine sk_seq_exit ?_ | refine sk_block_here ?_ | refine sk_block_far rfl ?_ | refine sk_loop_exit ?_ | refine st_true rfl ?_ | refine st_false rfl ?_ | refine w_i64 ?_ | refine w_u64 ?_ | refine w_u32 ?_ | refine w_cv ?_ | refine w_cv32 ?_ | refine w_shr ?_ | refine w_shl ?_ | refine w_p ?_ | refine w_no ?_ | refine w_m 0 ?_ | refine w_m 1 ?_ | refine w_m 2 ?_ | refine w_m 3 ?_ | refine w_m 4 ?_ | refine w_m 5 ?_ | refine w_m 6 ?_ | refine w_m 7 ?_ | refine w_m 8 ?_ | refine w_m 9 ?_ | refine w_m 10 ?_ | refine w_m 11 ?_ | refine w_m 12 ?_)
        exact sk_cut (E' := [(7, .int .u64 (g : Int))]) ⟨rfl, trivial⟩ ⟨g, A, hg, hqd.1, hAl, hAb, hqd.2.symm, rfl, rfl, rfl⟩
    · rintro E U' M' ⟨q, R, hq, hq3, hR, hbR, hvR, rfl, rfl, rfl⟩
      repeat (first | refine st_seq ?_ | refine st_region (T := tys) ?_ | refine sl_nil ?_ | refine sk_seq ?_ | refine st_block ?_ | refine sk_block ?_ | refine st_ret ?_ | refine st_exit ?_ | refine st_skip ?_ | refine sk_seq_ret ?_ | refine sk_block_ret ?_ | refine sk_loop_ret ?_ | refine sk_cut_ret ?_ | refine sk_cut_exit ?_ | refine sk_seq_exit ?_ | refine sk_block_here ?_ | refine sk_block_far rfl ?_ | refine sk_loop_exit ?_ | refine st_true rfl ?_ | refine st_false rfl ?_ | refine w_i64 ?_ | refine w_u64 ?_ | refine w_u32 ?_ | refine w_cv ?_ | refine w_cv32 ?_ | refine w_shr ?_ | refine w_shl ?_ | refine w_p ?_ | refine w_no ?_ | refine w_m 0 ?_ | refine w_m 1 ?_ | refine w_m 2 ?_ | refine w_m 3 ?_ | refine w_m 4 ?_ | refine w_m 5 ?_ | refine w_m 6 ?_ | refine w_m 7 ?_ | refine w_m 8 ?_ | refine w_m 9 ?_ | refine w_m 10 ?_ | refine w_m 11 ?_ | refine w_m 12 ?_)
      refine sk_retX sym rfl (.cons (.tmp rfl) .nil) (ULe.refl _) (List.Sublist.refl _) (.inl rfl) ?_
      exact ⟨by rw [hq3]; rfl, rfl, R, hR, hbR, hvR, rfl⟩

end Go.Proofs.Ytcakainebimmdaa
