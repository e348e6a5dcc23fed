/- Walks of bigint, 16: bits, small integers. -/
import Derived.Test.YtcakainebimmdaaB15
namespace Go.Hp
theorem blen_val {r : List Nat} {d : Nat} (hb : Bd r) (hd : d ≠ 0) : blen (val (r ++ [d])) = 32 * r.length + blen d := by
  have k1 := blen_lt d
  have k2 := blen_le hd
  have k3 := blen_pos hd
  obtain ⟨k, hk⟩ : ∃ k, blen d = k + 1 := ⟨blen d - 1, by omega⟩
  rw [hk] at k1 k2 ⊢
  rw [Nat.add_sub_cancel] at k2
  have e : 4294967296 ^ r.length = 2 ^ (32 * r.length) := by rw [Nat.pow_mul]
  have h := val_lt hb
  have a1 := Nat.mul_le_mul_left (4294967296 ^ r.length) k2
  have a2 := Nat.mul_le_mul_left (4294967296 ^ r.length) (show d + 1 ≤ 2 ^ (k + 1) from k1)
  rw [Nat.mul_add] at a2
  have p1 : 4294967296 ^ r.length * 2 ^ k = 2 ^ (32 * r.length + k) := by rw [e, ← Nat.pow_add]
  have p2 : 4294967296 ^ r.length * 2 ^ (k + 1) = 2 ^ (32 * r.length + k + 1) := by rw [e, ← Nat.pow_add]; rfl
  rw [p1] at a1
  rw [p2] at a2
  have := blen_of (n := val (r ++ [d])) (k := 32 * r.length + k) (by rw [val_snoc]; omega) (by rw [val_snoc]; omega)
  omega
end Go.Hp
namespace Go.Proofs.Ytcakainebimmdaa
open Go.Hp
variable {G : World} {U : UH} {M : MH}

theorem Bits_ct {x : IV} {z : Int} (hx : x.rep U M z) (hn : x.n ≤ 1099511627776) :
    Ct Try.prog 25 [x.v] G U M fun v U' D => v = .int .i64 (blen z.natAbs : Int) ∧ U = U' ∧ D = [] := by
  obtain ⟨neg, p, n, c⟩ := x
  obtain ⟨l, hd, rfl⟩ := hx
  simp only at hd hn
  rw [sg_natAbs, ← val_tl l]
  have hle : (tl l).length ≤ n := by have := tl_length_le l; have := hd.len; omega
  have ht := hd.tl
  have hc := cn_tl hd.bd
  refine ct_of_st Try.func25 rfl rfl rfl rfl ?_
  repeat (first | refine st_seq ?_ | refine st_region (T := tys) ?_ | refine sl_nil ?_ | refine sk_seq ?_ | refine st_block ?_ | refine sk_block ?_ | refine st_ret ?_ | refine st_exit ?_ | refine st_skip ?_ | refine sk_seq_ret ?_ | refine sk_block_ret ?_ | refine sk_loop_ret ?_ | refine sk_cut_ret ?_ | refine sk_cut_exit ?_ | refine sk_seq_exit ?_ | refine sk_block_here ?_ | refine sk_block_far rfl ?_ | refine sk_loop_exit ?_ | refine st_true rfl ?_ | refine st_false rfl ?_ | refine w_i64 ?_ | refine w_u64 ?_ | refine w_u32 ?_ | refine w_cv ?_ | refine w_cv32 ?_ | refine w_shr ?_ | refine w_shl ?_ | refine w_p ?_ | refine w_no ?_ | refine w_m 0 ?_ | refine w_m 1 ?_ | refine w_m 2 ?_ | refine w_m 3 ?_ | refine w_m 4 ?_ | refine w_m 5 ?_ | refine w_m 6 ?_ | refine w_m 7 ?_ | refine w_m 8 ?_ | refine w_m 9 ?_ | refine w_m 10 ?_ | refine w_m 11 ?_ | refine w_m 12 ?_ | refine w_box (fun _ => ?_) | refine w_al (fun _ => ?_) | refine w_t 0 ?_ | refine w_t 1 ?_ | refine w_t 2 ?_ | refine w_t 3 ?_ | refine w_t 4 ?_ | refine w_t 5 ?_ | refine w_t 6 ?_ | refine w_t 7 ?_ | refine w_t 8 ?_ | refine w_t 9 ?_ | refine w_t 10 ?_ | refine w_t 11 ?_ | refine w_t 12 ?_)
  refine sl_call rfl rfl rfl rfl rfl rfl (fun _ => trimmed_ct ((hd.up (ULe.refl _) (.cons _ (List.Sublist.refl _))).app _)) ?_
  rintro v U' D hU ⟨rfl, rfl, rfl⟩
  generalize tl l = a at *
  repeat (first | refine st_seq ?_ | refine st_region (T := tys) ?_ | refine sl_nil ?_ | refine sk_seq ?_ | refine st_block ?_ | refine sk_block ?_ | refine st_ret ?_ | refine st_exit ?_ | refine st_skip ?_ | refine sk_seq_ret ?_ | refine sk_block_ret ?_ | refine sk_loop_ret ?_ | refine sk_cut_ret ?_ | refine sk_cut_exit ?_ | refine sk_seq_exit ?_ | refine sk_block_here ?_ | refine sk_block_far rfl ?_ | refine sk_loop_exit ?_ | refine st_true rfl ?_ | refine st_false rfl ?_ | refine w_i64 ?_ | refine w_u64 ?_ | refine w_u32 ?_ | refine w_cv ?_ | refine w_cv32 ?_ | refine w_shr ?_ | refine w_shl ?_ | refine w_p ?_ | refine w_no ?_ | refine w_m 0 ?_ | refine w_m 1 ?_ | refine w_m 2 ?_ | refine w_m 3 ?_ | refine w_m 4 ?_ | refine w_m 5 ?_ | refine w_m 6 ?_ | refine w_m 7 ?_ | refine w_m 8 ?_ | refine w_m 9 ?_ | refine w_m 10 ?_ | refine w_m 11 ?_ | refine w_m 12 ?_ | refine w_box (fun _ => ?_) | refine w_al (fun _ => ?_) | refine w_t 0 ?_ | refine w_t 1 ?_ | refine w_t 2 ?_ | refine w_t 3 ?_ | refine w_t 4 ?_ | refine w_t 5 ?_ | refine w_t 6 ?_ | refine w_t 7 ?_ | refine w_t 8 ?_ | refine w_t 9 ?_ | refine w_t 10 ?_ | refine w_t 11 ?_ | refine w_t 12 ?_)
  refine st_eq rfl (fun h0 => ?_) (fun h0 => ?_)
  · have ha : a = [] := List.eq_nil_of_length_eq_zero (by omega)
    repeat (first | refine st_seq ?_ | refine st_region (T := tys) ?_ | refine sl_nil ?_ | refine sk_seq ?_ | refine st_block ?_ | refine sk_block ?_ | refine st_ret ?_ | refine st_exit ?_ | refine st_skip ?_ | refine sk_seq_ret ?_ | refine sk_block_ret ?_ | refine sk_loop_ret ?_ | refine sk_cut_ret ?_ | refine sk_cut_exit ?_ | refine sk_seq_exit ?_ | refine sk_block_here ?_ | refine sk_block_far rfl ?_ | refine sk_loop_exit ?_ | refine st_true rfl ?_ | refine st_false rfl ?_ | refine w_i64 ?_ | refine w_u64 ?_ | refine w_u32 ?_ | refine w_cv ?_ | refine w_cv32 ?_ | refine w_shr ?_ | refine w_shl ?_ | refine w_p ?_ | refine w_no ?_ | refine w_m 0 ?_ | refine w_m 1 ?_ | refine w_m 2 ?_ | refine w_m 3 ?_ | refine w_m 4 ?_ | refine w_m 5 ?_ | refine w_m 6 ?_ | refine w_m 7 ?_ | refine w_m 8 ?_ | refine w_m 9 ?_ | refine w_m 10 ?_ | refine w_m 11 ?_ | refine w_m 12 ?_ | refine w_box (fun _ => ?_) | refine w_al (fun _ => ?_) | refine w_t 0 ?_ | refine w_t 1 ?_ | refine w_t 2 ?_ | refine w_t 3 ?_ | refine w_t 4 ?_ | refine w_t 5 ?_ | refine w_t 6 ?_ | refine w_t 7 ?_ | refine w_t 8 ?_ | refine w_t 9 ?_ | refine w_t 10 ?_ | refine w_t 11 ?_ | refine w_t 12 ?_)
    refine sk_ret [] sym rfl (.cons (.tmp rfl) .nil) (ULe.refl _) (.cons _ (List.Sublist.refl _)) (.inl rfl) ⟨?_, rfl, rfl⟩
    rw [ha]; rfl
  · rcases snoc_cases a with rfl | ⟨r, d, rfl⟩
    · exact absurd rfl h0
    have hd0 := hc.last
    have hbl := blen_val (r := r) (d := d) (fun x hx => hc.bd x (List.mem_append_left _ hx)) hd0
    have hlen : (r ++ [d]).length = r.length + 1 := by simp
    obtain ⟨d', hx, hbx, hp, hcx⟩ := (ht.up (U' := U) (ULe.refl _) (.cons _ (List.Sublist.refl _))).get (k := r.length) (by omega)
    rw [List.getElem?_append_right (Nat.le_refl _), Nat.sub_self] at hx
    cases hx
    rw [hbl]
    rw [hlen] at hle
    have hb32 : blen d ≤ 32 := blen_le_of (k := 32) (by omega)
    repeat (first | refine st_seq ?_ | refine st_region (T := tys) ?_ | refine sl_nil ?_ | refine sk_seq ?_ | refine st_block ?_ | refine sk_block ?_ | refine st_ret ?_ | refine st_exit ?_ | refine st_skip ?_ | refine sk_seq_ret ?_ | refine sk_block_ret ?_ | refine sk_loop_ret ?_ | refine sk_cut_ret ?_ | refine sk_cut_exit ?_ | refine sk_seq_exit ?_ | refine sk_block_here ?_ | refine sk_block_far rfl ?_ | refine sk_loop_exit ?_ | refine st_true rfl ?_ | refine st_false rfl ?_ | refine w_i64 ?_ | refine w_u64 ?_ | refine w_u32 ?_ | refine w_cv ?_ | refine w_cv32 ?_ | refine w_shr ?_ | refine w_shl ?_ | refine w_p ?_ | refine w_no ?_ | refine w_m 0 ?_ | refine w_m 1 ?_ | refine w_m 2 ?_ | refine w_m 3 ?_ | refine w_m 4 ?_ | refine w_m 5 ?_ | refine w_m 6 ?_ | refine w_m 7 ?_ | refine w_m 8 ?_ | refine w_m 9 ?_ | refine w_m 10 ?_ | refine w_m 11 ?_ | refine w_m 12 ?_ | refine w_box (fun _ => ?_) | refine w_al (fun _ => ?_) | refine w_t 0 ?_ | refine w_t 1 ?_ | refine w_t 2 ?_ | refine w_t 3 ?_ | refine w_t 4 ?_ | refine w_t 5 ?_ | refine w_t 6 ?_ | refine w_t 7 ?_ | refine w_t 8 ?_ | refine w_t 9 ?_ | refine w_t 10 ?_ | refine w_t 11 ?_ | refine w_t 12 ?_)
    refine sl_y (yl_index1 sym rfl rfl rfl rfl rfl ((show (((r ++ [d]).length : Nat) : Int) - 1 = ((r.length : Nat) : Int) by rw [hlen]; omega)) (by first | omega | assumption) hp) rfl rfl rfl rfl ?_; refine sl_y (yl_loadD sym rfl rfl rfl rfl hcx) rfl rfl rfl rfl ?_
    repeat (first | refine st_seq ?_ | refine st_region (T := tys) ?_ | refine sl_nil ?_ | refine sk_seq ?_ | refine st_block ?_ | refine sk_block ?_ | refine st_ret ?_ | refine st_exit ?_ | refine st_skip ?_ | refine sk_seq_ret ?_ | refine sk_block_ret ?_ | refine sk_loop_ret ?_ | refine sk_cut_ret ?_ | refine sk_cut_exit ?_ | refine sk_seq_exit ?_ | refine sk_block_here ?_ | refine sk_block_far rfl ?_ | refine sk_loop_exit ?_ | refine st_true rfl ?_ | refine st_false rfl ?_ | refine w_i64 ?_ | refine w_u64 ?_ | refine w_u32 ?_ | refine w_cv ?_ | refine w_cv32 ?_ | refine w_shr ?_ | refine w_shl ?_ | refine w_p ?_ | refine w_no ?_ | refine w_m 0 ?_ | refine w_m 1 ?_ | refine w_m 2 ?_ | refine w_m 3 ?_ | refine w_m 4 ?_ | refine w_m 5 ?_ | refine w_m 6 ?_ | refine w_m 7 ?_ | refine w_m 8 ?_ | refine w_m 9 ?_ | refine w_m 10 ?_ | refine w_m 11 ?_ | refine w_m 12 ?_ | refine w_box (fun _ => ?_) | refine w_al (fun _ => ?_) | refine w_t 0 ?_ | refine w_t 1 ?_ | refine w_t 2 ?_ | refine w_t 3 ?_ | refine w_t 4 ?_ | refine w_t 5 ?_ | refine w_t 6 ?_ | refine w_t 7 ?_ | refine w_t 8 ?_ | refine w_t 9 ?_ | refine w_t 10 ?_ | refine w_t 11 ?_ | refine w_t 12 ?_)
    refine sl_call rfl rfl rfl rfl rfl rfl (fun _ => Len32_ct hbx) ?_
    rintro v U' D hU ⟨rfl, rfl, rfl⟩
    repeat (first | refine st_seq ?_ | refine st_region (T := tys) ?_ | refine sl_nil ?_ | refine sk_seq ?_ | refine st_block ?_ | refine sk_block ?_ | refine st_ret ?_ | refine st_exit ?_ | refine st_skip ?_ | refine sk_seq_ret ?_ | refine sk_block_ret ?_ | refine sk_loop_ret ?_ | refine sk_cut_ret ?_ | refine sk_cut_exit ?_ | refine sk_seq_exit ?_ | refine sk_block_here ?_ | refine sk_block_far rfl ?_ | refine sk_loop_exit ?_ | refine st_true rfl ?_ | refine st_false rfl ?_ | refine w_i64 ?_ | refine w_u64 ?_ | refine w_u32 ?_ | refine w_cv ?_ | refine w_cv32 ?_ | refine w_shr ?_ | refine w_shl ?_ | refine w_p ?_ | refine w_no ?_ | refine w_m 0 ?_ | refine w_m 1 ?_ | refine w_m 2 ?_ | refine w_m 3 ?_ | refine w_m 4 ?_ | refine w_m 5 ?_ | refine w_m 6 ?_ | refine w_m 7 ?_ | refine w_m 8 ?_ | refine w_m 9 ?_ | refine w_m 10 ?_ | refine w_m 11 ?_ | refine w_m 12 ?_ | refine w_box (fun _ => ?_) | refine w_al (fun _ => ?_) | refine w_t 0 ?_ | refine w_t 1 ?_ | refine w_t 2 ?_ | refine w_t 3 ?_ | refine w_t 4 ?_ | refine w_t 5 ?_ | refine w_t 6 ?_ | refine w_t 7 ?_ | refine w_t 8 ?_ | refine w_t 9 ?_ | refine w_t 10 ?_ | refine w_t 11 ?_ | refine w_t 12 ?_)
    refine sk_ret [] sym rfl (.cons (.tmp rfl) .nil) (ULe.refl _) (.cons _ (List.Sublist.refl _)) (.inl rfl) ⟨?_, rfl, rfl⟩
    simp only [tup, hlen]
    congr 1
    omega

end Go.Proofs.Ytcakainebimmdaa
