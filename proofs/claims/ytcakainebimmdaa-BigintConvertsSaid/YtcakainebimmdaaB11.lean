/- Walks of bigint, 11: quotient and remainder of digits. -/
import Derived.Test.YtcakainebimmdaaB9
import Derived.Test.YtcakainebimmdaaB10
import Derived.Test.YtcakainebimmdaaHp
namespace Go.Hp

theorem norm_top {b l : List Nat} {m bt s : Nat} (cb : Cn b) (hl : b.length = m + 1) (hbt : b[m]? = some bt) (h2 : Bd l) (hs : s = 32 - blen bt) (hv : val l = val b * 2 ^ s) :
    s < 32 ∧ (tl l).length = m + 1 ∧ 2147483648 ≤ (tl l).getD m 0 ∧ 2147483648 * 4294967296 ^ m ≤ val l := by
  have hbB := bd_get cb.bd hbt
  have hb0 : bt ≠ 0 := by
    obtain ⟨h1, h2⟩ := List.getElem?_eq_some_iff.1 hbt
    have e : b.take m ++ [bt] = b := by
      rw [← h2, ← List.take_succ_eq_append_getElem h1, take_all (by omega)]
    rw [← e] at cb
    exact cb.last
  have k1 := blen_lt bt
  have k2 := blen_le hb0
  have k3 := blen_pos hb0
  have k4 : blen bt ≤ 32 := blen_le_of (k := 32) (by omega)
  obtain ⟨k, hk⟩ : ∃ k, blen bt = k + 1 := ⟨blen bt - 1, by omega⟩
  rw [hk] at hs k1 k2 k4
  rw [Nat.add_sub_cancel] at k2
  have p1 : 2 ^ k * 2 ^ s = 2147483648 := by rw [← Nat.pow_add, show k + s = 31 by omega]
  have p2 : 2 ^ (k + 1) * 2 ^ s = 4294967296 := by rw [← Nat.pow_add, show k + 1 + s = 32 by omega]
  have q1 := Nat.mul_le_mul_right (2 ^ s) k2
  have q2 := Nat.mul_le_mul_right (2 ^ s) (show bt + 1 ≤ 2 ^ (k + 1) from k1)
  rw [p1] at q1
  rw [p2] at q2
  have e : val b = val (b.take m) + 4294967296 ^ m * bt := by rw [← val_take_succ hbt, take_all (by omega)]
  have h3 := val_lt (bd_take cb.bd m)
  rw [List.length_take, Nat.min_eq_left (by omega)] at h3
  generalize hw : 2 ^ s = w at *
  have r1 : 4294967296 ^ m * 2147483648 ≤ val l := by
    rw [hv, e, Nat.add_mul, Nat.mul_assoc]
    have := Nat.mul_le_mul_left (4294967296 ^ m) q1
    omega
  have r2 : val l < 4294967296 ^ m * 4294967296 := by
    have a1 : val b + 1 ≤ 4294967296 ^ m * (bt + 1) := by rw [Nat.mul_add]; omega
    have a2 := Nat.mul_le_mul_right w a1
    rw [Nat.mul_assoc, Nat.add_mul] at a2
    have a3 := Nat.mul_le_mul_left (4294967296 ^ m) q2
    have a4 : 0 < w := by rw [← hw]; exact Nat.two_pow_pos s
    omega
  have cc := cn_tl h2
  have cv := val_tl l
  have r3 := val_lt cc.bd
  have pm : 0 < 4294967296 ^ m := Nat.pow_pos (by omega)
  have hlen : (tl l).length = m + 1 := by
    have g1 : m < (tl l).length := by
      rcases Nat.lt_or_ge m (tl l).length with h | h
      · exact h
      · exfalso
        have : 4294967296 ^ (tl l).length ≤ 4294967296 ^ m := Nat.pow_le_pow_right (by omega) h
        omega
    have g2 := cc.ge (fun h => by rw [h] at g1; simp at g1)
    rcases Nat.lt_or_ge (m + 1) (tl l).length with h | h
    · exfalso
      have : 4294967296 ^ (m + 1) ≤ 4294967296 ^ ((tl l).length - 1) := Nat.pow_le_pow_right (by omega) (by omega)
      rw [Nat.pow_succ] at this
      omega
    · omega
  obtain ⟨t, ht⟩ : ∃ t, (tl l)[m]? = some t := ⟨_, List.getElem?_eq_getElem (by omega)⟩
  refine ⟨by omega, hlen, ?_, by rw [Nat.mul_comm]; exact r1⟩
  have e2 : val (tl l) = val ((tl l).take m) + 4294967296 ^ m * t := by rw [← val_take_succ ht, take_all (by omega)]
  have h4 := val_lt (bd_take cc.bd m)
  rw [List.length_take, Nat.min_eq_left (by omega)] at h4
  have e3 : (tl l).getD m 0 = t := by simp [List.getD, ht]
  rw [e3]
  have : 4294967296 ^ m * 2147483648 < 4294967296 ^ m * (t + 1) := by rw [Nat.mul_add]; omega
  have := Nat.lt_of_mul_lt_mul_left this
  omega

/-- One step of the long division. -/
theorem long_step {X V x W : Nat} (hW : W = x + 4294967296 * (X % V)) (hx : x < 4294967296) (hV : 0 < V) : W < V * 4294967296 ∧ W / V < 4294967296 ∧ (x + 4294967296 * X) % V = W % V ∧ (x + 4294967296 * X) / V = W / V + 4294967296 * (X / V) := by
  have h1 := Nat.mod_lt X hV
  have h2 : W < V * 4294967296 := by
    have : 4294967296 * (X % V + 1) ≤ 4294967296 * V := Nat.mul_le_mul_left _ h1
    omega
  have e : x + 4294967296 * X = W + V * (4294967296 * (X / V)) := by
    have := Nat.mod_add_div X V
    rw [hW, Nat.mul_left_comm, Nat.add_assoc, ← Nat.mul_add, this]
  refine ⟨h2, Nat.div_lt_of_lt_mul h2, ?_, ?_⟩
  · rw [e, Nat.add_mul_mod_self_left]
  · rw [e, Nat.add_mul_div_left _ _ hV]

/-- Digits that are less than the number that one digit less can hold end in nought. -/
theorem last_zero {l : List Nat} {n : Nat} (hl : l.length = n + 1) (hb : Bd l) (h : val l < 4294967296 ^ n) : ∃ r, l = r ++ [0] ∧ r.length = n ∧ Bd r ∧ val r = val l := by
  rcases snoc_cases l with rfl | ⟨r, d, rfl⟩
  · cases hl
  · have hr : r.length = n := by simpa using hl
    rw [val_snoc, hr] at h
    have : d = 0 := by
      rcases Nat.eq_zero_or_pos d with h1 | h1
      · exact h1
      · exfalso
        have := Nat.mul_le_mul_left (4294967296 ^ n) (show 1 ≤ d from h1)
        omega
    subst this
    exact ⟨r, rfl, hr, fun x hx => hb x (List.mem_append_left _ hx), by rw [val_snoc]; omega⟩
end Go.Hp

namespace Go.Proofs.Ytcakainebimmdaa
open Go.Hp
variable {G : World} {U : UH} {M : MH}

theorem yl_sliceM {P : Program} {T : TT} {N : Nat} {E : Env} {o : Oper} {t e : Nat} {x y y' : Operand} {b n c l len bt bt' bt'' : Nat} {z z' : Value} {ek : TK} {k k' : IntKind} {iv iv' : Int} (hS : Sym P T) (ho : o.op = .slice t x (some y) (some y') none) (hx : ev E x = some (.slice (some ⟨b, 0, none⟩) n c))
    (hT : lkT T t = some ⟨.slice e, bt, bt', z⟩) (he : lkT T e = some ⟨ek, 1, bt'', z'⟩) (hy : ev E y = some (.int k iv)) (hy' : ev E y' = some (.int k' iv')) (hl : iv = (l : Int)) (hl' : iv' = ((l + len : Nat) : Int)) (h2 : l + len ≤ c) (h3 : l < c) :
    Yl P N G o E U M (.slice (some ⟨b, l, none⟩) len (c - l)) := by
  have := yl_slice (N := N) (G := G) (U := U) (M := M) hS ho hx hT he (.inr ⟨y, k, iv, rfl, hy, hl⟩) (.inr ⟨y', k', iv', rfl, hy', hl'⟩) (Nat.le_add_right l len) h2
  rw [if_neg (by omega), Nat.add_sub_cancel_left] at this
  simpa [add_lit] using this

theorem shiftedS_ct {p : Option Addr} {n c s : Nat} {a : List Nat} (ha : Dig U M p n c a) (hs : s < 32) (hn : n ≤ 1099511627776) :
    Ct Try.prog 89 [.slice p n c, .int .u64 (s : Int)] G U M fun v U' D => D = [] ∧ ∃ q l, v = .slice q (n + 1) (n + 1) ∧ Dig U' [] q (n + 1) (n + 1) l ∧ val l = val a * 2 ^ s := by
  have h := shifted_ct (G := G) ha hs hn
  refine ⟨h.callable, fun w hw => (h.calls w hw).mono ?_⟩
  rintro e w' ⟨v, U', D, h1, h2, h3, bo, l, rfl, rfl, h6, h7, h8, rfl⟩
  have ho := Own.row (b := bo) (n := n + 1) (c := n + 1) (r := l) (Nat.le_refl _) h6 (by have := ha.capm; omega) h7
  rw [take_all (by omega)] at ho
  obtain ⟨U2, g1, g2, g3⟩ := ho.settle h3
  exact ⟨_, U2, [], h1, g1, g2, rfl, _, l, rfl, g3, h8⟩

set_option maxHeartbeats 4000000 in
theorem divide_ct {p p' : Option Addr} {n c n' c' : Nat} {a b : List Nat} (ha : Dig U M p n c a) (hb : Dig U M p' n' c' b) (ca : Cn a) (cb : Cn b) (hb0 : 0 < n') (hn : n ≤ 1099511627776) (hn' : n' ≤ 1099511627776) :
    Ct Try.prog 70 [.slice p n c, .slice p' n' c'] G U M fun v U' D => ∃ q k cc lq r k' cc' lr Dq Dr, v = .tuple #[.slice q k cc, .slice r k' cc'] ∧ D = Dr ++ Dq ∧ Own Dq q k cc lq ∧ Own Dr r k' cc' lr ∧ Cn lq ∧ Cn lr ∧ val lq = val a / val b ∧ val lr = val a % val b ∧ ULe U U' := by
  have hl1 := ha.len
  have hl2 := hb.len
  have h3 := ha.capm
  have h4 := ha.cap
  have hvb : 0 < val b := by
    rcases Nat.eq_zero_or_pos (val b) with h | h
    · have := cb.zero.1 h; subst this; simp at hl2; omega
    · exact h
  refine ct_of_st Try.func70 rfl rfl rfl rfl ?_
  repeat (first | refine st_seq ?_ | refine st_region (T := tys) ?_ | refine sl_nil ?_ | refine sk_seq ?_ | refine st_block ?_ | refine sk_block ?_ | refine st_ret ?_ | refine st_exit ?_ | refine st_skip ?_ | refine sk_seq_ret ?_ | refine sk_block_ret ?_ | refine sk_loop_ret ?_ | refine sk_cut_ret ?_ | refine sk_cut_exit ?_ | refine sk_seq_exit ?_ | refine sk_block_here ?_ | refine sk_block_far rfl ?_ | refine sk_loop_exit ?_ | refine st_true rfl ?_ | refine st_false rfl ?_ | refine w_i64 ?_ | refine w_u64 ?_ | refine w_u32 ?_ | refine w_cv ?_ | refine w_cv32 ?_ | refine w_shr ?_ | refine w_shl ?_ | refine w_p ?_ | refine w_no ?_ | refine w_m 0 ?_ | refine w_m 1 ?_ | refine w_m 2 ?_ | refine w_m 3 ?_ | refine w_m 4 ?_ | refine w_m 5 ?_ | refine w_m 6 ?_ | refine w_m 7 ?_ | refine w_m 8 ?_ | refine w_m 9 ?_ | refine w_m 10 ?_ | refine w_m 11 ?_ | refine w_m 12 ?_)
  refine sl_call rfl rfl rfl rfl rfl rfl (fun _ => compare_ct (ha.app _) (hb.app _) ca cb) ?_
  rintro v U' D hU ⟨rfl, rfl, rfl⟩
  repeat (first | refine st_seq ?_ | refine st_region (T := tys) ?_ | refine sl_nil ?_ | refine sk_seq ?_ | refine st_block ?_ | refine sk_block ?_ | refine st_ret ?_ | refine st_exit ?_ | refine st_skip ?_ | refine sk_seq_ret ?_ | refine sk_block_ret ?_ | refine sk_loop_ret ?_ | refine sk_cut_ret ?_ | refine sk_cut_exit ?_ | refine sk_seq_exit ?_ | refine sk_block_here ?_ | refine sk_block_far rfl ?_ | refine sk_loop_exit ?_ | refine st_true rfl ?_ | refine st_false rfl ?_ | refine w_i64 ?_ | refine w_u64 ?_ | refine w_u32 ?_ | refine w_cv ?_ | refine w_cv32 ?_ | refine w_shr ?_ | refine w_shl ?_ | refine w_p ?_ | refine w_no ?_ | refine w_m 0 ?_ | refine w_m 1 ?_ | refine w_m 2 ?_ | refine w_m 3 ?_ | refine w_m 4 ?_ | refine w_m 5 ?_ | refine w_m 6 ?_ | refine w_m 7 ?_ | refine w_m 8 ?_ | refine w_m 9 ?_ | refine w_m 10 ?_ | refine w_m 11 ?_ | refine w_m 12 ?_)
  refine st_dec rfl (fun h0 => ?_) (fun h0 => ?_)
  · have hlt : val a < val b := by
      have := Int.sign_neg_iff.1 h0
      omega
    repeat (first | refine st_seq ?_ | refine st_region (T := tys) ?_ | refine sl_nil ?_ | refine sk_seq ?_ | refine st_block ?_ | refine sk_block ?_ | refine st_ret ?_ | refine st_exit ?_ | refine st_skip ?_ | refine sk_seq_ret ?_ | refine sk_block_ret ?_ | refine sk_loop_ret ?_ | refine sk_cut_ret ?_ | refine sk_cut_exit ?_ | refine sk_seq_exit ?_ | refine sk_block_here ?_ | refine sk_block_far rfl ?_ | refine sk_loop_exit ?_ | refine st_true rfl ?_ | refine st_false rfl ?_ | refine w_i64 ?_ | refine w_u64 ?_ | refine w_u32 ?_ | refine w_cv ?_ | refine w_cv32 ?_ | refine w_shr ?_ | refine w_shl ?_ | refine w_p ?_ | refine w_no ?_ | refine w_m 0 ?_ | refine w_m 1 ?_ | refine w_m 2 ?_ | refine w_m 3 ?_ | refine w_m 4 ?_ | refine w_m 5 ?_ | refine w_m 6 ?_ | refine w_m 7 ?_ | refine w_m 8 ?_ | refine w_m 9 ?_ | refine w_m 10 ?_ | refine w_m 11 ?_ | refine w_m 12 ?_)
    refine sl_call rfl rfl rfl rfl rfl rfl (fun _ => Clone_ct (ha.app _) hn) ?_
    rintro v U' D hU ⟨q, k, cc, rfl, ho, rfl, rfl⟩
    repeat (first | refine st_seq ?_ | refine st_region (T := tys) ?_ | refine sl_nil ?_ | refine sk_seq ?_ | refine st_block ?_ | refine sk_block ?_ | refine st_ret ?_ | refine st_exit ?_ | refine st_skip ?_ | refine sk_seq_ret ?_ | refine sk_block_ret ?_ | refine sk_loop_ret ?_ | refine sk_cut_ret ?_ | refine sk_cut_exit ?_ | refine sk_seq_exit ?_ | refine sk_block_here ?_ | refine sk_block_far rfl ?_ | refine sk_loop_exit ?_ | refine st_true rfl ?_ | refine st_false rfl ?_ | refine w_i64 ?_ | refine w_u64 ?_ | refine w_u32 ?_ | refine w_cv ?_ | refine w_cv32 ?_ | refine w_shr ?_ | refine w_shl ?_ | refine w_p ?_ | refine w_no ?_ | refine w_m 0 ?_ | refine w_m 1 ?_ | refine w_m 2 ?_ | refine w_m 3 ?_ | refine w_m 4 ?_ | refine w_m 5 ?_ | refine w_m 6 ?_ | refine w_m 7 ?_ | refine w_m 8 ?_ | refine w_m 9 ?_ | refine w_m 10 ?_ | refine w_m 11 ?_ | refine w_m 12 ?_)
    refine sk_ret D sym rfl (.cons (.tmp rfl) (.cons (.tmp rfl) .nil)) (ULe.refl _) (List.Sublist.refl _) (.inl rfl) ?_
    exact ⟨none, 0, 0, [], q, _, cc, a, [], D, rfl, by simp, Own.nil, ho, Cn.nil, ca, by rw [Nat.div_eq_of_lt hlt]; rfl, by rw [Nat.mod_eq_of_lt hlt], ULe.refl _⟩
  · have hge : val b ≤ val a := by
      rcases Nat.lt_or_ge (val a) (val b) with h | h
      · exact absurd (Int.sign_neg_iff.2 (show (val a : Int) - (val b : Int) < 0 by omega)) h0
      · exact h
    have hnn := cb.len_le ca.bd hge
    rw [hl1, hl2] at hnn
    repeat (first | refine st_seq ?_ | refine st_region (T := tys) ?_ | refine sl_nil ?_ | refine sk_seq ?_ | refine st_block ?_ | refine sk_block ?_ | refine st_ret ?_ | refine st_exit ?_ | refine st_skip ?_ | refine sk_seq_ret ?_ | refine sk_block_ret ?_ | refine sk_loop_ret ?_ | refine sk_cut_ret ?_ | refine sk_cut_exit ?_ | refine sk_seq_exit ?_ | refine sk_block_here ?_ | refine sk_block_far rfl ?_ | refine sk_loop_exit ?_ | refine st_true rfl ?_ | refine st_false rfl ?_ | refine w_i64 ?_ | refine w_u64 ?_ | refine w_u32 ?_ | refine w_cv ?_ | refine w_cv32 ?_ | refine w_shr ?_ | refine w_shl ?_ | refine w_p ?_ | refine w_no ?_ | refine w_m 0 ?_ | refine w_m 1 ?_ | refine w_m 2 ?_ | refine w_m 3 ?_ | refine w_m 4 ?_ | refine w_m 5 ?_ | refine w_m 6 ?_ | refine w_m 7 ?_ | refine w_m 8 ?_ | refine w_m 9 ?_ | refine w_m 10 ?_ | refine w_m 11 ?_ | refine w_m 12 ?_)
    refine st_dec rfl (fun h1 => ?_) (fun h1 => ?_)
    · have ea := val_lt ca.bd
      have eb := val_lt cb.bd
      have ea' : val a < 18446744073709551616 := Nat.lt_of_lt_of_le ea (by
        rw [hl1]; exact Nat.le_trans (Nat.pow_le_pow_right (by omega) (show n ≤ 2 by omega)) (by decide))
      have eb' : val b < 18446744073709551616 := by omega
      repeat (first | refine st_seq ?_ | refine st_region (T := tys) ?_ | refine sl_nil ?_ | refine sk_seq ?_ | refine st_block ?_ | refine sk_block ?_ | refine st_ret ?_ | refine st_exit ?_ | refine st_skip ?_ | refine sk_seq_ret ?_ | refine sk_block_ret ?_ | refine sk_loop_ret ?_ | refine sk_cut_ret ?_ | refine sk_cut_exit ?_ | refine sk_seq_exit ?_ | refine sk_block_here ?_ | refine sk_block_far rfl ?_ | refine sk_loop_exit ?_ | refine st_true rfl ?_ | refine st_false rfl ?_ | refine w_i64 ?_ | refine w_u64 ?_ | refine w_u32 ?_ | refine w_cv ?_ | refine w_cv32 ?_ | refine w_shr ?_ | refine w_shl ?_ | refine w_p ?_ | refine w_no ?_ | refine w_m 0 ?_ | refine w_m 1 ?_ | refine w_m 2 ?_ | refine w_m 3 ?_ | refine w_m 4 ?_ | refine w_m 5 ?_ | refine w_m 6 ?_ | refine w_m 7 ?_ | refine w_m 8 ?_ | refine w_m 9 ?_ | refine w_m 10 ?_ | refine w_m 11 ?_ | refine w_m 12 ?_)
      refine sl_call rfl rfl rfl rfl rfl rfl (fun _ => word_ct (ha.app _) (by omega)) ?_
      rintro v U' D hU ⟨rfl, rfl, rfl⟩
      repeat (first | refine st_seq ?_ | refine st_region (T := tys) ?_ | refine sl_nil ?_ | refine sk_seq ?_ | refine st_block ?_ | refine sk_block ?_ | refine st_ret ?_ | refine st_exit ?_ | refine st_skip ?_ | refine sk_seq_ret ?_ | refine sk_block_ret ?_ | refine sk_loop_ret ?_ | refine sk_cut_ret ?_ | refine sk_cut_exit ?_ | refine sk_seq_exit ?_ | refine sk_block_here ?_ | refine sk_block_far rfl ?_ | refine sk_loop_exit ?_ | refine st_true rfl ?_ | refine st_false rfl ?_ | refine w_i64 ?_ | refine w_u64 ?_ | refine w_u32 ?_ | refine w_cv ?_ | refine w_cv32 ?_ | refine w_shr ?_ | refine w_shl ?_ | refine w_p ?_ | refine w_no ?_ | refine w_m 0 ?_ | refine w_m 1 ?_ | refine w_m 2 ?_ | refine w_m 3 ?_ | refine w_m 4 ?_ | refine w_m 5 ?_ | refine w_m 6 ?_ | refine w_m 7 ?_ | refine w_m 8 ?_ | refine w_m 9 ?_ | refine w_m 10 ?_ | refine w_m 11 ?_ | refine w_m 12 ?_)
      refine sl_call rfl rfl rfl rfl rfl rfl (fun _ => word_ct ((hb.app _).app _) (by omega)) ?_
      rintro v U' D hU ⟨rfl, rfl, rfl⟩
      generalize val a = A at *
      generalize val b = B at *
      repeat (first | refine st_seq ?_ | refine st_region (T := tys) ?_ | refine sl_nil ?_ | refine sk_seq ?_ | refine st_block ?_ | refine sk_block ?_ | refine st_ret ?_ | refine st_exit ?_ | refine st_skip ?_ | refine sk_seq_ret ?_ | refine sk_block_ret ?_ | refine sk_loop_ret ?_ | refine sk_cut_ret ?_ | refine sk_cut_exit ?_ | refine sk_seq_exit ?_ | refine sk_block_here ?_ | refine sk_block_far rfl ?_ | refine sk_loop_exit ?_ | refine st_true rfl ?_ | refine st_false rfl ?_ | refine w_i64 ?_ | refine w_u64 ?_ | refine w_u32 ?_ | refine w_cv ?_ | refine w_cv32 ?_ | refine w_shr ?_ | refine w_shl ?_ | refine w_p ?_ | refine w_no ?_ | refine w_m 0 ?_ | refine w_m 1 ?_ | refine w_m 2 ?_ | refine w_m 3 ?_ | refine w_m 4 ?_ | refine w_m 5 ?_ | refine w_m 6 ?_ | refine w_m 7 ?_ | refine w_m 8 ?_ | refine w_m 9 ?_ | refine w_m 10 ?_ | refine w_m 11 ?_ | refine w_m 12 ?_)
      refine st_draw [0, 1, 2, 4, 5, 6, 3, 7, 8, 9] sym (by kernel_rfl) ?_
      repeat (first | refine st_seq ?_ | refine st_region (T := tys) ?_ | refine sl_nil ?_ | refine sk_seq ?_ | refine st_block ?_ | refine sk_block ?_ | refine st_ret ?_ | refine st_exit ?_ | refine st_skip ?_ | refine sk_seq_ret ?_ | refine sk_block_ret ?_ | refine sk_loop_ret ?_ | refine sk_cut_ret ?_ | refine sk_cut_exit ?_ | refine sk_seq_exit ?_ | refine sk_block_here ?_ | refine sk_block_far rfl ?_ | refine sk_loop_exit ?_ | refine st_true rfl ?_ | refine st_false rfl ?_ | refine w_i64 ?_ | refine w_u64 ?_ | refine w_u32 ?_ | refine w_cv ?_ | refine w_cv32 ?_ | refine w_shr ?_ | refine w_shl ?_ | refine w_p ?_ | refine w_no ?_ | refine w_m 0 ?_ | refine w_m 1 ?_ | refine w_m 2 ?_ | refine w_m 3 ?_ | refine w_m 4 ?_ | refine w_m 5 ?_ | refine w_m 6 ?_ | refine w_m 7 ?_ | refine w_m 8 ?_ | refine w_m 9 ?_ | refine w_m 10 ?_ | refine w_m 11 ?_ | refine w_m 12 ?_)
      refine sl_y (yl_quoN (m := A) (n := B) rfl rfl rfl rfl rfl (by simp only [kmax]; omega) (by omega) rfl) rfl rfl rfl rfl ?_
      repeat (first | refine st_seq ?_ | refine st_region (T := tys) ?_ | refine sl_nil ?_ | refine sk_seq ?_ | refine st_block ?_ | refine sk_block ?_ | refine st_ret ?_ | refine st_exit ?_ | refine st_skip ?_ | refine sk_seq_ret ?_ | refine sk_block_ret ?_ | refine sk_loop_ret ?_ | refine sk_cut_ret ?_ | refine sk_cut_exit ?_ | refine sk_seq_exit ?_ | refine sk_block_here ?_ | refine sk_block_far rfl ?_ | refine sk_loop_exit ?_ | refine st_true rfl ?_ | refine st_false rfl ?_ | refine w_i64 ?_ | refine w_u64 ?_ | refine w_u32 ?_ | refine w_cv ?_ | refine w_cv32 ?_ | refine w_shr ?_ | refine w_shl ?_ | refine w_p ?_ | refine w_no ?_ | refine w_m 0 ?_ | refine w_m 1 ?_ | refine w_m 2 ?_ | refine w_m 3 ?_ | refine w_m 4 ?_ | refine w_m 5 ?_ | refine w_m 6 ?_ | refine w_m 7 ?_ | refine w_m 8 ?_ | refine w_m 9 ?_ | refine w_m 10 ?_ | refine w_m 11 ?_ | refine w_m 12 ?_)
      refine sl_y (yl_remN (m := A) (n := B) rfl rfl rfl rfl rfl (by simp only [kmax]; omega) (by omega) rfl) rfl rfl rfl rfl ?_
      have g1 : A / B < 18446744073709551616 := Nat.lt_of_le_of_lt (Nat.div_le_self _ _) ea'
      have g2 : A % B < 18446744073709551616 := Nat.lt_of_le_of_lt (Nat.mod_le _ _) ea'
      repeat (first | refine st_seq ?_ | refine st_region (T := tys) ?_ | refine sl_nil ?_ | refine sk_seq ?_ | refine st_block ?_ | refine sk_block ?_ | refine st_ret ?_ | refine st_exit ?_ | refine st_skip ?_ | refine sk_seq_ret ?_ | refine sk_block_ret ?_ | refine sk_loop_ret ?_ | refine sk_cut_ret ?_ | refine sk_cut_exit ?_ | refine sk_seq_exit ?_ | refine sk_block_here ?_ | refine sk_block_far rfl ?_ | refine sk_loop_exit ?_ | refine st_true rfl ?_ | refine st_false rfl ?_ | refine w_i64 ?_ | refine w_u64 ?_ | refine w_u32 ?_ | refine w_cv ?_ | refine w_cv32 ?_ | refine w_shr ?_ | refine w_shl ?_ | refine w_p ?_ | refine w_no ?_ | refine w_m 0 ?_ | refine w_m 1 ?_ | refine w_m 2 ?_ | refine w_m 3 ?_ | refine w_m 4 ?_ | refine w_m 5 ?_ | refine w_m 6 ?_ | refine w_m 7 ?_ | refine w_m 8 ?_ | refine w_m 9 ?_ | refine w_m 10 ?_ | refine w_m 11 ?_ | refine w_m 12 ?_)
      refine sl_call rfl rfl rfl rfl rfl rfl (fun _ => wide_ct g1) ?_
      rintro v U' D1 hU ⟨q1, k1, cc1, lq, rfl, ho1, cq, hvq, rfl⟩
      repeat (first | refine st_seq ?_ | refine st_region (T := tys) ?_ | refine sl_nil ?_ | refine sk_seq ?_ | refine st_block ?_ | refine sk_block ?_ | refine st_ret ?_ | refine st_exit ?_ | refine st_skip ?_ | refine sk_seq_ret ?_ | refine sk_block_ret ?_ | refine sk_loop_ret ?_ | refine sk_cut_ret ?_ | refine sk_cut_exit ?_ | refine sk_seq_exit ?_ | refine sk_block_here ?_ | refine sk_block_far rfl ?_ | refine sk_loop_exit ?_ | refine st_true rfl ?_ | refine st_false rfl ?_ | refine w_i64 ?_ | refine w_u64 ?_ | refine w_u32 ?_ | refine w_cv ?_ | refine w_cv32 ?_ | refine w_shr ?_ | refine w_shl ?_ | refine w_p ?_ | refine w_no ?_ | refine w_m 0 ?_ | refine w_m 1 ?_ | refine w_m 2 ?_ | refine w_m 3 ?_ | refine w_m 4 ?_ | refine w_m 5 ?_ | refine w_m 6 ?_ | refine w_m 7 ?_ | refine w_m 8 ?_ | refine w_m 9 ?_ | refine w_m 10 ?_ | refine w_m 11 ?_ | refine w_m 12 ?_)
      refine sl_call rfl rfl rfl rfl rfl rfl (fun _ => wide_ct g2) ?_
      rintro v U' D2 hU ⟨q2, k2, cc2, lr, rfl, ho2, cr, hvr, rfl⟩
      repeat (first | refine st_seq ?_ | refine st_region (T := tys) ?_ | refine sl_nil ?_ | refine sk_seq ?_ | refine st_block ?_ | refine sk_block ?_ | refine st_ret ?_ | refine st_exit ?_ | refine st_skip ?_ | refine sk_seq_ret ?_ | refine sk_block_ret ?_ | refine sk_loop_ret ?_ | refine sk_cut_ret ?_ | refine sk_cut_exit ?_ | refine sk_seq_exit ?_ | refine sk_block_here ?_ | refine sk_block_far rfl ?_ | refine sk_loop_exit ?_ | refine st_true rfl ?_ | refine st_false rfl ?_ | refine w_i64 ?_ | refine w_u64 ?_ | refine w_u32 ?_ | refine w_cv ?_ | refine w_cv32 ?_ | refine w_shr ?_ | refine w_shl ?_ | refine w_p ?_ | refine w_no ?_ | refine w_m 0 ?_ | refine w_m 1 ?_ | refine w_m 2 ?_ | refine w_m 3 ?_ | refine w_m 4 ?_ | refine w_m 5 ?_ | refine w_m 6 ?_ | refine w_m 7 ?_ | refine w_m 8 ?_ | refine w_m 9 ?_ | refine w_m 10 ?_ | refine w_m 11 ?_ | refine w_m 12 ?_)
      refine sk_ret (D2 ++ D1) sym rfl (.cons (.tmp rfl) (.cons (.tmp rfl) .nil)) (ULe.refl _) (by simp) (.inl rfl) ?_
      exact ⟨_, _, _, lq, _, _, _, lr, D1, D2, rfl, rfl, ho1, ho2, cq, cr, hvq, hvr, ULe.refl _⟩
    · repeat (first | refine st_seq ?_ | refine st_region (T := tys) ?_ | refine sl_nil ?_ | refine sk_seq ?_ | refine st_block ?_ | refine sk_block ?_ | refine st_ret ?_ | refine st_exit ?_ | refine st_skip ?_ | refine sk_seq_ret ?_ | refine sk_block_ret ?_ | refine sk_loop_ret ?_ | refine sk_cut_ret ?_ | refine sk_cut_exit ?_ | refine sk_seq_exit ?_ | refine sk_block_here ?_ | refine sk_block_far rfl ?_ | refine sk_loop_exit ?_ | refine st_true rfl ?_ | refine st_false rfl ?_ | refine w_i64 ?_ | refine w_u64 ?_ | refine w_u32 ?_ | refine w_cv ?_ | refine w_cv32 ?_ | refine w_shr ?_ | refine w_shl ?_ | refine w_p ?_ | refine w_no ?_ | refine w_m 0 ?_ | refine w_m 1 ?_ | refine w_m 2 ?_ | refine w_m 3 ?_ | refine w_m 4 ?_ | refine w_m 5 ?_ | refine w_m 6 ?_ | refine w_m 7 ?_ | refine w_m 8 ?_ | refine w_m 9 ?_ | refine w_m 10 ?_ | refine w_m 11 ?_ | refine w_m 12 ?_)
      refine st_eq rfl (fun h2 => ?_) (fun h2 => ?_)
      · have h2' : n' = 1 := by omega
        subst h2'
        obtain ⟨x, hx, hbx, hp, hcx⟩ := hb.get (k := 0) (by omega)
        have eb : b = [x] := by
          match b, hx, hl2 with
          | [d], hx, _ => simp at hx; rw [hx]
          | _ :: _ :: _, _, hl => simp at hl
        have hbv : val b = x := by rw [eb, val_single]
        rw [hbv] at hvb
        repeat (first | refine st_seq ?_ | refine st_region (T := tys) ?_ | refine sl_nil ?_ | refine sk_seq ?_ | refine st_block ?_ | refine sk_block ?_ | refine st_ret ?_ | refine st_exit ?_ | refine st_skip ?_ | refine sk_seq_ret ?_ | refine sk_block_ret ?_ | refine sk_loop_ret ?_ | refine sk_cut_ret ?_ | refine sk_cut_exit ?_ | refine sk_seq_exit ?_ | refine sk_block_here ?_ | refine sk_block_far rfl ?_ | refine sk_loop_exit ?_ | refine st_true rfl ?_ | refine st_false rfl ?_ | refine w_i64 ?_ | refine w_u64 ?_ | refine w_u32 ?_ | refine w_cv ?_ | refine w_cv32 ?_ | refine w_shr ?_ | refine w_shl ?_ | refine w_p ?_ | refine w_no ?_ | refine w_m 0 ?_ | refine w_m 1 ?_ | refine w_m 2 ?_ | refine w_m 3 ?_ | refine w_m 4 ?_ | refine w_m 5 ?_ | refine w_m 6 ?_ | refine w_m 7 ?_ | refine w_m 8 ?_ | refine w_m 9 ?_ | refine w_m 10 ?_ | refine w_m 11 ?_ | refine w_m 12 ?_)
        refine sl_y (yl_index1 sym rfl rfl rfl rfl rfl ((rfl : (0 : Int) = ((0 : Nat) : Int))) (by first | omega | assumption) hp) rfl rfl rfl rfl ?_; refine sl_y (yl_loadD sym rfl rfl rfl rfl hcx) rfl rfl rfl rfl ?_
        repeat (first | refine st_seq ?_ | refine st_region (T := tys) ?_ | refine sl_nil ?_ | refine sk_seq ?_ | refine st_block ?_ | refine sk_block ?_ | refine st_ret ?_ | refine st_exit ?_ | refine st_skip ?_ | refine sk_seq_ret ?_ | refine sk_block_ret ?_ | refine sk_loop_ret ?_ | refine sk_cut_ret ?_ | refine sk_cut_exit ?_ | refine sk_seq_exit ?_ | refine sk_block_here ?_ | refine sk_block_far rfl ?_ | refine sk_loop_exit ?_ | refine st_true rfl ?_ | refine st_false rfl ?_ | refine w_i64 ?_ | refine w_u64 ?_ | refine w_u32 ?_ | refine w_cv ?_ | refine w_cv32 ?_ | refine w_shr ?_ | refine w_shl ?_ | refine w_p ?_ | refine w_no ?_ | refine w_m 0 ?_ | refine w_m 1 ?_ | refine w_m 2 ?_ | refine w_m 3 ?_ | refine w_m 4 ?_ | refine w_m 5 ?_ | refine w_m 6 ?_ | refine w_m 7 ?_ | refine w_m 8 ?_ | refine w_m 9 ?_ | refine w_m 10 ?_ | refine w_m 11 ?_ | refine w_m 12 ?_)
        refine sl_call rfl rfl rfl rfl rfl rfl (fun _ => short_ct (ha.app _ |>.app _) hvb hbx hn) ?_
        rintro v U' D1 hU ⟨q1, k1, cc1, l1, rfl, ho1, hvq, rfl, rfl⟩
        repeat (first | refine st_seq ?_ | refine st_region (T := tys) ?_ | refine sl_nil ?_ | refine sk_seq ?_ | refine st_block ?_ | refine sk_block ?_ | refine st_ret ?_ | refine st_exit ?_ | refine st_skip ?_ | refine sk_seq_ret ?_ | refine sk_block_ret ?_ | refine sk_loop_ret ?_ | refine sk_cut_ret ?_ | refine sk_cut_exit ?_ | refine sk_seq_exit ?_ | refine sk_block_here ?_ | refine sk_block_far rfl ?_ | refine sk_loop_exit ?_ | refine st_true rfl ?_ | refine st_false rfl ?_ | refine w_i64 ?_ | refine w_u64 ?_ | refine w_u32 ?_ | refine w_cv ?_ | refine w_cv32 ?_ | refine w_shr ?_ | refine w_shl ?_ | refine w_p ?_ | refine w_no ?_ | refine w_m 0 ?_ | refine w_m 1 ?_ | refine w_m 2 ?_ | refine w_m 3 ?_ | refine w_m 4 ?_ | refine w_m 5 ?_ | refine w_m 6 ?_ | refine w_m 7 ?_ | refine w_m 8 ?_ | refine w_m 9 ?_ | refine w_m 10 ?_ | refine w_m 11 ?_ | refine w_m 12 ?_)
        refine sl_call rfl rfl rfl rfl rfl rfl (fun _ => trimmed_ct (ho1.dig.app _)) ?_
        rintro v U' D hU ⟨rfl, rfl, rfl⟩
        have g2 : val a % x < 4294967296 := Nat.lt_trans (Nat.mod_lt _ hvb) hbx
        generalize hR : val a % x = rr at *
        repeat (first | refine st_seq ?_ | refine st_region (T := tys) ?_ | refine sl_nil ?_ | refine sk_seq ?_ | refine st_block ?_ | refine sk_block ?_ | refine st_ret ?_ | refine st_exit ?_ | refine st_skip ?_ | refine sk_seq_ret ?_ | refine sk_block_ret ?_ | refine sk_loop_ret ?_ | refine sk_cut_ret ?_ | refine sk_cut_exit ?_ | refine sk_seq_exit ?_ | refine sk_block_here ?_ | refine sk_block_far rfl ?_ | refine sk_loop_exit ?_ | refine st_true rfl ?_ | refine st_false rfl ?_ | refine w_i64 ?_ | refine w_u64 ?_ | refine w_u32 ?_ | refine w_cv ?_ | refine w_cv32 ?_ | refine w_shr ?_ | refine w_shl ?_ | refine w_p ?_ | refine w_no ?_ | refine w_m 0 ?_ | refine w_m 1 ?_ | refine w_m 2 ?_ | refine w_m 3 ?_ | refine w_m 4 ?_ | refine w_m 5 ?_ | refine w_m 6 ?_ | refine w_m 7 ?_ | refine w_m 8 ?_ | refine w_m 9 ?_ | refine w_m 10 ?_ | refine w_m 11 ?_ | refine w_m 12 ?_)
        refine sl_call rfl rfl rfl rfl rfl rfl (fun _ => wide_ct (n := rr) (by omega)) ?_
        rintro v U' D2 hU ⟨q2, k2, cc2, lr, rfl, ho2, cr, hvr, rfl⟩
        repeat (first | refine st_seq ?_ | refine st_region (T := tys) ?_ | refine sl_nil ?_ | refine sk_seq ?_ | refine st_block ?_ | refine sk_block ?_ | refine st_ret ?_ | refine st_exit ?_ | refine st_skip ?_ | refine sk_seq_ret ?_ | refine sk_block_ret ?_ | refine sk_loop_ret ?_ | refine sk_cut_ret ?_ | refine sk_cut_exit ?_ | refine sk_seq_exit ?_ | refine sk_block_here ?_ | refine sk_block_far rfl ?_ | refine sk_loop_exit ?_ | refine st_true rfl ?_ | refine st_false rfl ?_ | refine w_i64 ?_ | refine w_u64 ?_ | refine w_u32 ?_ | refine w_cv ?_ | refine w_cv32 ?_ | refine w_shr ?_ | refine w_shl ?_ | refine w_p ?_ | refine w_no ?_ | refine w_m 0 ?_ | refine w_m 1 ?_ | refine w_m 2 ?_ | refine w_m 3 ?_ | refine w_m 4 ?_ | refine w_m 5 ?_ | refine w_m 6 ?_ | refine w_m 7 ?_ | refine w_m 8 ?_ | refine w_m 9 ?_ | refine w_m 10 ?_ | refine w_m 11 ?_ | refine w_m 12 ?_)
        refine sk_ret (D2 ++ D1) sym rfl (.cons (.tmp rfl) (.cons (.tmp rfl) .nil)) (ULe.refl _) (by simp) (.inl rfl) ?_
        refine ⟨_, _, _, _, _, _, _, lr, D1, D2, rfl, rfl, ho1.tl, ho2, cn_tl (ho1.dig (U := U) (M := M)).bd, cr, ?_, ?_, ULe.refl _⟩
        · rw [val_tl, hvq, hbv]
        · rw [hvr, hbv, hR]
      · obtain ⟨m, rfl⟩ : ∃ m, n' = m + 2 := ⟨n' - 2, by omega⟩
        obtain ⟨x, hx, hbx, hp, hcx⟩ := hb.get (k := m + 1) (by omega)
        repeat (first | refine st_seq ?_ | refine st_region (T := tys) ?_ | refine sl_nil ?_ | refine sk_seq ?_ | refine st_block ?_ | refine sk_block ?_ | refine st_ret ?_ | refine st_exit ?_ | refine st_skip ?_ | refine sk_seq_ret ?_ | refine sk_block_ret ?_ | refine sk_loop_ret ?_ | refine sk_cut_ret ?_ | refine sk_cut_exit ?_ | refine sk_seq_exit ?_ | refine sk_block_here ?_ | refine sk_block_far rfl ?_ | refine sk_loop_exit ?_ | refine st_true rfl ?_ | refine st_false rfl ?_ | refine w_i64 ?_ | refine w_u64 ?_ | refine w_u32 ?_ | refine w_cv ?_ | refine w_cv32 ?_ | refine w_shr ?_ | refine w_shl ?_ | refine w_p ?_ | refine w_no ?_ | refine w_m 0 ?_ | refine w_m 1 ?_ | refine w_m 2 ?_ | refine w_m 3 ?_ | refine w_m 4 ?_ | refine w_m 5 ?_ | refine w_m 6 ?_ | refine w_m 7 ?_ | refine w_m 8 ?_ | refine w_m 9 ?_ | refine w_m 10 ?_ | refine w_m 11 ?_ | refine w_m 12 ?_)
        refine sl_y (yl_index1 sym rfl rfl rfl rfl rfl ((show ((m + 2 : Nat) : Int) - 1 = ((m + 1 : Nat) : Int) by omega)) (by first | omega | assumption) hp) rfl rfl rfl rfl ?_; refine sl_y (yl_loadD sym rfl rfl rfl rfl hcx) rfl rfl rfl rfl ?_
        repeat (first | refine st_seq ?_ | refine st_region (T := tys) ?_ | refine sl_nil ?_ | refine sk_seq ?_ | refine st_block ?_ | refine sk_block ?_ | refine st_ret ?_ | refine st_exit ?_ | refine st_skip ?_ | refine sk_seq_ret ?_ | refine sk_block_ret ?_ | refine sk_loop_ret ?_ | refine sk_cut_ret ?_ | refine sk_cut_exit ?_ | refine sk_seq_exit ?_ | refine sk_block_here ?_ | refine sk_block_far rfl ?_ | refine sk_loop_exit ?_ | refine st_true rfl ?_ | refine st_false rfl ?_ | refine w_i64 ?_ | refine w_u64 ?_ | refine w_u32 ?_ | refine w_cv ?_ | refine w_cv32 ?_ | refine w_shr ?_ | refine w_shl ?_ | refine w_p ?_ | refine w_no ?_ | refine w_m 0 ?_ | refine w_m 1 ?_ | refine w_m 2 ?_ | refine w_m 3 ?_ | refine w_m 4 ?_ | refine w_m 5 ?_ | refine w_m 6 ?_ | refine w_m 7 ?_ | refine w_m 8 ?_ | refine w_m 9 ?_ | refine w_m 10 ?_ | refine w_m 11 ?_ | refine w_m 12 ?_)
        refine sl_call rfl rfl rfl rfl rfl rfl (fun _ => LeadingZeros32_ct hbx) ?_
        rintro v U' D hU ⟨rfl, rfl, rfl⟩
        have hsx : 32 - blen x < 32 := by
          have e : b.take (m + 1) ++ [x] = b := by
            obtain ⟨g1, g2⟩ := List.getElem?_eq_some_iff.1 hx
            rw [← g2, ← List.take_succ_eq_append_getElem g1, take_all (by omega)]
          have hx0 : x ≠ 0 := by rw [← e] at cb; exact cb.last
          have := blen_pos hx0
          omega
        generalize hs : 32 - blen x = s at *
        repeat (first | refine st_seq ?_ | refine st_region (T := tys) ?_ | refine sl_nil ?_ | refine sk_seq ?_ | refine st_block ?_ | refine sk_block ?_ | refine st_ret ?_ | refine st_exit ?_ | refine st_skip ?_ | refine sk_seq_ret ?_ | refine sk_block_ret ?_ | refine sk_loop_ret ?_ | refine sk_cut_ret ?_ | refine sk_cut_exit ?_ | refine sk_seq_exit ?_ | refine sk_block_here ?_ | refine sk_block_far rfl ?_ | refine sk_loop_exit ?_ | refine st_true rfl ?_ | refine st_false rfl ?_ | refine w_i64 ?_ | refine w_u64 ?_ | refine w_u32 ?_ | refine w_cv ?_ | refine w_cv32 ?_ | refine w_shr ?_ | refine w_shl ?_ | refine w_p ?_ | refine w_no ?_ | refine w_m 0 ?_ | refine w_m 1 ?_ | refine w_m 2 ?_ | refine w_m 3 ?_ | refine w_m 4 ?_ | refine w_m 5 ?_ | refine w_m 6 ?_ | refine w_m 7 ?_ | refine w_m 8 ?_ | refine w_m 9 ?_ | refine w_m 10 ?_ | refine w_m 11 ?_ | refine w_m 12 ?_)
        refine sl_call rfl rfl rfl rfl rfl rfl (fun _ => shifted_ct (((ha.app _).app _).app _) hsx hn) ?_
        rintro v U' D hU ⟨bu, ul, rfl, rfl, hul, hub, huv, rfl⟩
        repeat (first | refine st_seq ?_ | refine st_region (T := tys) ?_ | refine sl_nil ?_ | refine sk_seq ?_ | refine st_block ?_ | refine sk_block ?_ | refine st_ret ?_ | refine st_exit ?_ | refine st_skip ?_ | refine sk_seq_ret ?_ | refine sk_block_ret ?_ | refine sk_loop_ret ?_ | refine sk_cut_ret ?_ | refine sk_cut_exit ?_ | refine sk_seq_exit ?_ | refine sk_block_here ?_ | refine sk_block_far rfl ?_ | refine sk_loop_exit ?_ | refine st_true rfl ?_ | refine st_false rfl ?_ | refine w_i64 ?_ | refine w_u64 ?_ | refine w_u32 ?_ | refine w_cv ?_ | refine w_cv32 ?_ | refine w_shr ?_ | refine w_shl ?_ | refine w_p ?_ | refine w_no ?_ | refine w_m 0 ?_ | refine w_m 1 ?_ | refine w_m 2 ?_ | refine w_m 3 ?_ | refine w_m 4 ?_ | refine w_m 5 ?_ | refine w_m 6 ?_ | refine w_m 7 ?_ | refine w_m 8 ?_ | refine w_m 9 ?_ | refine w_m 10 ?_ | refine w_m 11 ?_ | refine w_m 12 ?_)
        refine sl_call rfl rfl rfl rfl rfl rfl (fun _ => shiftedS_ct ((((hb.app _).app _).app _).app _) hsx (by omega)) ?_
        rintro v U' D hU2 ⟨rfl, qv, l2, rfl, hv2, hv2v⟩
        repeat (first | refine st_seq ?_ | refine st_region (T := tys) ?_ | refine sl_nil ?_ | refine sk_seq ?_ | refine st_block ?_ | refine sk_block ?_ | refine st_ret ?_ | refine st_exit ?_ | refine st_skip ?_ | refine sk_seq_ret ?_ | refine sk_block_ret ?_ | refine sk_loop_ret ?_ | refine sk_cut_ret ?_ | refine sk_cut_exit ?_ | refine sk_seq_exit ?_ | refine sk_block_here ?_ | refine sk_block_far rfl ?_ | refine sk_loop_exit ?_ | refine st_true rfl ?_ | refine st_false rfl ?_ | refine w_i64 ?_ | refine w_u64 ?_ | refine w_u32 ?_ | refine w_cv ?_ | refine w_cv32 ?_ | refine w_shr ?_ | refine w_shl ?_ | refine w_p ?_ | refine w_no ?_ | refine w_m 0 ?_ | refine w_m 1 ?_ | refine w_m 2 ?_ | refine w_m 3 ?_ | refine w_m 4 ?_ | refine w_m 5 ?_ | refine w_m 6 ?_ | refine w_m 7 ?_ | refine w_m 8 ?_ | refine w_m 9 ?_ | refine w_m 10 ?_ | refine w_m 11 ?_ | refine w_m 12 ?_)
        refine sl_call rfl rfl rfl rfl rfl rfl (fun _ => trimmed_ct (hv2.up (ULe.refl _) (List.nil_sublist _))) ?_
        rintro v U'' D hU ⟨rfl, rfl, rfl⟩
        obtain ⟨_, hlen, htop, hVlow⟩ := norm_top (m := m + 1) cb (by omega) hx hv2.bd hs.symm hv2v
        have hvd := hv2.tl
        replace hlen : (tl l2).length = m + 2 := hlen
        have hVV : val (tl l2) = val b * 2 ^ s := by rw [val_tl, hv2v]
        rw [← val_tl l2] at hVlow
        have hVbd := hvd.bd
        rw [hlen] at hvd
        rw [hlen]
        generalize tl l2 = vl at *
        repeat (first | refine st_seq ?_ | refine st_region (T := tys) ?_ | refine sl_nil ?_ | refine sk_seq ?_ | refine st_block ?_ | refine sk_block ?_ | refine st_ret ?_ | refine st_exit ?_ | refine st_skip ?_ | refine sk_seq_ret ?_ | refine sk_block_ret ?_ | refine sk_loop_ret ?_ | refine sk_cut_ret ?_ | refine sk_cut_exit ?_ | refine sk_seq_exit ?_ | refine sk_block_here ?_ | refine sk_block_far rfl ?_ | refine sk_loop_exit ?_ | refine st_true rfl ?_ | refine st_false rfl ?_ | refine w_i64 ?_ | refine w_u64 ?_ | refine w_u32 ?_ | refine w_cv ?_ | refine w_cv32 ?_ | refine w_shr ?_ | refine w_shl ?_ | refine w_p ?_ | refine w_no ?_ | refine w_m 0 ?_ | refine w_m 1 ?_ | refine w_m 2 ?_ | refine w_m 3 ?_ | refine w_m 4 ?_ | refine w_m 5 ?_ | refine w_m 6 ?_ | refine w_m 7 ?_ | refine w_m 8 ?_ | refine w_m 9 ?_ | refine w_m 10 ?_ | refine w_m 11 ?_ | refine w_m 12 ?_)
        obtain ⟨K, hK⟩ : ∃ K, K = n + 1 - (m + 2) := ⟨_, rfl⟩
        refine sl_make (m := K) (n := K) sym rfl rfl rfl rfl rfl (by omega) (by omega) rfl rfl (Nat.le_refl _) (by omega) (by omega) rfl rfl rfl rfl (fun bq => ?_)
        rw [dg_rep]
        repeat (first | refine st_seq ?_ | refine st_region (T := tys) ?_ | refine sl_nil ?_ | refine sk_seq ?_ | refine st_block ?_ | refine sk_block ?_ | refine st_ret ?_ | refine st_exit ?_ | refine st_skip ?_ | refine sk_seq_ret ?_ | refine sk_block_ret ?_ | refine sk_loop_ret ?_ | refine sk_cut_ret ?_ | refine sk_cut_exit ?_ | refine sk_seq_exit ?_ | refine sk_block_here ?_ | refine sk_block_far rfl ?_ | refine sk_loop_exit ?_ | refine st_true rfl ?_ | refine st_false rfl ?_ | refine w_i64 ?_ | refine w_u64 ?_ | refine w_u32 ?_ | refine w_cv ?_ | refine w_cv32 ?_ | refine w_shr ?_ | refine w_shl ?_ | refine w_p ?_ | refine w_no ?_ | refine w_m 0 ?_ | refine w_m 1 ?_ | refine w_m 2 ?_ | refine w_m 3 ?_ | refine w_m 4 ?_ | refine w_m 5 ?_ | refine w_m 6 ?_ | refine w_m 7 ?_ | refine w_m 8 ?_ | refine w_m 9 ?_ | refine w_m 10 ?_ | refine w_m 11 ?_ | refine w_m 12 ?_)
        have hV0 : 0 < val vl := by
          have : 0 < 4294967296 ^ (m + 1) := Nat.pow_pos (by omega)
          omega
        have hVlt := val_lt hVbd
        rw [hlen] at hVlt
        have hw31 : 2 ^ s ≤ 2147483648 := by
          calc 2 ^ s ≤ 2 ^ 31 := Nat.pow_le_pow_right (by omega) (by omega)
            _ = 2147483648 := by decide
        have hstart : val (ul.drop K) < val vl := by
          have e1 := val_split ul K (by omega)
          have e2 := val_lt ca.bd
          have e3 : val a * 2 ^ s < 4294967296 ^ K * (2147483648 * 4294967296 ^ (m + 1)) := by
            have g1 : 4294967296 ^ a.length = 4294967296 ^ K * 4294967296 ^ (m + 1) := by rw [← Nat.pow_add, show K + (m + 1) = a.length by omega]
            rw [g1] at e2
            have g2 : val a * 2 ^ s < 4294967296 ^ K * 4294967296 ^ (m + 1) * 2147483648 := Nat.mul_lt_mul_of_lt_of_le e2 hw31 (by omega)
            rwa [Nat.mul_assoc, Nat.mul_comm (4294967296 ^ (m + 1))] at g2
          have e4 : 4294967296 ^ K * val (ul.drop K) < 4294967296 ^ K * (2147483648 * 4294967296 ^ (m + 1)) := by omega
          have := Nat.lt_of_mul_lt_mul_left e4
          omega
        refine st_perm (M' := (bu, .arr (ul.map dg), TU32) :: (bq, .arr ((List.replicate K 0).map dg), TU32) :: M) (List.Perm.swap _ _ _) ?_
        refine st_loop (fun m' E U'' M' => ∃ (k : Nat) (qs R : List Nat), k ≤ K ∧ qs.length = K - k ∧ Bd qs ∧ R.length = m + 2 ∧ Bd R ∧ val R = val (ul.drop k) % val vl ∧ val qs = val (ul.drop k) / val vl ∧
            E = [(14, .int .i64 ((k : Int) - 1)), (4, .slice (some ⟨bq, 0, none⟩) K K), (10, .int .u64 (s : Int)), (11, .slice (some ⟨bu, 0, none⟩) (n + 1) (n + 1)), (12, .slice qv (m + 2) (m + 2 + 1)), (13, .int .i64 ((m + 2 : Nat) : Int))] ∧
            U' = U'' ∧ M' = (bu, .arr ((ul.take k ++ (R ++ List.replicate (K - k) 0)).map dg), TU32) :: (bq, .arr ((List.replicate k 0 ++ qs).map dg), TU32) :: M ∧ k = m') (n0 := K)
          (E0 := [(14, .int .i64 ((K : Int) - 1)), (4, .slice (some ⟨bq, 0, none⟩) K K), (10, .int .u64 (s : Int)), (11, .slice (some ⟨bu, 0, none⟩) (n + 1) (n + 1)), (12, .slice qv (m + 2) (m + 2 + 1)), (13, .int .i64 ((m + 2 : Nat) : Int))])
          ⟨rfl, rfl, rfl, rfl, rfl, rfl, trivial⟩ ⟨K, [], ul.drop K, by omega, by simp, (by intro d hd; cases hd), by rw [List.length_drop]; omega, bd_drop hub K, (Nat.mod_eq_of_lt hstart).symm, by rw [Nat.div_eq_of_lt hstart]; rfl, rfl, rfl, by rw [Nat.sub_self, List.replicate_zero, List.append_nil, List.append_nil, List.take_append_drop], rfl⟩ ?_
        rintro m' E U'' M' ⟨k, qs, R, hk, hqs, hqb, hR, hRb, hRv, hqv, rfl, rfl, rfl, rfl⟩
        repeat (first | refine st_seq ?_ | refine st_region (T := tys) ?_ | refine sl_nil ?_ | refine sk_seq ?_ | refine st_block ?_ | refine sk_block ?_ | refine st_ret ?_ | refine st_exit ?_ | refine st_skip ?_ | refine sk_seq_ret ?_ | refine sk_block_ret ?_ | refine sk_loop_ret ?_ | refine sk_cut_ret ?_ | refine sk_cut_exit ?_ | refine sk_seq_exit ?_ | refine sk_block_here ?_ | refine sk_block_far rfl ?_ | refine sk_loop_exit ?_ | refine st_true rfl ?_ | refine st_false rfl ?_ | refine w_i64 ?_ | refine w_u64 ?_ | refine w_u32 ?_ | refine w_cv ?_ | refine w_cv32 ?_ | refine w_shr ?_ | refine w_shl ?_ | refine w_p ?_ | refine w_no ?_ | refine w_m 0 ?_ | refine w_m 1 ?_ | refine w_m 2 ?_ | refine w_m 3 ?_ | refine w_m 4 ?_ | refine w_m 5 ?_ | refine w_m 6 ?_ | refine w_m 7 ?_ | refine w_m 8 ?_ | refine w_m 9 ?_ | refine w_m 10 ?_ | refine w_m 11 ?_ | refine w_m 12 ?_)
        refine st_dec rfl (fun h5 => ?_) (fun h5 => ?_)
        · obtain ⟨j, rfl⟩ : ∃ j, k = j + 1 := ⟨k - 1, by omega⟩
          rw [show ((j + 1 : Nat) : Int) - 1 = (j : Int) by omega]
          obtain ⟨y, hy⟩ : ∃ d, ul[j]? = some d := ⟨_, List.getElem?_eq_getElem (by omega)⟩
          have hyb := bd_get hub hy
          obtain ⟨gy1, gy2⟩ := List.getElem?_eq_some_iff.1 hy
          have hdrop : val (ul.drop j) = y + 4294967296 * val (ul.drop (j + 1)) := by rw [List.drop_eq_getElem_cons gy1, gy2]; rfl
          obtain ⟨f1, f2, f3, f4⟩ := long_step (X := val (ul.drop (j + 1))) (V := val vl) (x := y) (W := val (y :: R)) (by rw [← hRv]; rfl) hyb hV0
          rw [← hdrop] at f3 f4
          have hrow : ul.take (j + 1) ++ (R ++ List.replicate (K - (j + 1)) 0) = ul.take j ++ (y :: R) ++ List.replicate (K - (j + 1)) 0 := by
            rw [List.take_succ_eq_append_getElem gy1, gy2]; simp
          rw [hrow]
          have hvM : Dig U' ((bq, .arr ((List.replicate (j + 1) 0 ++ qs).map dg), TU32) :: M) qv (m + 2) (m + 2 + 1) vl := hvd.up (ULe.refl _) (List.nil_sublist _)
          repeat (first | refine st_seq ?_ | refine st_region (T := tys) ?_ | refine sl_nil ?_ | refine sk_seq ?_ | refine st_block ?_ | refine sk_block ?_ | refine st_ret ?_ | refine st_exit ?_ | refine st_skip ?_ | refine sk_seq_ret ?_ | refine sk_block_ret ?_ | refine sk_loop_ret ?_ | refine sk_cut_ret ?_ | refine sk_cut_exit ?_ | refine sk_seq_exit ?_ | refine sk_block_here ?_ | refine sk_block_far rfl ?_ | refine sk_loop_exit ?_ | refine st_true rfl ?_ | refine st_false rfl ?_ | refine w_i64 ?_ | refine w_u64 ?_ | refine w_u32 ?_ | refine w_cv ?_ | refine w_cv32 ?_ | refine w_shr ?_ | refine w_shl ?_ | refine w_p ?_ | refine w_no ?_ | refine w_m 0 ?_ | refine w_m 1 ?_ | refine w_m 2 ?_ | refine w_m 3 ?_ | refine w_m 4 ?_ | refine w_m 5 ?_ | refine w_m 6 ?_ | refine w_m 7 ?_ | refine w_m 8 ?_ | refine w_m 9 ?_ | refine w_m 10 ?_ | refine w_m 11 ?_ | refine w_m 12 ?_)
          refine sl_y (yl_sliceM (l := j) (len := m + 3) sym rfl rfl rfl rfl rfl rfl (by omega) (by omega) (by omega) (by omega)) rfl rfl rfl rfl ?_
          repeat (first | refine st_seq ?_ | refine st_region (T := tys) ?_ | refine sl_nil ?_ | refine sk_seq ?_ | refine st_block ?_ | refine sk_block ?_ | refine st_ret ?_ | refine st_exit ?_ | refine st_skip ?_ | refine sk_seq_ret ?_ | refine sk_block_ret ?_ | refine sk_loop_ret ?_ | refine sk_cut_ret ?_ | refine sk_cut_exit ?_ | refine sk_seq_exit ?_ | refine sk_block_here ?_ | refine sk_block_far rfl ?_ | refine sk_loop_exit ?_ | refine st_true rfl ?_ | refine st_false rfl ?_ | refine w_i64 ?_ | refine w_u64 ?_ | refine w_u32 ?_ | refine w_cv ?_ | refine w_cv32 ?_ | refine w_shr ?_ | refine w_shl ?_ | refine w_p ?_ | refine w_no ?_ | refine w_m 0 ?_ | refine w_m 1 ?_ | refine w_m 2 ?_ | refine w_m 3 ?_ | refine w_m 4 ?_ | refine w_m 5 ?_ | refine w_m 6 ?_ | refine w_m 7 ?_ | refine w_m 8 ?_ | refine w_m 9 ?_ | refine w_m 10 ?_ | refine w_m 11 ?_ | refine w_m 12 ?_)
          refine sl_callC rfl rfl rfl rfl rfl rfl (digit_ct (pre := ul.take j) (ul := y :: R) (suf := List.replicate (K - (j + 1)) 0) hvM (by omega) (by rw [List.length_take]; omega) (by simp [hR]) (by intro d hd; rcases List.mem_cons.1 hd with rfl | hd; exact hyb; exact hRb d hd) (by omega) f1 htop) ?_
          rintro v U2 M2 hU ⟨rfl, rfl, ul', hl', hb', hv', rfl⟩
          obtain ⟨R2, rfl, hR2, hR2b, hR2v⟩ := last_zero (n := m + 2) hl' hb' (by rw [hv']; exact Nat.lt_trans (Nat.mod_lt _ hV0) hVlt)
          repeat (first | refine st_seq ?_ | refine st_region (T := tys) ?_ | refine sl_nil ?_ | refine sk_seq ?_ | refine st_block ?_ | refine sk_block ?_ | refine st_ret ?_ | refine st_exit ?_ | refine st_skip ?_ | refine sk_seq_ret ?_ | refine sk_block_ret ?_ | refine sk_loop_ret ?_ | refine sk_cut_ret ?_ | refine sk_cut_exit ?_ | refine sk_seq_exit ?_ | refine sk_block_here ?_ | refine sk_block_far rfl ?_ | refine sk_loop_exit ?_ | refine st_true rfl ?_ | refine st_false rfl ?_ | refine w_i64 ?_ | refine w_u64 ?_ | refine w_u32 ?_ | refine w_cv ?_ | refine w_cv32 ?_ | refine w_shr ?_ | refine w_shl ?_ | refine w_p ?_ | refine w_no ?_ | refine w_m 0 ?_ | refine w_m 1 ?_ | refine w_m 2 ?_ | refine w_m 3 ?_ | refine w_m 4 ?_ | refine w_m 5 ?_ | refine w_m 6 ?_ | refine w_m 7 ?_ | refine w_m 8 ?_ | refine w_m 9 ?_ | refine w_m 10 ?_ | refine w_m 11 ?_ | refine w_m 12 ?_)
          have hrow2 : ul.take j ++ (R2 ++ [0]) ++ List.replicate (K - (j + 1)) 0 = ul.take j ++ (R2 ++ List.replicate (K - j) 0) := by
            rw [show K - j = K - (j + 1) + 1 by omega, List.replicate_succ]; simp
          rw [hrow2]
          refine sl_y (yl_indexM (j := j) sym rfl rfl rfl rfl rfl rfl (by omega)) rfl rfl rfl rfl ?_
          refine sl_storeD 1 sym rfl rfl rfl (v := val (y :: R) / val vl) rfl rfl rfl rfl (j := j) (by omega) (by simp only [List.length_append, List.length_replicate]; omega) rfl rfl rfl ?_
          rw [set_back]
          repeat (first | refine st_seq ?_ | refine st_region (T := tys) ?_ | refine sl_nil ?_ | refine sk_seq ?_ | refine st_block ?_ | refine sk_block ?_ | refine st_ret ?_ | refine st_exit ?_ | refine st_skip ?_ | refine sk_seq_ret ?_ | refine sk_block_ret ?_ | refine sk_loop_ret ?_ | refine sk_cut_ret ?_ | refine sk_cut_exit ?_ | refine sk_seq_exit ?_ | refine sk_block_here ?_ | refine sk_block_far rfl ?_ | refine sk_loop_exit ?_ | refine st_true rfl ?_ | refine st_false rfl ?_ | refine w_i64 ?_ | refine w_u64 ?_ | refine w_u32 ?_ | refine w_cv ?_ | refine w_cv32 ?_ | refine w_shr ?_ | refine w_shl ?_ | refine w_p ?_ | refine w_no ?_ | refine w_m 0 ?_ | refine w_m 1 ?_ | refine w_m 2 ?_ | refine w_m 3 ?_ | refine w_m 4 ?_ | refine w_m 5 ?_ | refine w_m 6 ?_ | refine w_m 7 ?_ | refine w_m 8 ?_ | refine w_m 9 ?_ | refine w_m 10 ?_ | refine w_m 11 ?_ | refine w_m 12 ?_)
          refine sk_again (E' := [(14, .int .i64 ((j : Int) - 1)), (4, .slice (some ⟨bq, 0, none⟩) K K), (10, .int .u64 (s : Int)), (11, .slice (some ⟨bu, 0, none⟩) (n + 1) (n + 1)), (12, .slice qv (m + 2) (m + 2 + 1)), (13, .int .i64 ((m + 2 : Nat) : Int))]) (m := j)
            ⟨rfl, rfl, rfl, rfl, rfl, rfl, trivial⟩ (by omega) ⟨j, (val (y :: R) / val vl) :: qs, R2, by omega, by simp [hqs]; omega, ?_, hR2, hR2b, ?_, ?_, rfl, rfl, rfl, rfl⟩
          · intro d hd; rcases List.mem_cons.1 hd with rfl | hd
            · exact f2
            · exact hqb d hd
          · rw [hR2v, hv', f3]
          · rw [f4, ← hqv]; rfl
        · have : k = 0 := by omega
          subst this
          have hdu : Own [(bu, .arr ((ul.take 0 ++ (R ++ List.replicate (K - 0) 0)).map dg), TU32)] (some ⟨bu, 0, none⟩) (m + 2) (n + 1) R := by
            have h := Own.arr (b := bu) (n := m + 2) (c := n + 1) (r := R) (t := (List.replicate (K - 0) 0).map dg) hR (by simp; omega) (by omega) hRb (dg_size _)
            rwa [← List.map_append] at h
          have hdq : Own [(bq, .arr ((List.replicate 0 0 ++ qs).map dg), TU32)] (some ⟨bq, 0, none⟩) K K qs := by
            have h := Own.row (b := bq) (n := K) (c := K) (r := qs) (Nat.le_refl _) (by omega) (by omega) hqb
            rwa [take_all (by omega)] at h
          repeat (first | refine st_seq ?_ | refine st_region (T := tys) ?_ | refine sl_nil ?_ | refine sk_seq ?_ | refine st_block ?_ | refine sk_block ?_ | refine st_ret ?_ | refine st_exit ?_ | refine st_skip ?_ | refine sk_seq_ret ?_ | refine sk_block_ret ?_ | refine sk_loop_ret ?_ | refine sk_cut_ret ?_ | refine sk_cut_exit ?_ | refine sk_seq_exit ?_ | refine sk_block_here ?_ | refine sk_block_far rfl ?_ | refine sk_loop_exit ?_ | refine st_true rfl ?_ | refine st_false rfl ?_ | refine w_i64 ?_ | refine w_u64 ?_ | refine w_u32 ?_ | refine w_cv ?_ | refine w_cv32 ?_ | refine w_shr ?_ | refine w_shl ?_ | refine w_p ?_ | refine w_no ?_ | refine w_m 0 ?_ | refine w_m 1 ?_ | refine w_m 2 ?_ | refine w_m 3 ?_ | refine w_m 4 ?_ | refine w_m 5 ?_ | refine w_m 6 ?_ | refine w_m 7 ?_ | refine w_m 8 ?_ | refine w_m 9 ?_ | refine w_m 10 ?_ | refine w_m 11 ?_ | refine w_m 12 ?_)
          refine st_draw [0, 2, 3, 4, 5, 1, 6, 7, 8, 9] sym (by kernel_rfl) ?_
          repeat (first | refine st_seq ?_ | refine st_region (T := tys) ?_ | refine sl_nil ?_ | refine sk_seq ?_ | refine st_block ?_ | refine sk_block ?_ | refine st_ret ?_ | refine st_exit ?_ | refine st_skip ?_ | refine sk_seq_ret ?_ | refine sk_block_ret ?_ | refine sk_loop_ret ?_ | refine sk_cut_ret ?_ | refine sk_cut_exit ?_ | refine sk_seq_exit ?_ | refine sk_block_here ?_ | refine sk_block_far rfl ?_ | refine sk_loop_exit ?_ | refine st_true rfl ?_ | refine st_false rfl ?_ | refine w_i64 ?_ | refine w_u64 ?_ | refine w_u32 ?_ | refine w_cv ?_ | refine w_cv32 ?_ | refine w_shr ?_ | refine w_shl ?_ | refine w_p ?_ | refine w_no ?_ | refine w_m 0 ?_ | refine w_m 1 ?_ | refine w_m 2 ?_ | refine w_m 3 ?_ | refine w_m 4 ?_ | refine w_m 5 ?_ | refine w_m 6 ?_ | refine w_m 7 ?_ | refine w_m 8 ?_ | refine w_m 9 ?_ | refine w_m 10 ?_ | refine w_m 11 ?_ | refine w_m 12 ?_)
          refine sl_y (yl_sliceTo (h := m + 2) sym rfl rfl rfl rfl rfl rfl (by omega)) rfl rfl rfl rfl ?_
          repeat (first | refine st_seq ?_ | refine st_region (T := tys) ?_ | refine sl_nil ?_ | refine sk_seq ?_ | refine st_block ?_ | refine sk_block ?_ | refine st_ret ?_ | refine st_exit ?_ | refine st_skip ?_ | refine sk_seq_ret ?_ | refine sk_block_ret ?_ | refine sk_loop_ret ?_ | refine sk_cut_ret ?_ | refine sk_cut_exit ?_ | refine sk_seq_exit ?_ | refine sk_block_here ?_ | refine sk_block_far rfl ?_ | refine sk_loop_exit ?_ | refine st_true rfl ?_ | refine st_false rfl ?_ | refine w_i64 ?_ | refine w_u64 ?_ | refine w_u32 ?_ | refine w_cv ?_ | refine w_cv32 ?_ | refine w_shr ?_ | refine w_shl ?_ | refine w_p ?_ | refine w_no ?_ | refine w_m 0 ?_ | refine w_m 1 ?_ | refine w_m 2 ?_ | refine w_m 3 ?_ | refine w_m 4 ?_ | refine w_m 5 ?_ | refine w_m 6 ?_ | refine w_m 7 ?_ | refine w_m 8 ?_ | refine w_m 9 ?_ | refine w_m 10 ?_ | refine w_m 11 ?_ | refine w_m 12 ?_)
          refine sl_call rfl rfl rfl rfl rfl rfl (fun _ => trimmed_ct (((hdq.dig (M := M)).up (ULe.refl _) (List.sublist_cons_self ..)).app _)) ?_
          rintro v U2 D hU ⟨rfl, rfl, rfl⟩
          repeat (first | refine st_seq ?_ | refine st_region (T := tys) ?_ | refine sl_nil ?_ | refine sk_seq ?_ | refine st_block ?_ | refine sk_block ?_ | refine st_ret ?_ | refine st_exit ?_ | refine st_skip ?_ | refine sk_seq_ret ?_ | refine sk_block_ret ?_ | refine sk_loop_ret ?_ | refine sk_cut_ret ?_ | refine sk_cut_exit ?_ | refine sk_seq_exit ?_ | refine sk_block_here ?_ | refine sk_block_far rfl ?_ | refine sk_loop_exit ?_ | refine st_true rfl ?_ | refine st_false rfl ?_ | refine w_i64 ?_ | refine w_u64 ?_ | refine w_u32 ?_ | refine w_cv ?_ | refine w_cv32 ?_ | refine w_shr ?_ | refine w_shl ?_ | refine w_p ?_ | refine w_no ?_ | refine w_m 0 ?_ | refine w_m 1 ?_ | refine w_m 2 ?_ | refine w_m 3 ?_ | refine w_m 4 ?_ | refine w_m 5 ?_ | refine w_m 6 ?_ | refine w_m 7 ?_ | refine w_m 8 ?_ | refine w_m 9 ?_ | refine w_m 10 ?_ | refine w_m 11 ?_ | refine w_m 12 ?_)
          refine sl_call rfl rfl rfl rfl rfl rfl (fun _ => unshifted_ct ((hdu.dig.app _).app _) hsx (by omega)) ?_
          rintro v U2 D hU ⟨q2, k2, cc2, l3, rfl, ho3, hv3, rfl, rfl⟩
          repeat (first | refine st_seq ?_ | refine st_region (T := tys) ?_ | refine sl_nil ?_ | refine sk_seq ?_ | refine st_block ?_ | refine sk_block ?_ | refine st_ret ?_ | refine st_exit ?_ | refine st_skip ?_ | refine sk_seq_ret ?_ | refine sk_block_ret ?_ | refine sk_loop_ret ?_ | refine sk_cut_ret ?_ | refine sk_cut_exit ?_ | refine sk_seq_exit ?_ | refine sk_block_here ?_ | refine sk_block_far rfl ?_ | refine sk_loop_exit ?_ | refine st_true rfl ?_ | refine st_false rfl ?_ | refine w_i64 ?_ | refine w_u64 ?_ | refine w_u32 ?_ | refine w_cv ?_ | refine w_cv32 ?_ | refine w_shr ?_ | refine w_shl ?_ | refine w_p ?_ | refine w_no ?_ | refine w_m 0 ?_ | refine w_m 1 ?_ | refine w_m 2 ?_ | refine w_m 3 ?_ | refine w_m 4 ?_ | refine w_m 5 ?_ | refine w_m 6 ?_ | refine w_m 7 ?_ | refine w_m 8 ?_ | refine w_m 9 ?_ | refine w_m 10 ?_ | refine w_m 11 ?_ | refine w_m 12 ?_)
          refine sl_call rfl rfl rfl rfl rfl rfl (fun _ => trimmed_ct (ho3.dig.app _)) ?_
          rintro v U2 D2 hU ⟨rfl, rfl, rfl⟩
          repeat (first | refine st_seq ?_ | refine st_region (T := tys) ?_ | refine sl_nil ?_ | refine sk_seq ?_ | refine st_block ?_ | refine sk_block ?_ | refine st_ret ?_ | refine st_exit ?_ | refine st_skip ?_ | refine sk_seq_ret ?_ | refine sk_block_ret ?_ | refine sk_loop_ret ?_ | refine sk_cut_ret ?_ | refine sk_cut_exit ?_ | refine sk_seq_exit ?_ | refine sk_block_here ?_ | refine sk_block_far rfl ?_ | refine sk_loop_exit ?_ | refine st_true rfl ?_ | refine st_false rfl ?_ | refine w_i64 ?_ | refine w_u64 ?_ | refine w_u32 ?_ | refine w_cv ?_ | refine w_cv32 ?_ | refine w_shr ?_ | refine w_shl ?_ | refine w_p ?_ | refine w_no ?_ | refine w_m 0 ?_ | refine w_m 1 ?_ | refine w_m 2 ?_ | refine w_m 3 ?_ | refine w_m 4 ?_ | refine w_m 5 ?_ | refine w_m 6 ?_ | refine w_m 7 ?_ | refine w_m 8 ?_ | refine w_m 9 ?_ | refine w_m 10 ?_ | refine w_m 11 ?_ | refine w_m 12 ?_)
          refine sk_ret (D ++ [(bq, .arr ((List.replicate 0 0 ++ qs).map dg), TU32)]) sym rfl (.cons (.tmp rfl) (.cons (.tmp rfl) .nil)) hU2 ?_ (.inl rfl) ?_
          · simp only [List.append_assoc, List.nil_append, List.cons_append]
            exact List.Sublist.append (List.Sublist.refl D) (List.sublist_cons_self ..)
          · have e1 : val ul / val vl = val a / val b := by rw [huv, hVV, Nat.mul_div_mul_right _ _ (Nat.two_pow_pos s)]
            have e2 : val ul % val vl / 2 ^ s = val a % val b := by rw [huv, hVV, Nat.mul_mod_mul_right, Nat.mul_div_cancel _ (Nat.two_pow_pos s)]
            refine ⟨_, _, _, _, _, _, _, _, _, _, rfl, rfl, hdq.tl, ho3.tl, cn_tl hqb, cn_tl (ho3.dig (U := U) (M := M)).bd, ?_, ?_, hU2⟩
            · rw [val_tl, hqv]; exact e1
            · rw [val_tl, hv3, hRv]; exact e2

end Go.Proofs.Ytcakainebimmdaa
