/- Texts of this seat's own, merged: each begins with its own remark. -/
import Derived.Test.YtlnmhjkagnfnaaaM3
import Derived.Test.YtlnmhjkagnfnaaaM2
import Derived.Test.YtlnmhjkagnfnaaaM1
/- Walks of bigint, 10: lengths in binary digits, copies. -/
namespace Go.Proofs.Ytlnmhjkagnfnaaa
open Go.Hp
variable {G : World} {U : UH} {M : MH}

theorem Len32_ct {x : Nat} (hx : x < 4294967296) :
    Ct Try.prog 92 [.int .u32 (x : Int)] G U M fun v U' D => v = .int .i64 (blen x : Int) ∧ U = U' ∧ D = [] := by
  refine ct_of_st Try.func92 rfl rfl rfl rfl ?_
  refine st_seq ?_
  try refine run_o ?_
  refine st_seq_cut (fun E U' M' => ∃ y n : Nat, y < 65536 ∧ n ≤ 16 ∧ blen y + n = blen x ∧ E = [(0, .int .u32 (y : Int)), (2, .int .i64 (n : Int))] ∧ U = U' ∧ M = M') ?_ ?_
  · try refine run_s ?_
    refine st_dec rfl (fun h0 => ?_) (fun h0 => ?_)
    · try refine run_s ?_
      refine sl_y (yl_shrN (k := .u32) (m := x) (n := 16) rfl rfl rfl rfl rfl (by decide) rfl) rfl rfl rfl rfl ?_
      try refine run_s ?_
      exact sk_cut (E' := [(0, .int .u32 ((x / 2 ^ 16 : Nat) : Int)), (2, .int .i64 ((16 : Nat) : Int))]) ⟨rfl, rfl, trivial⟩ ⟨x / 2 ^ 16, 16, by omega, by omega, blen_shift (s := 16) (by omega), rfl, rfl, rfl⟩
    · try refine run_s ?_
      exact sk_cut (E' := [(0, .int .u32 (x : Int)), (2, .int .i64 ((0 : Nat) : Int))]) ⟨rfl, rfl, trivial⟩ ⟨x, 0, by omega, by omega, rfl, rfl, rfl, rfl⟩
  rintro E U' M' ⟨y, n, hy, hn, he, rfl, rfl, rfl⟩
  refine st_seq_cut (fun E U' M' => ∃ z k : Nat, z < 256 ∧ k ≤ 24 ∧ blen z + k = blen x ∧ E = [(0, .int .u32 (z : Int)), (2, .int .i64 (k : Int))] ∧ U = U' ∧ M = M') ?_ ?_
  · try refine run_s ?_
    refine st_dec rfl (fun h0 => ?_) (fun h0 => ?_)
    · try refine run_s ?_
      refine sl_y (yl_shrN (k := .u32) (m := y) (n := 8) rfl rfl rfl rfl rfl (by decide) rfl) rfl rfl rfl rfl ?_
      try refine run_s ?_
      exact sk_cut (E' := [(0, .int .u32 ((y / 2 ^ 8 : Nat) : Int)), (2, .int .i64 ((n : Int) + 8))]) ⟨rfl, rfl, trivial⟩ ⟨y / 2 ^ 8, n + 8, by omega, by omega, by rw [← he, ← blen_shift (s := 8) (n := y) (by omega)]; omega, rfl, rfl, rfl⟩
    · try refine run_s ?_
      exact sk_cut (E' := [(0, .int .u32 (y : Int)), (2, .int .i64 (n : Int))]) ⟨rfl, rfl, trivial⟩ ⟨y, n, by omega, by omega, he, rfl, rfl, rfl⟩
  rintro E U' M' ⟨z, k, hz, hk, he, rfl, rfl, rfl⟩
  try refine run_s ?_
  refine sl_y (yl_tab sym rfl rfl (by kernel_rfl) rfl rfl rfl (by omega)) rfl rfl rfl rfl ?_
  have hle : blen z ≤ 8 := blen_le_of (k := 8) (by omega)
  try refine run_s ?_
  refine sk_ret [] sym rfl (.cons (.tmp rfl) .nil) (ULe.refl _) (List.Sublist.refl _) (.inl rfl) ?_
  exact ⟨by rw [← he]; simp only [tup, Int.natCast_add]; congr 1; omega, rfl, rfl⟩

theorem LeadingZeros32_ct {x : Nat} (hx : x < 4294967296) :
    Ct Try.prog 85 [.int .u32 (x : Int)] G U M fun v U' D => v = .int .i64 ((32 - blen x : Nat) : Int) ∧ U = U' ∧ D = [] := by
  have hle : blen x ≤ 32 := blen_le_of (k := 32) (by omega)
  refine ct_of_st Try.func85 rfl rfl rfl rfl ?_
  try refine run_s ?_
  refine sl_call rfl rfl rfl rfl rfl rfl (fun _ => Len32_ct hx) ?_
  rintro v U' D hU ⟨rfl, rfl, rfl⟩
  try refine run_s ?_
  refine sk_ret [] sym rfl (.cons (.tmp rfl) .nil) (ULe.refl _) (List.Sublist.refl _) (.inl rfl) ?_
  exact ⟨by simp only [tup]; congr 1; omega, rfl, rfl⟩

theorem Len64_ct {x : Nat} (hx : x < 18446744073709551616) :
    Ct Try.prog 97 [.int .u64 (x : Int)] G U M fun v U' D => v = .int .i64 (blen x : Int) ∧ U = U' ∧ D = [] := by
  refine ct_of_st Try.func97 rfl rfl rfl rfl ?_
  refine st_seq ?_
  try refine run_o ?_
  refine st_seq_cut (fun E U' M' => ∃ y n : Nat, y < 4294967296 ∧ n ≤ 32 ∧ blen y + n = blen x ∧ E = [(0, .int .u64 (y : Int)), (2, .int .i64 (n : Int))] ∧ U = U' ∧ M = M') ?_ ?_
  · try refine run_s ?_
    refine st_dec rfl (fun h0 => ?_) (fun h0 => ?_)
    · try refine run_s ?_
      rw [show (x : Int) / 2 ^ 32 = ((x / 2 ^ 32 : Nat) : Int) by omega]
      exact sk_cut (E' := [(0, .int .u64 ((x / 2 ^ 32 : Nat) : Int)), (2, .int .i64 ((32 : Nat) : Int))]) ⟨rfl, rfl, trivial⟩ ⟨x / 2 ^ 32, 32, by omega, by omega, blen_shift (s := 32) (by omega), rfl, rfl, rfl⟩
    · try refine run_s ?_
      exact sk_cut (E' := [(0, .int .u64 (x : Int)), (2, .int .i64 ((0 : Nat) : Int))]) ⟨rfl, rfl, trivial⟩ ⟨x, 0, by omega, by omega, rfl, rfl, rfl, rfl⟩
  rintro E U' M' ⟨y, n, hy, hn, he, rfl, rfl, rfl⟩
  refine st_seq_cut (fun E U' M' => ∃ z k : Nat, z < 65536 ∧ k ≤ 48 ∧ blen z + k = blen x ∧ E = [(0, .int .u64 (z : Int)), (2, .int .i64 (k : Int))] ∧ U = U' ∧ M = M') ?_ ?_
  · try refine run_s ?_
    refine st_dec rfl (fun h0 => ?_) (fun h0 => ?_)
    · try refine run_s ?_
      refine sl_y (yl_shrN (k := .u64) (m := y) (n := 16) rfl rfl rfl rfl rfl (by decide) rfl) rfl rfl rfl rfl ?_
      try refine run_s ?_
      exact sk_cut (E' := [(0, .int .u64 ((y / 2 ^ 16 : Nat) : Int)), (2, .int .i64 ((n : Int) + 16))]) ⟨rfl, rfl, trivial⟩ ⟨y / 2 ^ 16, n + 16, by omega, by omega, by rw [← he, ← blen_shift (s := 16) (n := y) (by omega)]; omega, rfl, rfl, rfl⟩
    · try refine run_s ?_
      exact sk_cut (E' := [(0, .int .u64 (y : Int)), (2, .int .i64 (n : Int))]) ⟨rfl, rfl, trivial⟩ ⟨y, n, by omega, by omega, he, rfl, rfl, rfl⟩
  clear he hn hy n y
  rintro E U' M' ⟨y, n, hy, hn, he, rfl, rfl, rfl⟩
  refine st_seq_cut (fun E U' M' => ∃ z k : Nat, z < 256 ∧ k ≤ 56 ∧ blen z + k = blen x ∧ E = [(0, .int .u64 (z : Int)), (2, .int .i64 (k : Int))] ∧ U = U' ∧ M = M') ?_ ?_
  · try refine run_s ?_
    refine st_dec rfl (fun h0 => ?_) (fun h0 => ?_)
    · try refine run_s ?_
      refine sl_y (yl_shrN (k := .u64) (m := y) (n := 8) rfl rfl rfl rfl rfl (by decide) rfl) rfl rfl rfl rfl ?_
      try refine run_s ?_
      exact sk_cut (E' := [(0, .int .u64 ((y / 2 ^ 8 : Nat) : Int)), (2, .int .i64 ((n : Int) + 8))]) ⟨rfl, rfl, trivial⟩ ⟨y / 2 ^ 8, n + 8, by omega, by omega, by rw [← he, ← blen_shift (s := 8) (n := y) (by omega)]; omega, rfl, rfl, rfl⟩
    · try refine run_s ?_
      exact sk_cut (E' := [(0, .int .u64 (y : Int)), (2, .int .i64 (n : Int))]) ⟨rfl, rfl, trivial⟩ ⟨y, n, by omega, by omega, he, rfl, rfl, rfl⟩
  rintro E U' M' ⟨z, k, hz, hk, he, rfl, rfl, rfl⟩
  try refine run_s ?_
  refine sl_y (yl_tab sym rfl rfl (by kernel_rfl) rfl rfl rfl (by omega)) rfl rfl rfl rfl ?_
  have hle : blen z ≤ 8 := blen_le_of (k := 8) (by omega)
  try refine run_s ?_
  refine sk_ret [] sym rfl (.cons (.tmp rfl) .nil) (ULe.refl _) (List.Sublist.refl _) (.inl rfl) ?_
  exact ⟨by rw [← he]; simp only [tup, Int.natCast_add]; congr 1; omega, rfl, rfl⟩

theorem Len_ct {x : Nat} (hx : x < 18446744073709551616) :
    Ct Try.prog 91 [.int .u64 (x : Int)] G U M fun v U' D => v = .int .i64 (blen x : Int) ∧ U = U' ∧ D = [] := by
  refine ct_of_st Try.func91 rfl rfl rfl rfl ?_
  try refine run_s ?_
  refine sl_call rfl rfl rfl rfl rfl rfl (fun _ => Len64_ct hx) ?_
  rintro v U' D hU ⟨rfl, rfl, rfl⟩
  try refine run_s ?_
  refine sk_ret [] sym rfl (.cons (.tmp rfl) .nil) (ULe.refl _) (List.Sublist.refl _) (.inl rfl) ?_
  exact ⟨rfl, rfl, rfl⟩

theorem Clone_ct {p : Option Addr} {n c : Nat} {a : List Nat} (ha : Dig U M p n c a) (hn : n ≤ 1099511627776) :
    Ct Try.prog 73 [.slice p n c] G U M fun v U' D => ∃ q k cc, v = .slice q k cc ∧ Own D q k cc a ∧ k = n ∧ U = U' := by
  have hl1 := ha.len
  refine ct_of_st Try.func73 rfl rfl rfl rfl ?_
  try refine run_s ?_
  cases p with
  | none =>
    have : a = [] := by
      cases a with
      | nil => rfl
      | cons d r =>
        have := (ha.cell 0 d rfl).1
        cases this
    subst this
    try refine run_s ?_
    refine sk_ret [] sym rfl (.cons (.tmp rfl) .nil) (ULe.refl _) (List.Sublist.refl _) (.inl rfl) ?_
    exact ⟨none, 0, 0, rfl, Own.nil, hl1, rfl⟩
  | some q =>
    try refine run_s ?_
    refine sl_bslice (vs := []) sym rfl rfl rfl rfl rfl rfl (by intro v hv; cases hv) rfl rfl rfl rfl rfl rfl (fun b => ?_)
    try refine run_s ?_
    have hrow : Row TU32 [(b, .arr [], TU32)] (some ⟨b, 0, none⟩) 0 0 [] := Row.row (r := []) (Nat.le_refl _) rfl (by omega)
    have hn1 := (ha.up (ULe.refl U) (List.sublist_cons_self (b, Blk.arr [], TU32) M)).news
    refine sl_append (D := [(b, .arr [], TU32)]) (M0 := M) (news := a.map dg) (m := n) sym rfl rfl rfl rfl rfl rfl rfl rfl hrow (by intro v hv; cases hv) ?_ (by rw [List.length_map, hl1]) (dg_size a) (dg_one a)
      (fun h => by
        obtain ⟨a0, h1, h2⟩ := hn1 h
        exact ⟨a0, h1, fun w hw => h2 w hw⟩) (by omega) (by omega) rfl rfl rfl rfl (fun p' cc D' hr' hs' => ?_)
    · intro k hk r hr v hv
      rw [List.mem_singleton.1 hk] at hr
      cases hr
      cases hv
    · try refine run_s ?_
      refine sk_ret D' sym rfl (.cons (.tmp rfl) .nil) (ULe.refl _) (List.Sublist.refl _) (.inl rfl) ?_
      rw [List.nil_append] at hr'
      exact ⟨_, _, _, rfl, Own.of_row hr' hs' ha.bd, by omega, rfl⟩

end Go.Proofs.Ytlnmhjkagnfnaaa

/- Walks of bigint, 11: quotient and remainder of digits. -/
namespace Go.Hp

theorem norm_top {b l : List Nat} {m bt s : Nat} (cb : Cn b) (hl : b.length = m + 1) (hbt : b[m]? = some bt) (h2 : Bd l) (hs : s = 32 - blen bt) (hv : val l = val b * 2 ^ s) :
    s < 32 ∧ (tl l).length = m + 1 ∧ 2147483648 ≤ (tl l).getD m 0 ∧ 2147483648 * 4294967296 ^ m ≤ val l := by
  have hbB := bd_get cb.bd hbt
  have hb0 : bt ≠ 0 := by
    obtain ⟨h1, h2⟩ := List.getElem?_eq_some_iff.1 hbt
    have e : b.take m ++ [bt] = b := by
      rw [← h2, ← List.take_succ_eq_append_getElem h1, take_all (by omega)]
    rw [← e] at cb
    exact cb.last
  have k1 := blen_lt bt
  have k2 := blen_le hb0
  have k3 := blen_pos hb0
  have k4 : blen bt ≤ 32 := blen_le_of (k := 32) (by omega)
  obtain ⟨k, hk⟩ : ∃ k, blen bt = k + 1 := ⟨blen bt - 1, by omega⟩
  rw [hk] at hs k1 k2 k4
  rw [Nat.add_sub_cancel] at k2
  have p1 : 2 ^ k * 2 ^ s = 2147483648 := by rw [← Nat.pow_add, show k + s = 31 by omega]
  have p2 : 2 ^ (k + 1) * 2 ^ s = 4294967296 := by rw [← Nat.pow_add, show k + 1 + s = 32 by omega]
  have q1 := Nat.mul_le_mul_right (2 ^ s) k2
  have q2 := Nat.mul_le_mul_right (2 ^ s) (show bt + 1 ≤ 2 ^ (k + 1) from k1)
  rw [p1] at q1
  rw [p2] at q2
  have e : val b = val (b.take m) + 4294967296 ^ m * bt := by rw [← val_take_succ hbt, take_all (by omega)]
  have h3 := val_lt (bd_take cb.bd m)
  rw [List.length_take, Nat.min_eq_left (by omega)] at h3
  generalize hw : 2 ^ s = w at *
  have r1 : 4294967296 ^ m * 2147483648 ≤ val l := by
    rw [hv, e, Nat.add_mul, Nat.mul_assoc]
    have := Nat.mul_le_mul_left (4294967296 ^ m) q1
    omega
  have r2 : val l < 4294967296 ^ m * 4294967296 := by
    have a1 : val b + 1 ≤ 4294967296 ^ m * (bt + 1) := by rw [Nat.mul_add]; omega
    have a2 := Nat.mul_le_mul_right w a1
    rw [Nat.mul_assoc, Nat.add_mul] at a2
    have a3 := Nat.mul_le_mul_left (4294967296 ^ m) q2
    have a4 : 0 < w := by rw [← hw]; exact Nat.two_pow_pos s
    omega
  have cc := cn_tl h2
  have cv := val_tl l
  have r3 := val_lt cc.bd
  have pmx : 0 < 4294967296 ^ m := Nat.pow_pos (by omega)
  have hlen : (tl l).length = m + 1 := by
    have g1 : m < (tl l).length := by
      rcases Nat.lt_or_ge m (tl l).length with h | h
      · exact h
      · exfalso
        have : 4294967296 ^ (tl l).length ≤ 4294967296 ^ m := Nat.pow_le_pow_right (by omega) h
        omega
    have g2 := cc.ge (fun h => by rw [h] at g1; simp at g1)
    rcases Nat.lt_or_ge (m + 1) (tl l).length with h | h
    · exfalso
      have : 4294967296 ^ (m + 1) ≤ 4294967296 ^ ((tl l).length - 1) := Nat.pow_le_pow_right (by omega) (by omega)
      rw [Nat.pow_succ] at this
      omega
    · omega
  obtain ⟨t, ht⟩ : ∃ t, (tl l)[m]? = some t := ⟨_, List.getElem?_eq_getElem (by omega)⟩
  refine ⟨by omega, hlen, ?_, by rw [Nat.mul_comm]; exact r1⟩
  have e2 : val (tl l) = val ((tl l).take m) + 4294967296 ^ m * t := by rw [← val_take_succ ht, take_all (by omega)]
  have h4 := val_lt (bd_take cc.bd m)
  rw [List.length_take, Nat.min_eq_left (by omega)] at h4
  have e3 : (tl l).getD m 0 = t := by simp [List.getD, ht]
  rw [e3]
  have : 4294967296 ^ m * 2147483648 < 4294967296 ^ m * (t + 1) := by rw [Nat.mul_add]; omega
  have := Nat.lt_of_mul_lt_mul_left this
  omega

/-- One step of the long division. -/
theorem long_step {X V x W : Nat} (hW : W = x + 4294967296 * (X % V)) (hx : x < 4294967296) (hV : 0 < V) : W < V * 4294967296 ∧ W / V < 4294967296 ∧ (x + 4294967296 * X) % V = W % V ∧ (x + 4294967296 * X) / V = W / V + 4294967296 * (X / V) := by
  have h1 := Nat.mod_lt X hV
  have h2 : W < V * 4294967296 := by
    have : 4294967296 * (X % V + 1) ≤ 4294967296 * V := Nat.mul_le_mul_left _ h1
    omega
  have e : x + 4294967296 * X = W + V * (4294967296 * (X / V)) := by
    have := Nat.mod_add_div X V
    rw [hW, Nat.mul_left_comm, Nat.add_assoc, ← Nat.mul_add, this]
  refine ⟨h2, Nat.div_lt_of_lt_mul h2, ?_, ?_⟩
  · rw [e, Nat.add_mul_mod_self_left]
  · rw [e, Nat.add_mul_div_left _ _ hV]

/-- Digits that are less than the number that one digit less can hold end in nought. -/
theorem last_zero {l : List Nat} {n : Nat} (hl : l.length = n + 1) (hb : Bd l) (h : val l < 4294967296 ^ n) : ∃ r, l = r ++ [0] ∧ r.length = n ∧ Bd r ∧ val r = val l := by
  rcases snoc_cases l with rfl | ⟨r, d, rfl⟩
  · cases hl
  · have hr : r.length = n := by simpa using hl
    rw [val_snoc, hr] at h
    have : d = 0 := by
      rcases Nat.eq_zero_or_pos d with h1 | h1
      · exact h1
      · exfalso
        have := Nat.mul_le_mul_left (4294967296 ^ n) (show 1 ≤ d from h1)
        omega
    subst this
    exact ⟨r, rfl, hr, fun x hx => hb x (List.mem_append_left _ hx), by rw [val_snoc]; omega⟩
end Go.Hp

namespace Go.Proofs.Ytlnmhjkagnfnaaa
open Go.Hp
variable {G : World} {U : UH} {M : MH}

theorem yl_sliceM {P : Program} {T : TT} {N : Nat} {E : Env} {o : Oper} {t e : Nat} {x y y' : Operand} {b n c l len bt bt' bt'' : Nat} {z z' : Value} {ek : TK} {k k' : IntKind} {iv iv' : Int} (hS : Sym P T) (ho : o.op = .slice t x (some y) (some y') none) (hx : ev E x = some (.slice (some ⟨b, 0, none⟩) n c))
    (hT : lkT T t = some ⟨.slice e, bt, bt', z⟩) (he : lkT T e = some ⟨ek, 1, bt'', z'⟩) (hy : ev E y = some (.int k iv)) (hy' : ev E y' = some (.int k' iv')) (hl : iv = (l : Int)) (hl' : iv' = ((l + len : Nat) : Int)) (h2 : l + len ≤ c) (h3 : l < c) :
    Yl P N G o E U M (.slice (some ⟨b, l, none⟩) len (c - l)) := by
  have := yl_slice (N := N) (G := G) (U := U) (M := M) hS ho hx hT he (.inr ⟨y, k, iv, rfl, hy, hl⟩) (.inr ⟨y', k', iv', rfl, hy', hl'⟩) (Nat.le_add_right l len) h2
  rw [if_neg (by omega), Nat.add_sub_cancel_left] at this
  simpa [add_lit] using this

theorem shiftedS_ct {p : Option Addr} {n c s : Nat} {a : List Nat} (ha : Dig U M p n c a) (hs : s < 32) (hn : n ≤ 1099511627776) :
    Ct Try.prog 86 [.slice p n c, .int .u64 (s : Int)] G U M fun v U' D => D = [] ∧ ∃ q l, v = .slice q (n + 1) (n + 1) ∧ Dig U' [] q (n + 1) (n + 1) l ∧ val l = val a * 2 ^ s := by
  have h := shifted_ct (G := G) ha hs hn
  refine ⟨h.callable, fun w hw => (h.calls w hw).mono ?_⟩
  rintro e w' ⟨v, U', D, h1, h2, h3, bo, l, rfl, rfl, h6, h7, h8, rfl⟩
  have ho := Own.row (b := bo) (n := n + 1) (c := n + 1) (r := l) (Nat.le_refl _) h6 (by have := ha.capm; omega) h7
  rw [take_all (by omega)] at ho
  obtain ⟨U2, g1, g2, g3⟩ := ho.settle h3
  exact ⟨_, U2, [], h1, g1, g2, rfl, _, l, rfl, g3, h8⟩

set_option maxHeartbeats 4000000 in
theorem divide_ct {p p' : Option Addr} {n c n' c' : Nat} {a b : List Nat} (ha : Dig U M p n c a) (hb : Dig U M p' n' c' b) (ca : Cn a) (cb : Cn b) (hb0 : 0 < n') (hn : n ≤ 1099511627776) (hn' : n' ≤ 1099511627776) :
    Ct Try.prog 67 [.slice p n c, .slice p' n' c'] G U M fun v U' D => ∃ q k cc lq r k' cc' lr Dq Dr, v = .tuple #[.slice q k cc, .slice r k' cc'] ∧ D = Dr ++ Dq ∧ Own Dq q k cc lq ∧ Own Dr r k' cc' lr ∧ Cn lq ∧ Cn lr ∧ val lq = val a / val b ∧ val lr = val a % val b ∧ ULe U U' := by
  have hl1 := ha.len
  have hl2 := hb.len
  have h3 := ha.capm
  have h4 := ha.cap
  have hvb : 0 < val b := by
    rcases Nat.eq_zero_or_pos (val b) with h | h
    · have := cb.zero.1 h; subst this; simp at hl2; omega
    · exact h
  refine ct_of_st Try.func67 rfl rfl rfl rfl ?_
  try refine run_s ?_
  refine sl_call rfl rfl rfl rfl rfl rfl (fun _ => compare_ct (ha.app _) (hb.app _) ca cb) ?_
  rintro v U' D hU ⟨rfl, rfl, rfl⟩
  try refine run_s ?_
  refine st_dec rfl (fun h0 => ?_) (fun h0 => ?_)
  · have hlt : val a < val b := by
      have := Int.sign_neg_iff.1 h0
      omega
    try refine run_s ?_
    refine sl_call rfl rfl rfl rfl rfl rfl (fun _ => Clone_ct (ha.app _) hn) ?_
    rintro v U' D hU ⟨q, k, cc, rfl, ho, rfl, rfl⟩
    try refine run_s ?_
    refine sk_ret D sym rfl (.cons (.tmp rfl) (.cons (.tmp rfl) .nil)) (ULe.refl _) (List.Sublist.refl _) (.inl rfl) ?_
    exact ⟨none, 0, 0, [], q, _, cc, a, [], D, rfl, by simp, Own.nil, ho, Cn.nil, ca, by rw [Nat.div_eq_of_lt hlt]; rfl, by rw [Nat.mod_eq_of_lt hlt], ULe.refl _⟩
  · have hge : val b ≤ val a := by
      rcases Nat.lt_or_ge (val a) (val b) with h | h
      · exact absurd (Int.sign_neg_iff.2 (show (val a : Int) - (val b : Int) < 0 by omega)) h0
      · exact h
    have hnn := cb.len_le ca.bd hge
    rw [hl1, hl2] at hnn
    try refine run_s ?_
    refine st_dec rfl (fun h1 => ?_) (fun h1 => ?_)
    · have ea := val_lt ca.bd
      have eb := val_lt cb.bd
      have ea' : val a < 18446744073709551616 := Nat.lt_of_lt_of_le ea (by
        rw [hl1]; exact Nat.le_trans (Nat.pow_le_pow_right (by omega) (show n ≤ 2 by omega)) (by decide))
      have eb' : val b < 18446744073709551616 := by omega
      try refine run_s ?_
      refine sl_call rfl rfl rfl rfl rfl rfl (fun _ => word_ct (ha.app _) (by omega)) ?_
      rintro v U' D hU ⟨rfl, rfl, rfl⟩
      try refine run_s ?_
      refine sl_call rfl rfl rfl rfl rfl rfl (fun _ => word_ct ((hb.app _).app _) (by omega)) ?_
      rintro v U' D hU ⟨rfl, rfl, rfl⟩
      generalize val a = A at *
      generalize val b = B at *
      try refine run_s ?_
      refine st_draw [0, 1, 2, 4, 5, 6, 3, 7, 8, 9] sym (by kernel_rfl) ?_
      try refine run_s ?_
      refine sl_y (yl_quoN (m := A) (n := B) rfl rfl rfl rfl rfl (by simp only [kmax]; omega) (by omega) rfl) rfl rfl rfl rfl ?_
      try refine run_s ?_
      refine sl_y (yl_remN (m := A) (n := B) rfl rfl rfl rfl rfl (by simp only [kmax]; omega) (by omega) rfl) rfl rfl rfl rfl ?_
      have g1 : A / B < 18446744073709551616 := Nat.lt_of_le_of_lt (Nat.div_le_self _ _) ea'
      have g2 : A % B < 18446744073709551616 := Nat.lt_of_le_of_lt (Nat.mod_le _ _) ea'
      try refine run_s ?_
      refine sl_call rfl rfl rfl rfl rfl rfl (fun _ => wide_ct g1) ?_
      rintro v U' D1 hU ⟨q1, k1, cc1, lq, rfl, ho1, cq, hvq, rfl⟩
      try refine run_s ?_
      refine sl_call rfl rfl rfl rfl rfl rfl (fun _ => wide_ct g2) ?_
      rintro v U' D2 hU ⟨q2, k2, cc2, lr, rfl, ho2, cr, hvr, rfl⟩
      try refine run_s ?_
      refine sk_ret (D2 ++ D1) sym rfl (.cons (.tmp rfl) (.cons (.tmp rfl) .nil)) (ULe.refl _) (by simp) (.inl rfl) ?_
      exact ⟨_, _, _, lq, _, _, _, lr, D1, D2, rfl, rfl, ho1, ho2, cq, cr, hvq, hvr, ULe.refl _⟩
    · try refine run_s ?_
      refine st_eq rfl (fun h2 => ?_) (fun h2 => ?_)
      · have h2' : n' = 1 := by omega
        subst h2'
        obtain ⟨x, hx, hbx, hp, hcx⟩ := hb.get (k := 0) (by omega)
        have eb : b = [x] := by
          match b, hx, hl2 with
          | [d], hx, _ => simp at hx; rw [hx]
          | _ :: _ :: _, _, hl => simp at hl
        have hbv : val b = x := by rw [eb, val_single]
        rw [hbv] at hvb
        try refine run_s ?_
        refine sl_y (yl_index1 sym rfl rfl rfl rfl rfl ((rfl : (0 : Int) = ((0 : Nat) : Int))) (by first | omega | assumption) hp) rfl rfl rfl rfl ?_; refine sl_y (yl_loadD sym rfl rfl rfl rfl hcx) rfl rfl rfl rfl ?_
        try refine run_s ?_
        refine sl_call rfl rfl rfl rfl rfl rfl (fun _ => short_ct (ha.app _ |>.app _) hvb hbx hn) ?_
        rintro v U' D1 hU ⟨q1, k1, cc1, l1, rfl, ho1, hvq, rfl, rfl⟩
        try refine run_s ?_
        refine sl_call rfl rfl rfl rfl rfl rfl (fun _ => trimmed_ct (ho1.dig.app _)) ?_
        rintro v U' D hU ⟨rfl, rfl, rfl⟩
        have g2 : val a % x < 4294967296 := Nat.lt_trans (Nat.mod_lt _ hvb) hbx
        generalize hR : val a % x = rr at *
        try refine run_s ?_
        refine sl_call rfl rfl rfl rfl rfl rfl (fun _ => wide_ct (n := rr) (by omega)) ?_
        rintro v U' D2 hU ⟨q2, k2, cc2, lr, rfl, ho2, cr, hvr, rfl⟩
        try refine run_s ?_
        refine sk_ret (D2 ++ D1) sym rfl (.cons (.tmp rfl) (.cons (.tmp rfl) .nil)) (ULe.refl _) (by simp) (.inl rfl) ?_
        refine ⟨_, _, _, _, _, _, _, lr, D1, D2, rfl, rfl, ho1.tl, ho2, cn_tl (ho1.dig (U := U) (M := M)).bd, cr, ?_, ?_, ULe.refl _⟩
        · rw [val_tl, hvq, hbv]
        · rw [hvr, hbv, hR]
      · obtain ⟨m, rfl⟩ : ∃ m, n' = m + 2 := ⟨n' - 2, by omega⟩
        obtain ⟨x, hx, hbx, hp, hcx⟩ := hb.get (k := m + 1) (by omega)
        try refine run_s ?_
        refine sl_y (yl_index1 sym rfl rfl rfl rfl rfl ((show ((m + 2 : Nat) : Int) - 1 = ((m + 1 : Nat) : Int) by omega)) (by first | omega | assumption) hp) rfl rfl rfl rfl ?_; refine sl_y (yl_loadD sym rfl rfl rfl rfl hcx) rfl rfl rfl rfl ?_
        try refine run_s ?_
        refine sl_call rfl rfl rfl rfl rfl rfl (fun _ => LeadingZeros32_ct hbx) ?_
        rintro v U' D hU ⟨rfl, rfl, rfl⟩
        have hsx : 32 - blen x < 32 := by
          have e : b.take (m + 1) ++ [x] = b := by
            obtain ⟨g1, g2⟩ := List.getElem?_eq_some_iff.1 hx
            rw [← g2, ← List.take_succ_eq_append_getElem g1, take_all (by omega)]
          have hx0 : x ≠ 0 := by rw [← e] at cb; exact cb.last
          have := blen_pos hx0
          omega
        generalize hs : 32 - blen x = s at *
        try refine run_s ?_
        refine sl_call rfl rfl rfl rfl rfl rfl (fun _ => shifted_ct (((ha.app _).app _).app _) hsx hn) ?_
        rintro v U' D hU ⟨bu, ul, rfl, rfl, hul, hub, huv, rfl⟩
        try refine run_s ?_
        refine sl_call rfl rfl rfl rfl rfl rfl (fun _ => shiftedS_ct ((((hb.app _).app _).app _).app _) hsx (by omega)) ?_
        rintro v U' D hU2 ⟨rfl, qv, l2, rfl, hv2, hv2v⟩
        try refine run_s ?_
        refine sl_call rfl rfl rfl rfl rfl rfl (fun _ => trimmed_ct (hv2.up (ULe.refl _) (List.nil_sublist _))) ?_
        rintro v U'' D hU ⟨rfl, rfl, rfl⟩
        obtain ⟨_, hlen, htop, hVlow⟩ := norm_top (m := m + 1) cb (by omega) hx hv2.bd hs.symm hv2v
        have hvd := hv2.tl
        replace hlen : (tl l2).length = m + 2 := hlen
        have hVV : val (tl l2) = val b * 2 ^ s := by rw [val_tl, hv2v]
        rw [← val_tl l2] at hVlow
        have hVbd := hvd.bd
        rw [hlen] at hvd
        rw [hlen]
        generalize tl l2 = vl at *
        try refine run_s ?_
        obtain ⟨K, hK⟩ : ∃ K, K = n + 1 - (m + 2) := ⟨_, rfl⟩
        refine sl_make (m := K) (n := K) sym rfl rfl rfl rfl rfl (by omega) (by omega) rfl rfl (Nat.le_refl _) (by omega) (by omega) rfl rfl rfl rfl (fun bq => ?_)
        rw [dg_rep]
        try refine run_s ?_
        have hV0 : 0 < val vl := by
          have : 0 < 4294967296 ^ (m + 1) := Nat.pow_pos (by omega)
          omega
        have hVlt := val_lt hVbd
        rw [hlen] at hVlt
        have hw31 : 2 ^ s ≤ 2147483648 := by
          calc 2 ^ s ≤ 2 ^ 31 := Nat.pow_le_pow_right (by omega) (by omega)
            _ = 2147483648 := by decide
        have hstart : val (ul.drop K) < val vl := by
          have e1 := val_split ul K (by omega)
          have e2 := val_lt ca.bd
          have e3 : val a * 2 ^ s < 4294967296 ^ K * (2147483648 * 4294967296 ^ (m + 1)) := by
            have g1 : 4294967296 ^ a.length = 4294967296 ^ K * 4294967296 ^ (m + 1) := by rw [← Nat.pow_add, show K + (m + 1) = a.length by omega]
            rw [g1] at e2
            have g2 : val a * 2 ^ s < 4294967296 ^ K * 4294967296 ^ (m + 1) * 2147483648 := Nat.mul_lt_mul_of_lt_of_le e2 hw31 (by omega)
            rwa [Nat.mul_assoc, Nat.mul_comm (4294967296 ^ (m + 1))] at g2
          have e4 : 4294967296 ^ K * val (ul.drop K) < 4294967296 ^ K * (2147483648 * 4294967296 ^ (m + 1)) := by omega
          have := Nat.lt_of_mul_lt_mul_left e4
          omega
        refine st_perm (M' := (bu, .arr (ul.map dg), TU32) :: (bq, .arr ((List.replicate K 0).map dg), TU32) :: M) (List.Perm.swap _ _ _) ?_
        refine st_loop (fun m' E U'' M' => ∃ (k : Nat) (qs R : List Nat), k ≤ K ∧ qs.length = K - k ∧ Bd qs ∧ R.length = m + 2 ∧ Bd R ∧ val R = val (ul.drop k) % val vl ∧ val qs = val (ul.drop k) / val vl ∧
            E = [(14, .int .i64 ((k : Int) - 1)), (4, .slice (some ⟨bq, 0, none⟩) K K), (10, .int .u64 (s : Int)), (11, .slice (some ⟨bu, 0, none⟩) (n + 1) (n + 1)), (12, .slice qv (m + 2) (m + 2 + 1)), (13, .int .i64 ((m + 2 : Nat) : Int))] ∧
            U' = U'' ∧ M' = (bu, .arr ((ul.take k ++ (R ++ List.replicate (K - k) 0)).map dg), TU32) :: (bq, .arr ((List.replicate k 0 ++ qs).map dg), TU32) :: M ∧ k = m') (n0 := K)
          (E0 := [(14, .int .i64 ((K : Int) - 1)), (4, .slice (some ⟨bq, 0, none⟩) K K), (10, .int .u64 (s : Int)), (11, .slice (some ⟨bu, 0, none⟩) (n + 1) (n + 1)), (12, .slice qv (m + 2) (m + 2 + 1)), (13, .int .i64 ((m + 2 : Nat) : Int))])
          ⟨rfl, rfl, rfl, rfl, rfl, rfl, trivial⟩ ⟨K, [], ul.drop K, by omega, by simp, (by intro d hd; cases hd), by rw [List.length_drop]; omega, bd_drop hub K, (Nat.mod_eq_of_lt hstart).symm, by rw [Nat.div_eq_of_lt hstart]; rfl, rfl, rfl, by rw [Nat.sub_self, List.replicate_zero, List.append_nil, List.append_nil, List.take_append_drop], rfl⟩ ?_
        rintro m' E U'' M' ⟨k, qs, R, hk, hqs, hqb, hR, hRb, hRv, hqv, rfl, rfl, rfl, rfl⟩
        try refine run_s ?_
        refine st_dec rfl (fun h5 => ?_) (fun h5 => ?_)
        · obtain ⟨j, rfl⟩ : ∃ j, k = j + 1 := ⟨k - 1, by omega⟩
          rw [show ((j + 1 : Nat) : Int) - 1 = (j : Int) by omega]
          obtain ⟨y, hy⟩ : ∃ d, ul[j]? = some d := ⟨_, List.getElem?_eq_getElem (by omega)⟩
          have hyb := bd_get hub hy
          obtain ⟨gy1, gy2⟩ := List.getElem?_eq_some_iff.1 hy
          have hdrop : val (ul.drop j) = y + 4294967296 * val (ul.drop (j + 1)) := by rw [List.drop_eq_getElem_cons gy1, gy2]; rfl
          obtain ⟨f1, f2, f3, f4⟩ := long_step (X := val (ul.drop (j + 1))) (V := val vl) (x := y) (W := val (y :: R)) (by rw [← hRv]; rfl) hyb hV0
          rw [← hdrop] at f3 f4
          have hrow : ul.take (j + 1) ++ (R ++ List.replicate (K - (j + 1)) 0) = ul.take j ++ (y :: R) ++ List.replicate (K - (j + 1)) 0 := by
            rw [List.take_succ_eq_append_getElem gy1, gy2]; simp
          rw [hrow]
          have hvM : Dig U' ((bq, .arr ((List.replicate (j + 1) 0 ++ qs).map dg), TU32) :: M) qv (m + 2) (m + 2 + 1) vl := hvd.up (ULe.refl _) (List.nil_sublist _)
          try refine run_s ?_
          refine sl_y (yl_sliceM (l := j) (len := m + 3) sym rfl rfl rfl rfl rfl rfl (by omega) (by omega) (by omega) (by omega)) rfl rfl rfl rfl ?_
          try refine run_s ?_
          refine sl_callC rfl rfl rfl rfl rfl rfl (digit_ct (pre := ul.take j) (ul := y :: R) (suf := List.replicate (K - (j + 1)) 0) hvM (by omega) (by rw [List.length_take]; omega) (by simp [hR]) (by intro d hd; rcases List.mem_cons.1 hd with rfl | hd; exact hyb; exact hRb d hd) (by omega) f1 htop) ?_
          rintro v U2 M2 hU ⟨rfl, rfl, ul', hl', hb', hv', rfl⟩
          obtain ⟨R2, rfl, hR2, hR2b, hR2v⟩ := last_zero (n := m + 2) hl' hb' (by rw [hv']; exact Nat.lt_trans (Nat.mod_lt _ hV0) hVlt)
          try refine run_s ?_
          have hrow2 : ul.take j ++ (R2 ++ [0]) ++ List.replicate (K - (j + 1)) 0 = ul.take j ++ (R2 ++ List.replicate (K - j) 0) := by
            rw [show K - j = K - (j + 1) + 1 by omega, List.replicate_succ]; simp
          rw [hrow2]
          refine sl_y (yl_indexM (j := j) sym rfl rfl rfl rfl rfl rfl (by omega)) rfl rfl rfl rfl ?_
          refine sl_storeD 1 sym rfl rfl rfl (v := val (y :: R) / val vl) rfl rfl rfl rfl (j := j) (by omega) (by simp only [List.length_append, List.length_replicate]; omega) rfl rfl rfl ?_
          rw [set_back]
          try refine run_s ?_
          refine sk_again (E' := [(14, .int .i64 ((j : Int) - 1)), (4, .slice (some ⟨bq, 0, none⟩) K K), (10, .int .u64 (s : Int)), (11, .slice (some ⟨bu, 0, none⟩) (n + 1) (n + 1)), (12, .slice qv (m + 2) (m + 2 + 1)), (13, .int .i64 ((m + 2 : Nat) : Int))]) (m := j)
            ⟨rfl, rfl, rfl, rfl, rfl, rfl, trivial⟩ (by omega) ⟨j, (val (y :: R) / val vl) :: qs, R2, by omega, by simp [hqs]; omega, ?_, hR2, hR2b, ?_, ?_, rfl, rfl, rfl, rfl⟩
          · intro d hd; rcases List.mem_cons.1 hd with rfl | hd
            · exact f2
            · exact hqb d hd
          · rw [hR2v, hv', f3]
          · rw [f4, ← hqv]; rfl
        · have : k = 0 := by omega
          subst this
          have hdu : Own [(bu, .arr ((ul.take 0 ++ (R ++ List.replicate (K - 0) 0)).map dg), TU32)] (some ⟨bu, 0, none⟩) (m + 2) (n + 1) R := by
            have h := Own.arr (b := bu) (n := m + 2) (c := n + 1) (r := R) (t := (List.replicate (K - 0) 0).map dg) hR (by simp; omega) (by omega) hRb (dg_size _)
            rwa [← List.map_append] at h
          have hdq : Own [(bq, .arr ((List.replicate 0 0 ++ qs).map dg), TU32)] (some ⟨bq, 0, none⟩) K K qs := by
            have h := Own.row (b := bq) (n := K) (c := K) (r := qs) (Nat.le_refl _) (by omega) (by omega) hqb
            rwa [take_all (by omega)] at h
          try refine run_s ?_
          refine st_draw [0, 2, 3, 4, 5, 1, 6, 7, 8, 9] sym (by kernel_rfl) ?_
          try refine run_s ?_
          refine sl_y (yl_sliceTo (h := m + 2) sym rfl rfl rfl rfl rfl rfl (by omega)) rfl rfl rfl rfl ?_
          try refine run_s ?_
          refine sl_call rfl rfl rfl rfl rfl rfl (fun _ => trimmed_ct (((hdq.dig (M := M)).up (ULe.refl _) (List.sublist_cons_self ..)).app _)) ?_
          rintro v U2 D hU ⟨rfl, rfl, rfl⟩
          try refine run_s ?_
          refine sl_call rfl rfl rfl rfl rfl rfl (fun _ => unshifted_ct ((hdu.dig.app _).app _) hsx (by omega)) ?_
          rintro v U2 D hU ⟨q2, k2, cc2, l3, rfl, ho3, hv3, rfl, rfl⟩
          try refine run_s ?_
          refine sl_call rfl rfl rfl rfl rfl rfl (fun _ => trimmed_ct (ho3.dig.app _)) ?_
          rintro v U2 D2 hU ⟨rfl, rfl, rfl⟩
          try refine run_s ?_
          refine sk_ret (D ++ [(bq, .arr ((List.replicate 0 0 ++ qs).map dg), TU32)]) sym rfl (.cons (.tmp rfl) (.cons (.tmp rfl) .nil)) hU2 ?_ (.inl rfl) ?_
          · simp only [List.append_assoc, List.nil_append, List.cons_append]
            exact List.Sublist.append (List.Sublist.refl D) (List.sublist_cons_self ..)
          · have e1 : val ul / val vl = val a / val b := by rw [huv, hVV, Nat.mul_div_mul_right _ _ (Nat.two_pow_pos s)]
            have e2 : val ul % val vl / 2 ^ s = val a % val b := by rw [huv, hVV, Nat.mul_mod_mul_right, Nat.mul_div_cancel _ (Nat.two_pow_pos s)]
            refine ⟨_, _, _, _, _, _, _, _, _, _, rfl, rfl, hdq.tl, ho3.tl, cn_tl hqb, cn_tl (ho3.dig (U := U) (M := M)).bd, ?_, ?_, hU2⟩
            · rw [val_tl, hqv]; exact e1
            · rw [val_tl, hv3, hRv]; exact e2

end Go.Proofs.Ytlnmhjkagnfnaaa

/- Walks of bigint, 12: the exported functions on integers. -/
namespace Go.Proofs.Ytlnmhjkagnfnaaa
open Go.Hp
variable {G : World} {U : UH} {M : MH}

theorem flag_eq {neg : Bool} {l : List Nat} (hb : Bd l) : (neg && dec (0 < (tl l).length)) = decide (sg neg (val l) < 0) := by
  rw [dec_eq]
  cases neg
  · simp [sg]
  · have h : 0 < (tl l).length ↔ val l ≠ 0 := by
      rw [← val_tl l]
      constructor
      · intro h e
        rw [(cn_tl hb).zero.1 e] at h
        cases h
      · intro h
        rcases Nat.eq_zero_or_pos (tl l).length with e | e
        · exact absurd ((cn_tl hb).zero.2 (List.eq_nil_of_length_eq_zero e)) h
        · exact e
    simp only [Bool.true_and, sg, if_true]
    by_cases e : val l = 0
    · simp [h, e]
    · simp [h, e]; omega
theorem sg_natAbs (neg : Bool) (m : Nat) : (sg neg m).natAbs = m := by cases neg <;> simp [sg]

theorem own_signed {D : MH} {p : Option Addr} {n c : Nat} {l : List Nat} {neg : Bool} (h : Own D p n c l) : (IV.mk (neg && dec (0 < (tl l).length)) p (tl l).length c).own D (sg neg (val l)) :=
  ⟨tl l, h.tl, cn_tl (h.dig (U := fun _ => none) (M := [])).bd, by rw [val_tl, sg_natAbs], flag_eq (h.dig (U := fun _ => none) (M := [])).bd⟩

theorem Normal_ct {x : IV} {z : Int} (hx : x.rep U M z) (hn : x.n ≤ 1099511627776) :
    Ct Try.prog 81 [x.v] G U M fun v U' D => ∃ r : IV, v = r.v ∧ r.own D z ∧ U = U' := by
  obtain ⟨neg, p, n, c⟩ := x
  obtain ⟨l, hd, rfl⟩ := hx
  simp only at hd hn
  have hln := hd.tl.len
  have hle : (tl l).length ≤ n := by have := tl_length_le l; have := hd.len; omega
  refine ct_of_st Try.func81 rfl rfl rfl rfl ?_
  repeat (first | refine run_S ?_ | refine w_box (fun _ => ?_) | refine w_al (fun _ => ?_))
  refine st_draw [0, 1, 2, 3, 4, 5, 6, 7] sym (by kernel_rfl) ?_
  repeat (first | refine run_S ?_ | refine w_box (fun _ => ?_) | refine w_al (fun _ => ?_))
  refine sl_call rfl rfl rfl rfl rfl rfl (fun _ => trimmed_ct ((hd.up (ULe.refl _) (.cons _ (.cons _ (List.Sublist.refl _)))).app _)) ?_
  rintro v U' D hU ⟨rfl, rfl, rfl⟩
  repeat (first | refine run_S ?_ | refine w_box (fun _ => ?_) | refine w_al (fun _ => ?_))
  refine sl_call rfl rfl rfl rfl rfl rfl (fun _ => Clone_ct ((hd.tl.up (ULe.refl _) (.cons _ (.cons _ (List.Sublist.refl _)))).app _) (by omega)) ?_
  rintro v U' D hU ⟨q, k, cc, rfl, ho, rfl, rfl⟩
  repeat (first | refine run_S ?_ | refine w_box (fun _ => ?_) | refine w_al (fun _ => ?_))
  refine sl_call rfl rfl rfl rfl rfl rfl (fun _ => signed_ct (ho.dig.app _)) ?_
  rintro v U' D1 hU ⟨rfl, rfl, rfl⟩
  repeat (first | refine run_S ?_ | refine w_box (fun _ => ?_) | refine w_al (fun _ => ?_))
  refine sl_perm ?_ (perm2 (D := D))
  repeat (first | refine run_S ?_ | refine w_box (fun _ => ?_) | refine w_al (fun _ => ?_))
  refine sk_ret D sym rfl (.cons (.cell 0 rfl rfl rfl) .nil) (ULe.refl _) (.cons _ (.cons _ (List.Sublist.refl _))) (.inl rfl) ⟨_, rfl, ?_, rfl⟩
  have h := own_signed (neg := neg) ho
  rwa [val_tl] at h

theorem Neg_ct {x : IV} {z : Int} (hx : x.rep U M z) (hn : x.n ≤ 1099511627776) :
    Ct Try.prog 82 [x.v] G U M fun v U' D => ∃ r : IV, v = r.v ∧ r.own D (-z) ∧ U = U' := by
  obtain ⟨neg, p, n, c⟩ := x
  obtain ⟨l, hd, rfl⟩ := hx
  simp only at hd hn
  have hln := hd.tl.len
  have hle : (tl l).length ≤ n := by have := tl_length_le l; have := hd.len; omega
  refine ct_of_st Try.func82 rfl rfl rfl rfl ?_
  repeat (first | refine run_S ?_ | refine w_box (fun _ => ?_) | refine w_al (fun _ => ?_))
  refine st_draw [0, 1, 2, 3, 4, 5, 6, 7, 8] sym (by kernel_rfl) ?_
  repeat (first | refine run_S ?_ | refine w_box (fun _ => ?_) | refine w_al (fun _ => ?_))
  refine sl_call rfl rfl rfl rfl rfl rfl (fun _ => trimmed_ct ((hd.up (ULe.refl _) (.cons _ (.cons _ (List.Sublist.refl _)))).app _)) ?_
  rintro v U' D hU ⟨rfl, rfl, rfl⟩
  repeat (first | refine run_S ?_ | refine w_box (fun _ => ?_) | refine w_al (fun _ => ?_))
  refine sl_call rfl rfl rfl rfl rfl rfl (fun _ => Clone_ct ((hd.tl.up (ULe.refl _) (.cons _ (.cons _ (List.Sublist.refl _)))).app _) (by omega)) ?_
  rintro v U' D hU ⟨q, k, cc, rfl, ho, rfl, rfl⟩
  repeat (first | refine run_S ?_ | refine w_box (fun _ => ?_) | refine w_al (fun _ => ?_))
  refine sl_call rfl rfl rfl rfl rfl rfl (fun _ => signed_ct (ho.dig.app _)) ?_
  rintro v U' D1 hU ⟨rfl, rfl, rfl⟩
  repeat (first | refine run_S ?_ | refine w_box (fun _ => ?_) | refine w_al (fun _ => ?_))
  refine sl_perm ?_ (perm2 (D := D))
  repeat (first | refine run_S ?_ | refine w_box (fun _ => ?_) | refine w_al (fun _ => ?_))
  refine sk_ret D sym rfl (.cons (.cell 0 rfl rfl rfl) .nil) (ULe.refl _) (.cons _ (.cons _ (List.Sublist.refl _))) (.inl rfl) ⟨_, rfl, ?_, rfl⟩
  have h := own_signed (neg := !neg) ho
  rw [val_tl] at h
  have e : sg (!neg) (val l) = -sg neg (val l) := by cases neg <;> simp [sg]
  rwa [e] at h

theorem Abs_ct {x : IV} {z : Int} (hx : x.rep U M z) (hn : x.n ≤ 1099511627776) :
    Ct Try.prog 45 [x.v] G U M fun v U' D => ∃ r : IV, v = r.v ∧ r.own D (z.natAbs) ∧ U = U' := by
  obtain ⟨neg, p, n, c⟩ := x
  obtain ⟨l, hd, rfl⟩ := hx
  simp only at hd hn
  have hln := hd.tl.len
  have hle : (tl l).length ≤ n := by have := tl_length_le l; have := hd.len; omega
  refine ct_of_st Try.func45 rfl rfl rfl rfl ?_
  repeat (first | refine run_S ?_ | refine w_box (fun _ => ?_) | refine w_al (fun _ => ?_))
  refine sl_call rfl rfl rfl rfl rfl rfl (fun _ => trimmed_ct ((hd.up (ULe.refl _) (.cons _ (.cons _ (List.Sublist.refl _)))).app _)) ?_
  rintro v U' D hU ⟨rfl, rfl, rfl⟩
  repeat (first | refine run_S ?_ | refine w_box (fun _ => ?_) | refine w_al (fun _ => ?_))
  refine sl_call rfl rfl rfl rfl rfl rfl (fun _ => Clone_ct ((hd.tl.up (ULe.refl _) (.cons _ (.cons _ (List.Sublist.refl _)))).app _) (by omega)) ?_
  rintro v U' D hU ⟨q, k, cc, rfl, ho, rfl, rfl⟩
  repeat (first | refine run_S ?_ | refine w_box (fun _ => ?_) | refine w_al (fun _ => ?_))
  refine sl_call rfl rfl rfl rfl rfl rfl (fun _ => signed_ct (ho.dig.app _)) ?_
  rintro v U' D1 hU ⟨rfl, rfl, rfl⟩
  repeat (first | refine run_S ?_ | refine w_box (fun _ => ?_) | refine w_al (fun _ => ?_))
  refine sl_perm ?_ (perm2 (D := D))
  repeat (first | refine run_S ?_ | refine w_box (fun _ => ?_) | refine w_al (fun _ => ?_))
  refine sk_ret D sym rfl (.cons (.cell 0 rfl rfl rfl) .nil) (ULe.refl _) (.cons _ (.cons _ (List.Sublist.refl _))) (.inl rfl) ⟨_, rfl, ?_, rfl⟩
  have h := own_signed (neg := false) ho
  rw [val_tl] at h
  rw [sg_natAbs]
  exact h

theorem Of_ct {z : Int} (h0 : -9223372036854775808 ≤ z) (h1 : z ≤ 9223372036854775807) :
    Ct Try.prog 31 [.int .i64 z] G U M fun v U' D => ∃ r : IV, v = r.v ∧ r.own D z ∧ U = U' := by
  refine ct_of_st Try.func31 rfl rfl rfl rfl ?_
  repeat (first | refine run_S ?_ | refine w_box (fun _ => ?_) | refine w_al (fun _ => ?_))
  refine st_dec rfl (fun h2 => ?_) (fun h2 => ?_)
  · obtain ⟨m, e⟩ : ∃ m : Nat, (m : Int) = -z := ⟨(-z).toNat, by omega⟩
    repeat (first | refine run_S ?_ | refine w_box (fun _ => ?_) | refine w_al (fun _ => ?_))
    rw [show IntKind.u64.wrap (0 - IntKind.u64.wrap z) = (m : Int) by rw [wrap_u64, wrap_u64]; omega]
    refine sl_call rfl rfl rfl rfl rfl rfl (fun _ => wide_ct (n := m) (by omega)) ?_
    rintro v U' D hU ⟨q, k, cc, l, rfl, ho, cl, hv, rfl⟩
    repeat (first | refine run_S ?_ | refine w_box (fun _ => ?_) | refine w_al (fun _ => ?_))
    refine sl_call rfl rfl rfl rfl rfl rfl (fun _ => signed_ct (ho.dig.app _)) ?_
    rintro v U' D1 hU ⟨rfl, rfl, rfl⟩
    repeat (first | refine run_S ?_ | refine w_box (fun _ => ?_) | refine w_al (fun _ => ?_))
    refine sl_perm ?_ (perm1 (D := D))
    repeat (first | refine run_S ?_ | refine w_box (fun _ => ?_) | refine w_al (fun _ => ?_))
    refine sk_ret D sym rfl (.cons (.cell 0 rfl rfl rfl) .nil) (ULe.refl _) (.cons _ (List.Sublist.refl _)) (.inl rfl) ⟨_, rfl, ?_, rfl⟩
    have h := own_signed (neg := true) ho
    rw [hv, show sg true m = z by simp [sg]; omega] at h
    exact h
  · have e : z = ((z.toNat : Nat) : Int) := by omega
    generalize z.toNat = m at *
    subst e
    repeat (first | refine run_S ?_ | refine w_box (fun _ => ?_) | refine w_al (fun _ => ?_))
    refine sl_call rfl rfl rfl rfl rfl rfl (fun _ => wide_ct (n := m) (by omega)) ?_
    rintro v U' D hU ⟨q, k, cc, l, rfl, ho, cl, hv, rfl⟩
    repeat (first | refine run_S ?_ | refine w_box (fun _ => ?_) | refine w_al (fun _ => ?_))
    refine sl_call rfl rfl rfl rfl rfl rfl (fun _ => signed_ct (ho.dig.app _)) ?_
    rintro v U' D1 hU ⟨rfl, rfl, rfl⟩
    repeat (first | refine run_S ?_ | refine w_box (fun _ => ?_) | refine w_al (fun _ => ?_))
    refine sl_perm ?_ (perm1 (D := D))
    repeat (first | refine run_S ?_ | refine w_box (fun _ => ?_) | refine w_al (fun _ => ?_))
    refine sk_ret D sym rfl (.cons (.cell 0 rfl rfl rfl) .nil) (ULe.refl _) (.cons _ (List.Sublist.refl _)) (.inl rfl) ⟨_, rfl, ?_, rfl⟩
    have h := own_signed (neg := false) ho
    rw [hv] at h
    exact h

theorem Sign_ct {x : IV} {z : Int} (hx : x.rep U M z) (hn : x.n ≤ 1099511627776) :
    Ct Try.prog 32 [x.v] G U M fun v U' D => v = .int .i64 z.sign ∧ U = U' ∧ D = [] := by
  obtain ⟨neg, p, n, c⟩ := x
  obtain ⟨l, hd, rfl⟩ := hx
  simp only at hd hn
  have hz : (tl l).length = 0 ↔ val l = 0 := by
    rw [← val_tl l, (cn_tl hd.bd).zero]
    exact List.length_eq_zero_iff
  refine ct_of_st Try.func32 rfl rfl rfl rfl ?_
  repeat (first | refine run_S ?_ | refine w_box (fun _ => ?_) | refine w_al (fun _ => ?_))
  refine sl_call rfl rfl rfl rfl rfl rfl (fun _ => trimmed_ct ((hd.up (ULe.refl _) (.cons _ (List.Sublist.refl _))).app _)) ?_
  rintro v U' D hU ⟨rfl, rfl, rfl⟩
  repeat (first | refine run_S ?_ | refine w_box (fun _ => ?_) | refine w_al (fun _ => ?_))
  refine st_eq rfl (fun h0 => ?_) (fun h0 => ?_)
  · repeat (first | refine run_S ?_ | refine w_box (fun _ => ?_) | refine w_al (fun _ => ?_))
    refine sk_ret [] sym rfl (.cons (.tmp rfl) .nil) (ULe.refl _) (.cons _ (List.Sublist.refl _)) (.inl rfl) ⟨?_, rfl, rfl⟩
    have : val l = 0 := hz.1 (by omega)
    simp only [tup, this]
    cases neg <;> rfl
  · have hp : 0 < val l := by
      rcases Nat.eq_zero_or_pos (val l) with h | h
      · exact absurd (hz.2 h) (by omega)
      · exact h
    repeat (first | refine run_S ?_ | refine w_box (fun _ => ?_) | refine w_al (fun _ => ?_))
    cases neg
    · repeat (first | refine run_S ?_ | refine w_box (fun _ => ?_) | refine w_al (fun _ => ?_))
      refine sk_ret [] sym rfl (.cons (.tmp rfl) .nil) (ULe.refl _) (.cons _ (List.Sublist.refl _)) (.inl rfl) ⟨?_, rfl, rfl⟩
      have : (sg false (val l)).sign = 1 := Int.sign_eq_one_of_pos (by simp [sg]; omega)
      simp only [tup, this]
    · repeat (first | refine run_S ?_ | refine w_box (fun _ => ?_) | refine w_al (fun _ => ?_))
      refine sk_ret [] sym rfl (.cons (.tmp rfl) .nil) (ULe.refl _) (.cons _ (List.Sublist.refl _)) (.inl rfl) ⟨?_, rfl, rfl⟩
      have : (sg true (val l)).sign = -1 := Int.sign_eq_neg_one_of_neg (by simp [sg]; omega)
      simp only [tup, this]

end Go.Proofs.Ytlnmhjkagnfnaaa

/- Walks of bigint, 13: sums, differences, products of integers. -/
namespace Go.Proofs.Ytlnmhjkagnfnaaa
open Go.Hp
variable {G : World} {U : UH} {M : MH}

theorem add_ct {x : IV} {z : Int} {neg' : Bool} {p' : Option Addr} {n' c' : Nat} {b : List Nat} (hx : x.rep U M z) (hn : x.n ≤ 1099511627776) (hb : Dig U M p' n' c' b) (cb : Cn b) (hn' : n' ≤ 1099511627776) :
    Ct Try.prog 70 [x.v, .bool neg', .slice p' n' c'] G U M fun v U' D => ∃ r : IV, v = r.v ∧ r.own D (z + sg neg' (val b)) ∧ U = U' := by
  obtain ⟨neg, p, n, c⟩ := x
  obtain ⟨l, hd, rfl⟩ := hx
  simp only at hd hn
  have hln := hd.tl.len
  have hle : (tl l).length ≤ n := by have := tl_length_le l; have := hd.len; omega
  have htv := val_tl l
  have hct := cn_tl hd.bd
  have hb' := hb
  refine ct_of_st Try.func70 rfl rfl rfl rfl ?_
  repeat (first | refine run_S ?_ | refine w_box (fun _ => ?_) | refine w_al (fun _ => ?_))
  refine sl_call rfl rfl rfl rfl rfl rfl (fun _ => trimmed_ct ((hd.up (ULe.refl _) (.cons _ (.cons _ (List.Sublist.refl _)))).app _)) ?_
  rintro v U' D hU ⟨rfl, rfl, rfl⟩
  replace hd := hd.tl
  rw [← htv]
  generalize tl l = a at *
  repeat (first | refine run_S ?_ | refine w_box (fun _ => ?_) | refine w_al (fun _ => ?_))
  by_cases he : neg = neg'
  · subst he
    rw [show (neg == neg) = true by cases neg <;> rfl]
    repeat (first | refine run_S ?_ | refine w_box (fun _ => ?_) | refine w_al (fun _ => ?_))
    refine sl_call rfl rfl rfl rfl rfl rfl (fun _ => plus_ct ((hd.up (ULe.refl _) (.cons _ (.cons _ (List.Sublist.refl _)))).app _) ((hb.up (ULe.refl _) (.cons _ (.cons _ (List.Sublist.refl _)))).app _) (by omega) hn') ?_
    rintro v U' D hU ⟨q, k, cc, l1, rfl, ho, hv, hk, rfl⟩
    repeat (first | refine run_S ?_ | refine w_box (fun _ => ?_) | refine w_al (fun _ => ?_))
    refine sl_call rfl rfl rfl rfl rfl rfl (fun _ => signed_ct (ho.dig.app _)) ?_
    rintro v U' D1 hU ⟨rfl, rfl, rfl⟩
    repeat (first | refine run_S ?_ | refine w_box (fun _ => ?_) | refine w_al (fun _ => ?_))
    refine sl_perm ?_ (perm2 (D := D))
    repeat (first | refine run_S ?_ | refine w_box (fun _ => ?_) | refine w_al (fun _ => ?_))
    refine sk_ret D sym rfl (.cons (.cell 0 rfl rfl rfl) .nil) (ULe.refl _) (.cons _ (.cons _ (List.Sublist.refl _))) (.inl rfl) ⟨_, rfl, ?_, rfl⟩
    have h := own_signed (neg := neg) ho
    rw [hv] at h
    rwa [show sg neg (val a) + sg neg (val b) = sg neg (val a + val b) by cases neg <;> simp [sg] <;> omega]
  · rw [show (neg == neg') = false by cases neg <;> cases neg' <;> simp at he ⊢]
    repeat (first | refine run_S ?_ | refine w_box (fun _ => ?_) | refine w_al (fun _ => ?_))
    refine sl_call rfl rfl rfl rfl rfl rfl (fun _ => compare_ct ((hd.up (ULe.refl _) (.cons _ (.cons _ (List.Sublist.refl _)))).app _) ((hb.up (ULe.refl _) (.cons _ (.cons _ (List.Sublist.refl _)))).app _) hct cb) ?_
    rintro v U' D hU ⟨rfl, rfl, rfl⟩
    repeat (first | refine run_S ?_ | refine w_box (fun _ => ?_) | refine w_al (fun _ => ?_))
    refine st_dec rfl (fun h0 => ?_) (fun h0 => ?_)
    · have hge : val b ≤ val a := by
        rcases Nat.lt_or_ge (val a) (val b) with h | h
        · have := Int.sign_neg_iff.2 (show (val a : Int) - (val b : Int) < 0 by omega)
          omega
        · exact h
      have hnn := cb.len_le hct.bd hge
      rw [hb.len] at hnn
      repeat (first | refine run_S ?_ | refine w_box (fun _ => ?_) | refine w_al (fun _ => ?_))
      refine st_draw [0, 1, 2, 3, 4, 5, 6] sym (by kernel_rfl) ?_
      repeat (first | refine run_S ?_ | refine w_box (fun _ => ?_) | refine w_al (fun _ => ?_))
      refine sl_call rfl rfl rfl rfl rfl rfl (fun _ => less_ct ((hd.up (ULe.refl _) (.cons _ (.cons _ (List.Sublist.refl _)))).app _) ((hb.up (ULe.refl _) (.cons _ (.cons _ (List.Sublist.refl _)))).app _) (by omega) hnn hge) ?_
      rintro v U' D hU ⟨q, k, cc, l1, rfl, ho, hv, hk, rfl⟩
      repeat (first | refine run_S ?_ | refine w_box (fun _ => ?_) | refine w_al (fun _ => ?_))
      refine sl_call rfl rfl rfl rfl rfl rfl (fun _ => signed_ct (ho.dig.app _)) ?_
      rintro v U' D1 hU ⟨rfl, rfl, rfl⟩
      repeat (first | refine run_S ?_ | refine w_box (fun _ => ?_) | refine w_al (fun _ => ?_))
      refine sl_perm ?_ (perm2 (D := D))
      repeat (first | refine run_S ?_ | refine w_box (fun _ => ?_) | refine w_al (fun _ => ?_))
      refine sk_ret D sym rfl (.cons (.cell 0 rfl rfl rfl) .nil) (ULe.refl _) (.cons _ (.cons _ (List.Sublist.refl _))) (.inl rfl) ⟨_, rfl, ?_, rfl⟩
      have h := own_signed (neg := neg) ho
      rw [hv] at h
      rwa [show sg neg (val a) + sg neg' (val b) = sg neg (val a - val b) by cases neg <;> cases neg' <;> simp [sg] at he ⊢ <;> omega]
    · have hge : val a ≤ val b := by
        rcases Nat.lt_or_ge (val b) (val a) with h | h
        · have := Int.sign_eq_one_of_pos (show (0 : Int) < (val a : Int) - (val b : Int) by omega)
          omega
        · exact h
      have hnn := hct.len_le cb.bd hge
      rw [hb.len] at hnn
      repeat (first | refine run_S ?_ | refine w_box (fun _ => ?_) | refine w_al (fun _ => ?_))
      refine sl_call rfl rfl rfl rfl rfl rfl (fun _ => less_ct ((hb.up (ULe.refl _) (.cons _ (.cons _ (List.Sublist.refl _)))).app _) ((hd.up (ULe.refl _) (.cons _ (.cons _ (List.Sublist.refl _)))).app _) hn' hnn hge) ?_
      rintro v U' D hU ⟨q, k, cc, l1, rfl, ho, hv, hk, rfl⟩
      repeat (first | refine run_S ?_ | refine w_box (fun _ => ?_) | refine w_al (fun _ => ?_))
      refine sl_call rfl rfl rfl rfl rfl rfl (fun _ => signed_ct (ho.dig.app _)) ?_
      rintro v U' D1 hU ⟨rfl, rfl, rfl⟩
      repeat (first | refine run_S ?_ | refine w_box (fun _ => ?_) | refine w_al (fun _ => ?_))
      refine sl_perm ?_ (perm2 (D := D))
      repeat (first | refine run_S ?_ | refine w_box (fun _ => ?_) | refine w_al (fun _ => ?_))
      refine sk_ret D sym rfl (.cons (.cell 0 rfl rfl rfl) .nil) (ULe.refl _) (.cons _ (.cons _ (List.Sublist.refl _))) (.inl rfl) ⟨_, rfl, ?_, rfl⟩
      have h := own_signed (neg := neg') ho
      rw [hv] at h
      rwa [show sg neg (val a) + sg neg' (val b) = sg neg' (val b - val a) by cases neg <;> cases neg' <;> simp [sg] at he ⊢ <;> omega]

theorem Add_ct {x y : IV} {z u : Int} (hx : x.rep U M z) (hn : x.n ≤ 1099511627776) (hy : y.rep U M u) (hn' : y.n ≤ 1099511627776) :
    Ct Try.prog 65 [x.v, y.v] G U M fun v U' D => ∃ r : IV, v = r.v ∧ r.own D (z + u) ∧ U = U' := by
  obtain ⟨neg, p, n, c⟩ := y
  obtain ⟨l, hd, rfl⟩ := hy
  obtain ⟨neg1, p1, n1, c1⟩ := x
  simp only at hd hn hn'
  have hle : (tl l).length ≤ n := by have := tl_length_le l; have := hd.len; omega
  refine ct_of_st Try.func65 rfl rfl rfl rfl ?_
  repeat (first | refine run_S ?_ | refine w_box (fun _ => ?_) | refine w_al (fun _ => ?_))
  refine st_draw [0, 1, 2, 3, 4, 5, 6, 7] sym (by kernel_rfl) ?_
  repeat (first | refine run_S ?_ | refine w_box (fun _ => ?_) | refine w_al (fun _ => ?_))
  refine sl_call rfl rfl rfl rfl rfl rfl (fun _ => trimmed_ct ((hd.up (ULe.refl _) (.cons _ (.cons _ (.cons _ (List.Sublist.refl _))))).app _)) ?_
  rintro v U' D hU ⟨rfl, rfl, rfl⟩
  repeat (first | refine run_S ?_ | refine w_box (fun _ => ?_) | refine w_al (fun _ => ?_))
  refine sl_call rfl rfl rfl rfl rfl rfl (fun _ => add_ct (x := ⟨neg1, p1, n1, c1⟩) (hx.up (ULe.refl _) ((List.Sublist.cons _ (.cons _ (.cons _ (List.Sublist.refl _)))).trans (List.sublist_append_right ..))) hn ((hd.tl.up (ULe.refl _) (.cons _ (.cons _ (.cons _ (List.Sublist.refl _))))).app _) (cn_tl hd.bd) (by omega)) ?_
  rintro v U' D hU ⟨r, rfl, ho, rfl⟩
  repeat (first | refine run_S ?_ | refine w_box (fun _ => ?_) | refine w_al (fun _ => ?_))
  refine sl_perm ?_ (perm3 (D := D))
  repeat (first | refine run_S ?_ | refine w_box (fun _ => ?_) | refine w_al (fun _ => ?_))
  refine sk_ret D sym rfl (.cons (.cell 0 rfl rfl rfl) .nil) (ULe.refl _) (.cons _ (.cons _ (.cons _ (List.Sublist.refl _)))) (.inl rfl) ⟨r, rfl, ?_, rfl⟩
  rwa [val_tl] at ho

end Go.Proofs.Ytlnmhjkagnfnaaa

/- Walks of bigint, 14: differences, products, comparison of integers. -/
namespace Go.Proofs.Ytlnmhjkagnfnaaa
open Go.Hp
variable {G : World} {U : UH} {M : MH}

theorem Sub_ct {x y : IV} {z u : Int} (hx : x.rep U M z) (hn : x.n ≤ 1099511627776) (hy : y.rep U M u) (hn' : y.n ≤ 1099511627776) :
    Ct Try.prog 43 [x.v, y.v] G U M fun v U' D => ∃ r : IV, v = r.v ∧ r.own D (z - u) ∧ U = U' := by
  obtain ⟨neg, p, n, c⟩ := y
  obtain ⟨l, hd, rfl⟩ := hy
  obtain ⟨neg1, p1, n1, c1⟩ := x
  simp only at hd hn hn'
  have hle : (tl l).length ≤ n := by have := tl_length_le l; have := hd.len; omega
  refine ct_of_st Try.func43 rfl rfl rfl rfl ?_
  repeat (first | refine run_S ?_ | refine w_box (fun _ => ?_) | refine w_al (fun _ => ?_))
  refine st_draw [0, 1, 2, 3, 4, 5, 6, 7, 8] sym (by kernel_rfl) ?_
  repeat (first | refine run_S ?_ | refine w_box (fun _ => ?_) | refine w_al (fun _ => ?_))
  refine sl_call rfl rfl rfl rfl rfl rfl (fun _ => trimmed_ct ((hd.up (ULe.refl _) (.cons _ (.cons _ (.cons _ (List.Sublist.refl _))))).app _)) ?_
  rintro v U' D hU ⟨rfl, rfl, rfl⟩
  repeat (first | refine run_S ?_ | refine w_box (fun _ => ?_) | refine w_al (fun _ => ?_))
  refine sl_call rfl rfl rfl rfl rfl rfl (fun _ => add_ct (x := ⟨neg1, p1, n1, c1⟩) (hx.up (ULe.refl _) ((List.Sublist.cons _ (.cons _ (.cons _ (List.Sublist.refl _)))).trans (List.sublist_append_right ..))) hn ((hd.tl.up (ULe.refl _) (.cons _ (.cons _ (.cons _ (List.Sublist.refl _))))).app _) (cn_tl hd.bd) (by omega)) ?_
  rintro v U' D hU ⟨r, rfl, ho, rfl⟩
  repeat (first | refine run_S ?_ | refine w_box (fun _ => ?_) | refine w_al (fun _ => ?_))
  refine sl_perm ?_ (perm3 (D := D))
  repeat (first | refine run_S ?_ | refine w_box (fun _ => ?_) | refine w_al (fun _ => ?_))
  refine sk_ret D sym rfl (.cons (.cell 0 rfl rfl rfl) .nil) (ULe.refl _) (.cons _ (.cons _ (.cons _ (List.Sublist.refl _)))) (.inl rfl) ⟨r, rfl, ?_, rfl⟩
  have e : sg (!neg) (val l) = -sg neg (val l) := by cases neg <;> simp [sg]
  rw [val_tl, e] at ho
  exact ho

theorem sg_mul (a b : Bool) (m n : Nat) : sg (a != b) (m * n) = sg a m * sg b n := by
  cases a <;> cases b <;> simp [sg, Int.neg_mul, Int.mul_neg]

theorem Mul_ct {x y : IV} {z u : Int} (hx : x.rep U M z) (hn : x.n ≤ 1099511627776) (hy : y.rep U M u) (hn' : y.n ≤ 1099511627776) :
    Ct Try.prog 36 [x.v, y.v] G U M fun v U' D => ∃ r : IV, v = r.v ∧ r.own D (z * u) ∧ U = U' := by
  obtain ⟨neg, p, n, c⟩ := y
  obtain ⟨l, hd, rfl⟩ := hy
  obtain ⟨neg1, p1, n1, c1⟩ := x
  obtain ⟨l1, hd1, rfl⟩ := hx
  simp only at hd hd1 hn hn'
  have hle : (tl l).length ≤ n := by have := tl_length_le l; have := hd.len; omega
  have hle1 : (tl l1).length ≤ n1 := by have := tl_length_le l1; have := hd1.len; omega
  refine ct_of_st Try.func36 rfl rfl rfl rfl ?_
  repeat (first | refine run_S ?_ | refine w_box (fun _ => ?_) | refine w_al (fun _ => ?_))
  refine st_draw [0, 1, 2, 3, 4, 5, 6, 8, 9, 7, 10, 11, 12, 13] sym (by kernel_rfl) ?_
  repeat (first | refine run_S ?_ | refine w_box (fun _ => ?_) | refine w_al (fun _ => ?_))
  refine sl_call rfl rfl rfl rfl rfl rfl (fun _ => trimmed_ct ((hd1.up (ULe.refl _) (.cons _ (.cons _ (.cons _ (List.Sublist.refl _))))).app _)) ?_
  rintro v U' D hU ⟨rfl, rfl, rfl⟩
  repeat (first | refine run_S ?_ | refine w_box (fun _ => ?_) | refine w_al (fun _ => ?_))
  refine sl_call rfl rfl rfl rfl rfl rfl (fun _ => trimmed_ct (((hd.up (ULe.refl _) (.cons _ (.cons _ (.cons _ (List.Sublist.refl _))))).app _).app _)) ?_
  rintro v U' D hU ⟨rfl, rfl, rfl⟩
  repeat (first | refine run_S ?_ | refine w_box (fun _ => ?_) | refine w_al (fun _ => ?_))
  refine sl_call rfl rfl rfl rfl rfl rfl (fun _ => times_ct ((hd1.tl.up (ULe.refl _) (.cons _ (.cons _ (.cons _ (List.Sublist.refl _))))).app _) ((hd.tl.up (ULe.refl _) (.cons _ (.cons _ (.cons _ (List.Sublist.refl _))))).app _) (by omega) (by omega)) ?_
  rintro v U' D hU ⟨q, k, cc, l2, rfl, ho, hv, hk, rfl⟩
  repeat (first | refine run_S ?_ | refine w_box (fun _ => ?_) | refine w_al (fun _ => ?_))
  refine sl_call rfl rfl rfl rfl rfl rfl (fun _ => signed_ct (ho.dig.app _)) ?_
  rintro v U' D1 hU ⟨rfl, rfl, rfl⟩
  repeat (first | refine run_S ?_ | refine w_box (fun _ => ?_) | refine w_al (fun _ => ?_))
  refine sl_perm ?_ (perm3 (D := D))
  repeat (first | refine run_S ?_ | refine w_box (fun _ => ?_) | refine w_al (fun _ => ?_))
  refine sk_ret D sym rfl (.cons (.cell 0 rfl rfl rfl) .nil) (ULe.refl _) (.cons _ (.cons _ (.cons _ (List.Sublist.refl _)))) (.inl rfl) ⟨_, rfl, ?_, rfl⟩
  have h := own_signed (neg := neg1 != neg) ho
  rw [hv, val_tl, val_tl, sg_mul] at h
  exact h

theorem cmp_sign {z u : Int} (h : z.sign = u.sign) : z.sign * ((z.natAbs : Int) - u.natAbs).sign = (z - u).sign := by
  rcases Int.lt_trichotomy z 0 with h1 | h1 | h1
  · have h2 : u < 0 := by rw [Int.sign_eq_neg_one_of_neg h1] at h; exact Int.sign_eq_neg_one_iff_neg.1 h.symm
    rw [Int.sign_eq_neg_one_of_neg h1, show (z.natAbs : Int) = -z by omega, show (u.natAbs : Int) = -u by omega, show -z - -u = -(z - u) by omega, Int.sign_neg]
    omega
  · subst h1
    have h2 : u = 0 := Int.sign_eq_zero_iff_zero.1 h.symm
    subst h2; rfl
  · have h2 : 0 < u := by rw [Int.sign_eq_one_of_pos h1] at h; exact Int.sign_eq_one_iff_pos.1 h.symm
    rw [Int.sign_eq_one_of_pos h1, show (z.natAbs : Int) = z by omega, show (u.natAbs : Int) = u by omega, Int.one_mul]

theorem cmp_sign2 {z u : Int} (h : z.sign ≠ u.sign) : (z.sign - u.sign).sign = (z - u).sign := by
  rcases Int.lt_trichotomy z 0 with h1 | h1 | h1 <;> rcases Int.lt_trichotomy u 0 with h2 | h2 | h2
  all_goals first
    | (rw [Int.sign_eq_neg_one_of_neg h1, Int.sign_eq_neg_one_of_neg h2] at h; exact absurd rfl h)
    | (rw [Int.sign_eq_one_of_pos h1, Int.sign_eq_one_of_pos h2] at h; exact absurd rfl h)
    | (subst h1; subst h2; exact absurd rfl h)
    | (rw [Int.sign_eq_neg_one_of_neg (show z - u < 0 by omega)]; first
        | (subst h1; rw [Int.sign_eq_one_of_pos h2]; rfl)
        | (subst h2; rw [Int.sign_eq_neg_one_of_neg h1]; rfl)
        | (rw [Int.sign_eq_neg_one_of_neg h1, Int.sign_eq_one_of_pos h2]; rfl))
    | (rw [Int.sign_eq_one_of_pos (show 0 < z - u by omega)]; first
        | (subst h1; rw [Int.sign_eq_neg_one_of_neg h2]; rfl)
        | (subst h2; rw [Int.sign_eq_one_of_pos h1]; rfl)
        | (rw [Int.sign_eq_one_of_pos h1, Int.sign_eq_neg_one_of_neg h2]; rfl))

theorem Cmp_ct {x y : IV} {z u : Int} (hx : x.rep U M z) (hn : x.n ≤ 1099511627776) (hy : y.rep U M u) (hn' : y.n ≤ 1099511627776) :
    Ct Try.prog 33 [x.v, y.v] G U M fun v U' D => v = .int .i64 (z - u).sign ∧ U = U' ∧ D = [] := by
  obtain ⟨neg, p, n, c⟩ := y
  obtain ⟨neg1, p1, n1, c1⟩ := x
  have hx' := hx
  have hy' := hy
  obtain ⟨l, hd, hu⟩ := hy'
  obtain ⟨l1, hd1, hz⟩ := hx'
  simp only at hd hd1 hn hn' hz hu
  have s1 : -1 ≤ z.sign ∧ z.sign ≤ 1 := ⟨by rcases Int.sign_trichotomy z with h | h | h <;> omega, by rcases Int.sign_trichotomy z with h | h | h <;> omega⟩
  have s2 : -1 ≤ u.sign ∧ u.sign ≤ 1 := ⟨by rcases Int.sign_trichotomy u with h | h | h <;> omega, by rcases Int.sign_trichotomy u with h | h | h <;> omega⟩
  refine ct_of_st Try.func33 rfl rfl rfl rfl ?_
  repeat (first | refine run_S ?_ | refine w_box (fun _ => ?_) | refine w_al (fun _ => ?_))
  refine st_draw [0, 2, 1, 3, 4, 5] sym (by kernel_rfl) ?_
  repeat (first | refine run_S ?_ | refine w_box (fun _ => ?_) | refine w_al (fun _ => ?_))
  refine sl_call rfl rfl rfl rfl rfl rfl (fun _ => Sign_ct (x := ⟨neg1, p1, n1, c1⟩) (hx.up (ULe.refl _) ((List.Sublist.cons _ (.cons _ (List.Sublist.refl _))).trans (List.sublist_append_right ..))) hn) ?_
  rintro v U' D hU ⟨rfl, rfl, rfl⟩
  repeat (first | refine run_S ?_ | refine w_box (fun _ => ?_) | refine w_al (fun _ => ?_))
  refine sl_call rfl rfl rfl rfl rfl rfl (fun _ => Sign_ct (x := ⟨neg, p, n, c⟩) (hy.up (ULe.refl _) ((List.Sublist.cons _ (.cons _ (List.Sublist.refl _))).trans (List.sublist_append_right ..))) hn') ?_
  rintro v U' D hU ⟨rfl, rfl, rfl⟩
  generalize hsz : z.sign = sz at *
  generalize hsu : u.sign = su at *
  repeat (first | refine run_S ?_ | refine w_box (fun _ => ?_) | refine w_al (fun _ => ?_))
  refine st_ne rfl (fun h0 => ?_) (fun h0 => ?_)
  · repeat (first | refine run_S ?_ | refine w_box (fun _ => ?_) | refine w_al (fun _ => ?_))
    refine sl_call rfl rfl rfl rfl rfl rfl (fun _ => sign_ct) ?_
    rintro v U' D hU ⟨rfl, rfl, rfl⟩
    repeat (first | refine run_S ?_ | refine w_box (fun _ => ?_) | refine w_al (fun _ => ?_))
    refine sk_ret [] sym rfl (.cons (.tmp rfl) .nil) (ULe.refl _) (.cons _ (.cons _ (List.Sublist.refl _))) (.inl rfl) ⟨?_, rfl, rfl⟩
    rw [← hsz, ← hsu, cmp_sign2 (by rw [hsz, hsu]; exact h0)]; rfl
  · repeat (first | refine run_S ?_ | refine w_box (fun _ => ?_) | refine w_al (fun _ => ?_))
    refine st_draw [0, 1, 2, 4, 5, 3, 6, 7, 8, 9] sym (by kernel_rfl) ?_
    repeat (first | refine run_S ?_ | refine w_box (fun _ => ?_) | refine w_al (fun _ => ?_))
    refine sl_call rfl rfl rfl rfl rfl rfl (fun _ => trimmed_ct ((hd1.up (ULe.refl _) (.cons _ (.cons _ (List.Sublist.refl _)))).app _)) ?_
    rintro v U' D hU ⟨rfl, rfl, rfl⟩
    repeat (first | refine run_S ?_ | refine w_box (fun _ => ?_) | refine w_al (fun _ => ?_))
    refine sl_call rfl rfl rfl rfl rfl rfl (fun _ => trimmed_ct ((hd.up (ULe.refl _) (.cons _ (.cons _ (List.Sublist.refl _)))).app _)) ?_
    rintro v U' D hU ⟨rfl, rfl, rfl⟩
    repeat (first | refine run_S ?_ | refine w_box (fun _ => ?_) | refine w_al (fun _ => ?_))
    refine sl_call rfl rfl rfl rfl rfl rfl (fun _ => compare_ct ((hd1.tl.up (ULe.refl _) (.cons _ (.cons _ (List.Sublist.refl _)))).app _) ((hd.tl.up (ULe.refl _) (.cons _ (.cons _ (List.Sublist.refl _)))).app _) (cn_tl hd1.bd) (cn_tl hd.bd)) ?_
    rintro v U' D hU ⟨rfl, rfl, rfl⟩
    have e1 : val l1 = z.natAbs := by rw [hz, sg_natAbs]
    have e2 : val l = u.natAbs := by rw [hu, sg_natAbs]
    rw [val_tl, val_tl, e1, e2]
    have e3 : sz * ((z.natAbs : Int) - (u.natAbs : Int)).sign = (z - u).sign := by rw [← hsz]; exact cmp_sign (by rw [hsz, hsu]; exact h0)
    have s3 : -1 ≤ (z - u).sign ∧ (z - u).sign ≤ 1 := ⟨by rcases Int.sign_trichotomy (z - u) with h | h | h <;> omega, by rcases Int.sign_trichotomy (z - u) with h | h | h <;> omega⟩
    have e4 := e3
    generalize ((z.natAbs : Int) - (u.natAbs : Int)).sign = sc at *
    rw [← e3] at s3
    repeat (first | refine run_S ?_ | refine w_box (fun _ => ?_) | refine w_al (fun _ => ?_))
    rw [e3]
    refine sk_ret [] sym rfl (.cons (.tmp rfl) .nil) (ULe.refl _) (.cons _ (.cons _ (List.Sublist.refl _))) (.inl rfl) ⟨rfl, rfl, rfl⟩

end Go.Proofs.Ytlnmhjkagnfnaaa

/- Walks of bigint, 15: division of integers. -/
namespace Go.Hp
theorem ediv_of {z u q r : Int} (h : r + u * q = z) (h0 : 0 ≤ r) (h1 : r < u.natAbs) : z / u = q ∧ z % u = r := by
  have hu : u ≠ 0 := by omega
  have e1 : r / u = 0 := by
    rcases Int.lt_or_lt_of_ne hu with hl | hg
    · have : r / -u = 0 := Int.ediv_eq_zero_of_lt h0 (by omega)
      rw [Int.ediv_neg] at this
      omega
    · exact Int.ediv_eq_zero_of_lt h0 (by omega)
  subst h
  rw [Int.add_mul_ediv_left _ _ hu, Int.add_mul_emod_self_left, e1]
  refine ⟨by omega, ?_⟩
  have := Int.emod_add_mul_ediv r u
  rw [e1, Int.mul_zero, Int.add_zero] at this
  exact this
end Go.Hp
namespace Go.Proofs.Ytlnmhjkagnfnaaa
open Go.Hp
variable {G : World} {U : UH} {M : MH}

theorem perm41 {α : Type} {D1 D2 R : List α} {o a b c d : α} : (D2 ++ (D1 ++ o :: a :: b :: c :: d :: R)).Perm (a :: b :: c :: d :: (D2 ++ (D1 ++ o :: R))) :=
  (((perm4 (D := [o])).append_left D1).append_left D2).trans (((perm4 (D := D1)).append_left D2).trans perm4)
theorem div_plain {neg neg1 : Bool} {A B q r : Nat} (h : A = r + B * q) (hr : r < B) (h0 : neg1 = true → r = 0) : sg neg1 A / sg neg B = sg (neg1 != neg) q ∧ sg neg1 A % sg neg B = (r : Int) := by
  have hA : (A : Int) = (r : Int) + (B : Int) * (q : Int) := by rw [h]; simp
  refine ediv_of ?_ (by omega) (by rw [sg_natAbs]; omega)
  cases neg1 <;> cases neg <;> simp [sg, Int.neg_mul, Int.mul_neg] at h0 ⊢ <;> omega

theorem div_up {neg : Bool} {A B q r : Nat} (h : A = r + B * q) (hr : r < B) (h0 : 0 < r) : sg true A / sg neg B = sg (true != neg) (q + 1) ∧ sg true A % sg neg B = ((B - r : Nat) : Int) := by
  have hA : (A : Int) = (r : Int) + (B : Int) * (q : Int) := by rw [h]; simp
  refine ediv_of ?_ (by omega) (by rw [sg_natAbs]; omega)
  cases neg <;> simp [sg, Int.neg_mul, Int.mul_neg, Int.mul_add] <;> omega

set_option maxHeartbeats 1000000 in
theorem DivMod_ct {x y : IV} {z u : Int} (hx : x.rep U M z) (hn : x.n ≤ 1099511627776) (hy : y.rep U M u) (hn' : y.n ≤ 1099511627776) :
    Ct Try.prog 42 [x.v, y.v] G U M fun v U' D => ∃ (q r : IV) (e : Int) (Dq Dr : MH), v = .tuple #[q.v, r.v, .int .i64 e] ∧ D = Dr ++ Dq ∧
      (u ≠ 0 → e = 0 ∧ q.own Dq (z / u) ∧ r.own Dr (z % u)) ∧ (u = 0 → e = 5 ∧ q = ⟨false, none, 0, 0⟩ ∧ r = ⟨false, none, 0, 0⟩ ∧ Dq = [] ∧ Dr = []) ∧ ULe U U' := by
  obtain ⟨neg, p, n, c⟩ := y
  obtain ⟨l, hd, rfl⟩ := hy
  obtain ⟨neg1, p1, n1, c1⟩ := x
  obtain ⟨l1, hd1, rfl⟩ := hx
  simp only at hd hd1 hn hn'
  have hle : (tl l).length ≤ n := by have := tl_length_le l; have := hd.len; omega
  have hle1 : (tl l1).length ≤ n1 := by have := tl_length_le l1; have := hd1.len; omega
  have hz : (tl l).length = 0 ↔ val l = 0 := by
    rw [← val_tl l, (cn_tl hd.bd).zero]
    exact List.length_eq_zero_iff
  refine ct_of_st Try.func42 rfl rfl rfl rfl ?_
  repeat (first | refine run_S ?_ | refine w_box (fun _ => ?_) | refine w_al (fun _ => ?_))
  refine sl_call rfl rfl rfl rfl rfl rfl (fun _ => trimmed_ct ((hd.up (ULe.refl _) (.cons _ (.cons _ (.cons _ (.cons _ (List.Sublist.refl _)))))).app _)) ?_
  rintro v U' D hU ⟨rfl, rfl, rfl⟩
  repeat (first | refine run_S ?_ | refine w_box (fun _ => ?_) | refine w_al (fun _ => ?_))
  refine st_eq rfl (fun h0 => ?_) (fun h0 => ?_)
  · have hb0 : val l = 0 := hz.1 (by omega)
    repeat (first | refine run_S ?_ | refine w_box (fun _ => ?_) | refine w_al (fun _ => ?_))
    refine sk_ret [] sym rfl (.cons (.cell 1 rfl rfl rfl) (.cons (.cell 0 rfl rfl rfl) (.cons (.tmp rfl) .nil))) (ULe.refl _) (.cons _ (.cons _ (.cons _ (.cons _ (List.Sublist.refl _))))) (.inl rfl) ?_
    refine ⟨⟨false, none, 0, 0⟩, ⟨false, none, 0, 0⟩, 5, [], [], rfl, rfl, fun h => absurd ?_ h, fun _ => ⟨rfl, rfl, rfl, rfl, rfl⟩, ULe.refl _⟩
    rw [hb0]; cases neg <;> rfl
  · have hB : 0 < val l := by
      rcases Nat.eq_zero_or_pos (val l) with h | h
      · exact absurd (hz.2 h) (by omega)
      · exact h
    repeat (first | refine run_S ?_ | refine w_box (fun _ => ?_) | refine w_al (fun _ => ?_))
    refine sl_call rfl rfl rfl rfl rfl rfl (fun _ => trimmed_ct ((hd1.up (ULe.refl _) (.cons _ (.cons _ (.cons _ (.cons _ (List.Sublist.refl _)))))).app _)) ?_
    rintro v U' D hU ⟨rfl, rfl, rfl⟩
    repeat (first | refine run_S ?_ | refine w_box (fun _ => ?_) | refine w_al (fun _ => ?_))
    refine sl_call rfl rfl rfl rfl rfl rfl (fun _ => divide_ct ((hd1.tl.up (ULe.refl _) (.cons _ (.cons _ (.cons _ (.cons _ (List.Sublist.refl _)))))).app _) ((hd.tl.up (ULe.refl _) (.cons _ (.cons _ (.cons _ (.cons _ (List.Sublist.refl _)))))).app _) (cn_tl hd1.bd) (cn_tl hd.bd) (by omega) (by omega) (by omega)) ?_
    rintro v U' D hU ⟨q, k, cc, lq, r, k', cc', lr, Dq, Dr, rfl, rfl, hoq, hor, hcq, hcr, hvq, hvr, hU1⟩
    rw [val_tl, val_tl] at hvq hvr
    refine sl_perm ?_ (perm4 (D := Dr ++ Dq))
    rw [List.append_assoc]
    repeat (first | refine run_O ?_ | refine w_box (fun _ => ?_) | refine w_al (fun _ => ?_))
    have hkq : k ≤ 1099511627776 := by
      have h1 := hcq.len_le hd1.tl.bd (by rw [val_tl, hvq]; exact Nat.div_le_self _ _)
      have := hoq.len.1
      omega
    have hkr : k' ≤ (tl l).length := by
      have h1 := hcr.len_le hd.tl.bd (by rw [val_tl, hvr]; exact Nat.le_of_lt (Nat.mod_lt _ hB))
      have := hor.len.1
      omega
    have hA : val l1 = val l1 % val l + val l * (val l1 / val l) := (Nat.mod_add_div _ _).symm
    have hlt : val l1 % val l < val l := Nat.mod_lt _ hB
    rw [← hvq, ← hvr] at hA
    rw [← hvr] at hlt
    refine st_seq_cut (fun E U'' M' => ∃ (b2 b3 b4 b5 : Nat) (q : Option Addr) (k cc : Nat) (lq : List Nat) (r : Option Addr) (k' cc' : Nat) (lr : List Nat) (Dq Dr X : MH), Own Dq q k cc lq ∧ Own Dr r k' cc' lr ∧
      sg neg1 (val l1) / sg neg (val l) = sg (neg1 != neg) (val lq) ∧ sg neg1 (val l1) % sg neg (val l) = (val lr : Int) ∧ M.Sublist X ∧ E = [(2, .pointer (some ⟨b2, 0, none⟩)), (3, .pointer (some ⟨b3, 0, none⟩)), (4, .pointer (some ⟨b4, 0, none⟩)), (5, .pointer (some ⟨b5, 0, none⟩)), (8, .slice q k cc), (9, .slice r k' cc')] ∧ U' = U'' ∧
      M' = (b5, .var (.agg #[.bool false, .slice none 0 0]), 24) :: (b4, .var (.agg #[.bool false, .slice none 0 0]), 24) :: (b3, .var (.agg #[.bool neg, .slice p n c]), 24) :: (b2, .var (.agg #[.bool neg1, .slice p1 n1 c1]), 24) :: (Dr ++ (Dq ++ X))) ?_ ?_
    · repeat (first | refine run_S ?_ | refine w_box (fun _ => ?_) | refine w_al (fun _ => ?_))
      cases neg1
      · repeat (first | refine run_S ?_ | refine w_box (fun _ => ?_) | refine w_al (fun _ => ?_))
        obtain ⟨g1, g2⟩ := div_plain (neg := neg) (neg1 := false) hA hlt (by intro h; cases h)
        exact sk_cut (E' := [(2, .pointer (some ⟨_, 0, none⟩)), (3, .pointer (some ⟨_, 0, none⟩)), (4, .pointer (some ⟨_, 0, none⟩)), (5, .pointer (some ⟨_, 0, none⟩)), (8, .slice q k cc), (9, .slice r k' cc')]) ⟨rfl, rfl, rfl, rfl, rfl, rfl, trivial⟩
          ⟨_, _, _, _, q, k, cc, lq, r, k', cc', lr, Dq, Dr, M, hoq, hor, g1, g2, List.Sublist.refl _, rfl, rfl, rfl⟩
      · repeat (first | refine run_S ?_ | refine w_box (fun _ => ?_) | refine w_al (fun _ => ?_))
        refine st_dec rfl (fun h1 => ?_) (fun h1 => ?_)
        · repeat (first | refine run_S ?_ | refine w_box (fun _ => ?_) | refine w_al (fun _ => ?_))
          refine sl_bslice (vs := [dg 1]) sym rfl rfl rfl rfl rfl rfl (by intro v hv; simp at hv; subst hv; rfl) rfl rfl rfl rfl rfl rfl (fun bo => ?_)
          have hone : ∀ {U : UH} {M : MH}, Dig U ((bo, .arr [dg 1], TU32) :: M) (some ⟨bo, 0, none⟩) 1 1 [1] := fun {U M} =>
            (Own.row (b := bo) (r := [1]) (Nat.le_refl 1) rfl (by omega) (cn_one (n := 1) (by omega) (by omega)).bd).dig (U := U) (M := M)
          repeat (first | refine run_S ?_ | refine w_box (fun _ => ?_) | refine w_al (fun _ => ?_))
          refine sl_call rfl rfl rfl rfl rfl rfl (fun _ => plus_ct ((((hoq.dig (M := M)).app Dr).up (ULe.refl _) (.cons _ (.cons _ (.cons _ (.cons _ (.cons _ (List.Sublist.refl _))))))).app _) (hone.app _) hkq (by omega)) ?_
          rintro v U2 D1 hU ⟨q2, k2, cc2, l2, rfl, ho2, hv2, hk2, rfl⟩
          repeat (first | refine run_S ?_ | refine w_box (fun _ => ?_) | refine w_al (fun _ => ?_))
          refine sl_call rfl rfl rfl rfl rfl rfl (fun _ => less_ct (((((((hd.tl.up hU1 (List.Sublist.refl _)).app Dq).app Dr).up (ULe.refl _) (.cons _ (.cons _ (.cons _ (.cons _ (.cons _ (List.Sublist.refl _))))))).app D1).app _)) ((((hor.dig (M := Dq ++ M)).up (ULe.refl _) (.cons _ (.cons _ (.cons _ (.cons _ (.cons _ (List.Sublist.refl _))))))).app D1).app _) (by omega) hkr (by rw [val_tl]; omega)) ?_
          rintro v U2 D2 hU ⟨q3, k3, cc3, l3, rfl, ho3, hv3, hk3, rfl⟩
          repeat (first | refine run_S ?_ | refine w_box (fun _ => ?_) | refine w_al (fun _ => ?_))
          obtain ⟨g1, g2⟩ := div_up (neg := neg) hA hlt (by
            rcases Nat.eq_zero_or_pos (val lr) with h | h
            · exfalso
              have := hor.len.1
              rw [hcr.zero.1 h] at this
              simp at this
              omega
            · exact h)
          rw [val_single] at hv2
          rw [val_tl] at hv3
          refine sk_perm perm41 ?_
          refine sk_cut (E' := [(2, .pointer (some ⟨_, 0, none⟩)), (3, .pointer (some ⟨_, 0, none⟩)), (4, .pointer (some ⟨_, 0, none⟩)), (5, .pointer (some ⟨_, 0, none⟩)), (8, .slice q2 k2 cc2), (9, .slice q3 k3 cc3)]) ⟨rfl, rfl, rfl, rfl, rfl, rfl, trivial⟩
            ⟨_, _, _, _, q2, k2, cc2, l2, q3, k3, cc3, l3, D1, D2, (bo, .arr [dg 1], TU32) :: (Dr ++ (Dq ++ M)), ho2, ho3, by rw [hv2]; exact g1, by rw [hv3]; exact g2, ((List.sublist_append_right Dq M).trans (List.sublist_append_right Dr _)).cons _, rfl, rfl, rfl⟩
        · repeat (first | refine run_S ?_ | refine w_box (fun _ => ?_) | refine w_al (fun _ => ?_))
          have h2 : lr = [] := List.eq_nil_of_length_eq_zero (by have := hor.len.1; omega)
          obtain ⟨g1, g2⟩ := div_plain (neg := neg) (neg1 := true) hA hlt (by intro h; rw [h2]; rfl)
          exact sk_cut (E' := [(2, .pointer (some ⟨_, 0, none⟩)), (3, .pointer (some ⟨_, 0, none⟩)), (4, .pointer (some ⟨_, 0, none⟩)), (5, .pointer (some ⟨_, 0, none⟩)), (8, .slice q k cc), (9, .slice r k' cc')]) ⟨rfl, rfl, rfl, rfl, rfl, rfl, trivial⟩
            ⟨_, _, _, _, q, k, cc, lq, r, k', cc', lr, Dq, Dr, M, hoq, hor, g1, g2, List.Sublist.refl _, rfl, rfl, rfl⟩
    · clear hoq hor hvq hvr hA hlt hcq hcr
      rintro E U2 M2 ⟨b2, b3, b4, b5, q, k, cc, lq, r, k', cc', lr, Dq, Dr, X, hoq, hor, g1, g2, hX, rfl, rfl, rfl⟩
      repeat (first | refine run_S ?_ | refine w_box (fun _ => ?_) | refine w_al (fun _ => ?_))
      refine sl_call rfl rfl rfl rfl rfl rfl (fun _ => signed_ct ((((hoq.dig (M := X)).app Dr).up (ULe.refl _) (.cons _ (.cons _ (.cons _ (.cons _ (List.Sublist.refl _)))))).app _)) ?_
      rintro v U2 D1 hU ⟨rfl, rfl, rfl⟩
      repeat (first | refine run_S ?_ | refine w_box (fun _ => ?_) | refine w_al (fun _ => ?_))
      refine sl_call rfl rfl rfl rfl rfl rfl (fun _ => signed_ct ((((hor.dig (M := Dq ++ X))).up (ULe.refl _) (.cons _ (.cons _ (.cons _ (.cons _ (List.Sublist.refl _)))))).app _ |>.app _)) ?_
      rintro v U2 D1 hU ⟨rfl, rfl, rfl⟩
      repeat (first | refine run_S ?_ | refine w_box (fun _ => ?_) | refine w_al (fun _ => ?_))
      have h1 := own_signed (neg := neg1 != neg) hoq
      have h2 := own_signed (neg := false) hor
      rw [← g1] at h1
      rw [show sg false (val lr) = (val lr : Int) from rfl, ← g2] at h2
      refine sk_ret (Dr ++ Dq) sym rfl (.cons (.cell 1 rfl rfl rfl) (.cons (.cell 0 rfl rfl rfl) (.cons (.tmp rfl) .nil))) hU1 ?_ (.inl rfl) ?_
      · rw [List.append_assoc]
        exact (List.Sublist.append (List.Sublist.refl Dr) (List.Sublist.append (List.Sublist.refl Dq) hX)).trans (List.Sublist.cons _ (.cons _ (.cons _ (.cons _ (List.Sublist.refl _)))))
      · refine ⟨_, _, 0, Dq, Dr, rfl, rfl, fun _ => ⟨rfl, h1, h2⟩, fun h => absurd h ?_, hU1⟩
        intro h
        have := sg_natAbs neg (val l)
        rw [h] at this
        simp at this
        omega

end Go.Proofs.Ytlnmhjkagnfnaaa

/- Walks of bigint, 16: bits, small integers. -/
namespace Go.Hp
theorem blen_val {r : List Nat} {d : Nat} (hb : Bd r) (hd : d ≠ 0) : blen (val (r ++ [d])) = 32 * r.length + blen d := by
  have k1 := blen_lt d
  have k2 := blen_le hd
  have k3 := blen_pos hd
  obtain ⟨k, hk⟩ : ∃ k, blen d = k + 1 := ⟨blen d - 1, by omega⟩
  rw [hk] at k1 k2 ⊢
  rw [Nat.add_sub_cancel] at k2
  have e : 4294967296 ^ r.length = 2 ^ (32 * r.length) := by rw [Nat.pow_mul]
  have h := val_lt hb
  have a1 := Nat.mul_le_mul_left (4294967296 ^ r.length) k2
  have a2 := Nat.mul_le_mul_left (4294967296 ^ r.length) (show d + 1 ≤ 2 ^ (k + 1) from k1)
  rw [Nat.mul_add] at a2
  have p1 : 4294967296 ^ r.length * 2 ^ k = 2 ^ (32 * r.length + k) := by rw [e, ← Nat.pow_add]
  have p2 : 4294967296 ^ r.length * 2 ^ (k + 1) = 2 ^ (32 * r.length + k + 1) := by rw [e, ← Nat.pow_add]; rfl
  rw [p1] at a1
  rw [p2] at a2
  have := blen_of (n := val (r ++ [d])) (k := 32 * r.length + k) (by rw [val_snoc]; omega) (by rw [val_snoc]; omega)
  omega
end Go.Hp
namespace Go.Proofs.Ytlnmhjkagnfnaaa
open Go.Hp
variable {G : World} {U : UH} {M : MH}

theorem Bits_ct {x : IV} {z : Int} (hx : x.rep U M z) (hn : x.n ≤ 1099511627776) :
    Ct Try.prog 72 [x.v] G U M fun v U' D => v = .int .i64 (blen z.natAbs : Int) ∧ U = U' ∧ D = [] := by
  obtain ⟨neg, p, n, c⟩ := x
  obtain ⟨l, hd, rfl⟩ := hx
  simp only at hd hn
  rw [sg_natAbs, ← val_tl l]
  have hle : (tl l).length ≤ n := by have := tl_length_le l; have := hd.len; omega
  have ht := hd.tl
  have hc := cn_tl hd.bd
  refine ct_of_st Try.func72 rfl rfl rfl rfl ?_
  repeat (first | refine run_S ?_ | refine w_box (fun _ => ?_) | refine w_al (fun _ => ?_))
  refine sl_call rfl rfl rfl rfl rfl rfl (fun _ => trimmed_ct ((hd.up (ULe.refl _) (.cons _ (List.Sublist.refl _))).app _)) ?_
  rintro v U' D hU ⟨rfl, rfl, rfl⟩
  generalize tl l = a at *
  repeat (first | refine run_S ?_ | refine w_box (fun _ => ?_) | refine w_al (fun _ => ?_))
  refine st_eq rfl (fun h0 => ?_) (fun h0 => ?_)
  · have ha : a = [] := List.eq_nil_of_length_eq_zero (by omega)
    repeat (first | refine run_S ?_ | refine w_box (fun _ => ?_) | refine w_al (fun _ => ?_))
    refine sk_ret [] sym rfl (.cons (.tmp rfl) .nil) (ULe.refl _) (.cons _ (List.Sublist.refl _)) (.inl rfl) ⟨?_, rfl, rfl⟩
    rw [ha]; rfl
  · rcases snoc_cases a with rfl | ⟨r, d, rfl⟩
    · exact absurd rfl h0
    have hd0 := hc.last
    have hbl := blen_val (r := r) (d := d) (fun x hx => hc.bd x (List.mem_append_left _ hx)) hd0
    have hlen : (r ++ [d]).length = r.length + 1 := by simp
    obtain ⟨d', hx, hbx, hp, hcx⟩ := (ht.up (U' := U) (ULe.refl _) (.cons _ (List.Sublist.refl _))).get (k := r.length) (by omega)
    rw [List.getElem?_append_right (Nat.le_refl _), Nat.sub_self] at hx
    cases hx
    rw [hbl]
    rw [hlen] at hle
    have hb32 : blen d ≤ 32 := blen_le_of (k := 32) (by omega)
    repeat (first | refine run_S ?_ | refine w_box (fun _ => ?_) | refine w_al (fun _ => ?_))
    refine sl_y (yl_index1 sym rfl rfl rfl rfl rfl ((show (((r ++ [d]).length : Nat) : Int) - 1 = ((r.length : Nat) : Int) by rw [hlen]; omega)) (by first | omega | assumption) hp) rfl rfl rfl rfl ?_; refine sl_y (yl_loadD sym rfl rfl rfl rfl hcx) rfl rfl rfl rfl ?_
    repeat (first | refine run_S ?_ | refine w_box (fun _ => ?_) | refine w_al (fun _ => ?_))
    refine sl_call rfl rfl rfl rfl rfl rfl (fun _ => Len32_ct hbx) ?_
    rintro v U' D hU ⟨rfl, rfl, rfl⟩
    repeat (first | refine run_S ?_ | refine w_box (fun _ => ?_) | refine w_al (fun _ => ?_))
    refine sk_ret [] sym rfl (.cons (.tmp rfl) .nil) (ULe.refl _) (.cons _ (List.Sublist.refl _)) (.inl rfl) ⟨?_, rfl, rfl⟩
    simp only [tup, hlen]
    congr 1
    omega

end Go.Proofs.Ytlnmhjkagnfnaaa

/- Walks of bigint, 17: greatest common divisors. -/
namespace Go.Proofs.Ytlnmhjkagnfnaaa
open Go.Hp
variable {G : World} {U : UH} {M : MH}

theorem word_lt {p : Option Addr} {n c : Nat} {l : List Nat} (h : Dig U M p n c l) (hn : n ≤ 2) : val l < 18446744073709551616 := by
  have := val_lt h.bd
  exact Nat.lt_of_lt_of_le this (by rw [h.len]; exact Nat.le_trans (Nat.pow_le_pow_right (by omega) hn) (by decide))

theorem common_ct {p p' : Option Addr} {n c n' c' : Nat} {a b : List Nat} (ha : Dig U M p n c a) (hb : Dig U M p' n' c' b) (ca : Cn a) (cb : Cn b) (hn : n ≤ 1099511627776) (hn' : n' ≤ 1099511627776) :
    Ct Try.prog 63 [.slice p n c, .slice p' n' c'] G U M fun v U' D => ∃ q k cc lg, v = .slice q k cc ∧ Own D q k cc lg ∧ val lg = Nat.gcd (val a) (val b) ∧ ULe U U' := by
  refine ct_of_st Try.func63 rfl rfl rfl rfl ?_
  refine st_seq ?_
  try refine run_o ?_
  refine st_seq_cut (fun E U' M' => ∃ (p1 : Option Addr) (n1 c1 : Nat) (l1 : List Nat), Dig U' M' p1 n1 c1 l1 ∧ n1 ≤ 1099511627776 ∧ val l1 = Nat.gcd (val a) (val b) ∧ E = [(0, .slice p1 n1 c1)] ∧ ULe U U' ∧ M.Sublist M') ?_ ?_
  · try refine run_s ?_
    refine st_loop (fun m E U' M' => ∃ (p1 : Option Addr) (n1 c1 : Nat) (p2 : Option Addr) (n2 c2 : Nat) (l1 l2 : List Nat), Dig U' M' p1 n1 c1 l1 ∧ Dig U' M' p2 n2 c2 l2 ∧ Cn l1 ∧ Cn l2 ∧ n1 ≤ 1099511627776 ∧ n2 ≤ 1099511627776 ∧
        Nat.gcd (val l1) (val l2) = Nat.gcd (val a) (val b) ∧ E = [(0, .slice p1 n1 c1), (1, .slice p2 n2 c2)] ∧ ULe U U' ∧ M.Sublist M' ∧ m = val l2) (n0 := val b)
      (E0 := [(0, .slice p n c), (1, .slice p' n' c')]) ⟨rfl, rfl, trivial⟩ ⟨p, n, c, p', n', c', a, b, ha, hb, ca, cb, hn, hn', rfl, rfl, ULe.refl _, List.Sublist.refl _, rfl⟩ ?_
    rintro m E U' M' ⟨p1, n1, c1, p2, n2, c2, l1, l2, h1, h2, k1, k2, g1, g2, hg, rfl, hU0, hM0, rfl⟩
    try refine run_s ?_
    refine st_dec rfl (fun h0 => ?_) (fun h0 => ?_)
    · have hl2 : 0 < val l2 := by
        rcases Nat.eq_zero_or_pos (val l2) with h | h
        · have := h2.len; rw [k2.zero.1 h] at this; simp at this; omega
        · exact h
      try refine run_o ?_
      refine st_block ?_
      refine st_seq_cut (fun E U'' M'' => E = [(0, .slice p1 n1 c1), (1, .slice p2 n2 c2)] ∧ U' = U'' ∧ M' = M'') ?_ ?_
      · try refine run_s ?_
        refine sl_gdec rfl rfl (fun h3 => ?_) (fun h3 => ?_)
        · try refine run_s ?_
          refine st_dec rfl (fun h4 => ?_) (fun h4 => ?_)
          · have w1 := word_lt h1 (by omega)
            have w2 := word_lt h2 (by omega)
            try refine run_s ?_
            refine sl_call rfl rfl rfl rfl rfl rfl (fun _ => word_ct (h1.app _) (by omega)) ?_
            rintro v U2 D hU ⟨rfl, rfl, rfl⟩
            try refine run_s ?_
            refine sl_call rfl rfl rfl rfl rfl rfl (fun _ => word_ct ((h2.app _).app _) (by omega)) ?_
            rintro v U2 D hU ⟨rfl, rfl, rfl⟩
            try refine run_o ?_
            refine st_seq_cut (fun E U'' M'' => ∃ x : Nat, x = Nat.gcd (val a) (val b) ∧ x < 18446744073709551616 ∧ E = [(5, .int .u64 (x : Int))] ∧ U' = U'' ∧ M' = M'') ?_ ?_
            · try refine run_s ?_
              refine st_loop (fun m E U'' M'' => ∃ (x y : Nat), Nat.gcd x y = Nat.gcd (val a) (val b) ∧ x < 18446744073709551616 ∧ y < 18446744073709551616 ∧ E = [(5, .int .u64 (x : Int)), (6, .int .u64 (y : Int))] ∧ U' = U'' ∧ M' = M'' ∧ y = m) (n0 := val l2)
                (E0 := [(5, .int .u64 (val l1 : Int)), (6, .int .u64 (val l2 : Int))]) ⟨rfl, rfl, trivial⟩ ⟨val l1, val l2, hg, w1, w2, rfl, rfl, rfl, rfl⟩ ?_
              rintro m E U'' M'' ⟨x, y, e1, e2, e3, rfl, rfl, rfl, rfl⟩
              try refine run_s ?_
              refine st_ne rfl (fun h5 => ?_) (fun h5 => ?_)
              · have hlt : x % y < y := Nat.mod_lt _ (by omega)
                try refine run_s ?_
                refine st_draw [0, 1, 2, 3, 4, 5] sym (by kernel_rfl) ?_
                try refine run_s ?_
                refine sl_y (yl_remN (m := x) (n := y) rfl rfl rfl rfl rfl (by simp only [kmax]; omega) (by omega) rfl) rfl rfl rfl rfl ?_
                try refine run_s ?_
                refine sk_again (E' := [(5, .int .u64 (y : Int)), (6, .int .u64 ((x % y : Nat) : Int))]) (m := x % y) ⟨rfl, rfl, trivial⟩ hlt ⟨y, x % y, ?_, e3, by omega, rfl, rfl, rfl, rfl⟩
                rw [← e1, Nat.gcd_comm y, ← Nat.gcd_rec, Nat.gcd_comm]
              · have hy : y = 0 := by omega
                try refine run_s ?_
                exact sk_cut (E' := [(5, .int .u64 (x : Int))]) ⟨rfl, trivial⟩ ⟨x, by rw [← e1, hy]; simp, e2, rfl, rfl, rfl⟩
            · rintro E U'' M'' ⟨x, e1, e2, rfl, rfl, rfl⟩
              try refine run_s ?_
              refine sl_call rfl rfl rfl rfl rfl rfl (fun _ => wide_ct e2) ?_
              rintro v U2 D hU ⟨q, k, cc, lg, rfl, ho, cg, hvg, rfl⟩
              try refine run_s ?_
              exact sk_ret D sym rfl (.cons (.tmp rfl) .nil) hU0 (List.Sublist.append (List.Sublist.refl D) hM0) (.inl rfl) ⟨q, k, cc, lg, rfl, ho, by rw [hvg, e1], hU0⟩
          · try refine run_s ?_
            exact sk_cut (E' := [(0, .slice p1 n1 c1), (1, .slice p2 n2 c2)]) ⟨rfl, rfl, trivial⟩ ⟨rfl, rfl, rfl⟩
        · try refine run_s ?_
          exact sk_cut (E' := [(0, .slice p1 n1 c1), (1, .slice p2 n2 c2)]) ⟨rfl, rfl, trivial⟩ ⟨rfl, rfl, rfl⟩
      · rintro E U'' M'' ⟨rfl, rfl, rfl⟩
        try refine run_s ?_
        refine sl_call rfl rfl rfl rfl rfl rfl (fun _ => divide_ct (h1.app _) (h2.app _) k1 k2 (by omega) g1 g2) ?_
        rintro v U2 D hU ⟨q, k, cc, lq, r, k', cc', lr, Dq, Dr, rfl, rfl, hoq, hor, hcq, hcr, hvq, hvr, hU1⟩
        try refine run_s ?_
        have hlt : val lr < val l2 := by rw [hvr]; exact Nat.mod_lt _ hl2
        have hk' : k' ≤ n2 := by
          have e1 := hcr.len_le h2.bd (Nat.le_of_lt hlt)
          have := hor.len.1
          have := h2.len
          omega
        refine sk_again (E' := [(0, .slice p2 n2 c2), (1, .slice r k' cc')]) (m := val lr) ⟨rfl, rfl, trivial⟩ hlt
          ⟨p2, n2, c2, r, k', cc', l2, lr, (h2.up hU1 (List.Sublist.refl _)).app _, by rw [List.append_assoc]; exact hor.dig, k2, hcr, g2, by omega, ?_, rfl, hU0.trans hU1, hM0.trans (List.sublist_append_right ..), rfl⟩
        rw [hvr, ← hg, Nat.gcd_comm (val l2), ← Nat.gcd_rec, Nat.gcd_comm]
    · have hl2 : l2 = [] := List.eq_nil_of_length_eq_zero (by have := h2.len; omega)
      try refine run_s ?_
      exact sk_cut (E' := [(0, .slice p1 n1 c1)]) ⟨rfl, trivial⟩ ⟨p1, n1, c1, l1, h1, g1, by rw [← hg, hl2]; simp [val], rfl, hU0, hM0⟩
  · rintro E U' M' ⟨p1, n1, c1, l1, h1, g1, hg, rfl, hU0, hM0⟩
    try refine run_s ?_
    refine sl_call rfl rfl rfl rfl rfl rfl (fun _ => Clone_ct (h1.app _) g1) ?_
    rintro v U2 D hU ⟨q, k, cc, rfl, ho, rfl, rfl⟩
    try refine run_s ?_
    exact sk_ret D sym rfl (.cons (.tmp rfl) .nil) hU0 (List.Sublist.append (List.Sublist.refl D) hM0) (.inl rfl) ⟨q, _, cc, l1, rfl, ho, hg, hU0⟩

theorem Gcd_ct {x y : IV} {z u : Int} (hx : x.rep U M z) (hn : x.n ≤ 1099511627776) (hy : y.rep U M u) (hn' : y.n ≤ 1099511627776) :
    Ct Try.prog 34 [x.v, y.v] G U M fun v U' D => ∃ r : IV, v = r.v ∧ r.own D (Int.gcd z u : Int) ∧ ULe U U' := by
  obtain ⟨neg, p, n, c⟩ := y
  obtain ⟨l, hd, rfl⟩ := hy
  obtain ⟨neg1, p1, n1, c1⟩ := x
  obtain ⟨l1, hd1, rfl⟩ := hx
  simp only at hd hd1 hn hn'
  have hle : (tl l).length ≤ n := by have := tl_length_le l; have := hd.len; omega
  have hle1 : (tl l1).length ≤ n1 := by have := tl_length_le l1; have := hd1.len; omega
  refine ct_of_st Try.func34 rfl rfl rfl rfl ?_
  repeat (first | refine run_S ?_ | refine w_box (fun _ => ?_) | refine w_al (fun _ => ?_))
  refine st_draw [0, 1, 3, 4, 2, 5, 6, 7, 8] sym (by kernel_rfl) ?_
  repeat (first | refine run_S ?_ | refine w_box (fun _ => ?_) | refine w_al (fun _ => ?_))
  refine sl_call rfl rfl rfl rfl rfl rfl (fun _ => trimmed_ct ((hd1.up (ULe.refl _) (.cons _ (.cons _ (.cons _ (List.Sublist.refl _))))).app _)) ?_
  rintro v U' D hU ⟨rfl, rfl, rfl⟩
  repeat (first | refine run_S ?_ | refine w_box (fun _ => ?_) | refine w_al (fun _ => ?_))
  refine sl_call rfl rfl rfl rfl rfl rfl (fun _ => trimmed_ct (((hd.up (ULe.refl _) (.cons _ (.cons _ (.cons _ (List.Sublist.refl _))))).app _).app _)) ?_
  rintro v U' D hU ⟨rfl, rfl, rfl⟩
  repeat (first | refine run_S ?_ | refine w_box (fun _ => ?_) | refine w_al (fun _ => ?_))
  refine sl_call rfl rfl rfl rfl rfl rfl (fun _ => common_ct ((hd1.tl.up (ULe.refl _) (.cons _ (.cons _ (.cons _ (List.Sublist.refl _))))).app _) ((hd.tl.up (ULe.refl _) (.cons _ (.cons _ (.cons _ (List.Sublist.refl _))))).app _) (cn_tl hd1.bd) (cn_tl hd.bd) (by omega) (by omega)) ?_
  rintro v U' D hU ⟨q, k, cc, l2, rfl, ho, hv, hU1⟩
  repeat (first | refine run_S ?_ | refine w_box (fun _ => ?_) | refine w_al (fun _ => ?_))
  refine sl_call rfl rfl rfl rfl rfl rfl (fun _ => signed_ct (ho.dig.app _)) ?_
  rintro v U' D1 hU ⟨rfl, rfl, rfl⟩
  repeat (first | refine run_S ?_ | refine w_box (fun _ => ?_) | refine w_al (fun _ => ?_))
  refine sl_perm ?_ (perm3 (D := D))
  repeat (first | refine run_S ?_ | refine w_box (fun _ => ?_) | refine w_al (fun _ => ?_))
  refine sk_ret D sym rfl (.cons (.cell 0 rfl rfl rfl) .nil) hU1 (.cons _ (.cons _ (.cons _ (List.Sublist.refl _)))) (.inl rfl) ⟨_, rfl, ?_, hU1⟩
  have h := own_signed (neg := false) ho
  rw [hv, val_tl, val_tl] at h
  have e : (Int.gcd (sg neg1 (val l1)) (sg neg (val l)) : Int) = sg false (Nat.gcd (val l1) (val l)) := by
    unfold Int.gcd; rw [sg_natAbs, sg_natAbs]; rfl
  rw [e]
  exact h

end Go.Proofs.Ytlnmhjkagnfnaaa

/- Walks of bigint, 18: exact quotients. -/
namespace Go.Proofs.Ytlnmhjkagnfnaaa
open Go.Hp
variable {G : World} {U : UH} {M : MH}

theorem IV.own.len0 {r : IV} {D : MH} {z : Int} (h : r.own D z) : (r.n = 0 ↔ z = 0) := by
  obtain ⟨l, ho, cl, hv, _⟩ := h
  have hl := ho.len.1
  constructor
  · intro h
    have : l = [] := List.eq_nil_of_length_eq_zero (by omega)
    rw [this] at hv
    have hv0 : (0 : Nat) = z.natAbs := hv
    omega
  · intro h
    subst h
    rw [cl.zero.1 hv] at hl
    exact hl.symm

abbrev zeroIV : IV := ⟨false, none, 0, 0⟩

theorem Exact_ct {x y : IV} {z u : Int} (hx : x.rep U M z) (hn : x.n ≤ 1099511627776) (hy : y.rep U M u) (hn' : y.n ≤ 1099511627776) :
    Ct Try.prog 83 [x.v, y.v] G U M fun v U' D => ∃ (r : IV) (e : Int), v = .tuple #[r.v, .int .i64 e] ∧ (u = 0 → e = 5 ∧ r = zeroIV ∧ D = []) ∧ (u ≠ 0 → z % u ≠ 0 → e = 6 ∧ r = zeroIV ∧ D = []) ∧ (u ≠ 0 → z % u = 0 → e = 0 ∧ r.own D (z / u)) ∧ ULe U U' := by
  refine ct_of_st Try.func83 rfl rfl rfl rfl ?_
  repeat (first | refine run_S ?_ | refine w_box (fun _ => ?_) | refine w_al (fun _ => ?_))
  refine sl_call rfl rfl rfl rfl rfl rfl (fun _ => DivMod_ct ((hx.up (ULe.refl _) (.cons _ (.cons _ (.cons _ (List.Sublist.refl _))))).up (ULe.refl _) (List.sublist_append_right ..)) hn ((hy.up (ULe.refl _) (.cons _ (.cons _ (.cons _ (List.Sublist.refl _))))).up (ULe.refl _) (List.sublist_append_right ..)) hn') ?_
  rintro v U' D hU ⟨⟨qn, qp, qk, qc⟩, ⟨rn, rp, rk, rc⟩, e, Dq, Dr, rfl, rfl, h1, h2, hU1⟩
  refine sl_perm ?_ (perm3 (D := Dr ++ Dq))
  rw [List.append_assoc]
  by_cases hu : u = 0
  · obtain ⟨rfl, e2, e3, rfl, rfl⟩ := h2 hu
    cases e2
    cases e3
    repeat (first | refine run_S ?_ | refine w_box (fun _ => ?_) | refine w_al (fun _ => ?_))
    refine st_ne rfl (fun _ => ?_) (fun h => absurd h (by decide))
    repeat (first | refine run_S ?_ | refine w_box (fun _ => ?_) | refine w_al (fun _ => ?_))
    refine sk_ret [] sym rfl (.cons (.cell 2 rfl rfl rfl) (.cons (.tmp rfl) .nil)) hU1 (.cons _ (.cons _ (.cons _ (.cons _ (.cons _ (List.Sublist.refl _)))))) (.inl rfl) ?_
    exact ⟨zeroIV, 5, rfl, fun _ => ⟨rfl, rfl, rfl⟩, fun h => absurd hu h, fun h => absurd hu h, hU1⟩
  · obtain ⟨rfl, hq, hr⟩ := h1 hu
    have hr0 := hr.len0
    simp only at hr0
    repeat (first | refine run_S ?_ | refine w_box (fun _ => ?_) | refine w_al (fun _ => ?_))
    refine st_ne rfl (fun h => absurd rfl h) (fun _ => ?_)
    repeat (first | refine run_S ?_ | refine w_box (fun _ => ?_) | refine w_al (fun _ => ?_))
    refine st_dec rfl (fun h0 => ?_) (fun h0 => ?_)
    · have h0' : (rk : Int) > 0 := h0
      have hz : z % u ≠ 0 := fun h => by have := hr0.2 h; omega
      repeat (first | refine run_S ?_ | refine w_box (fun _ => ?_) | refine w_al (fun _ => ?_))
      refine sk_ret [] sym rfl (.cons (.cell 2 rfl rfl rfl) (.cons (.tmp rfl) .nil)) hU1 (((List.sublist_append_right Dq M).trans (List.sublist_append_right Dr _)).trans (List.Sublist.cons _ (.cons _ (.cons _ (.cons _ (.cons _ (List.Sublist.refl _))))))) (.inl rfl) ?_
      exact ⟨zeroIV, 6, rfl, fun h => absurd h hu, fun _ _ => ⟨rfl, rfl, rfl⟩, fun _ h => absurd h hz, hU1⟩
    · have h0' : ¬ (rk : Int) > 0 := h0
      have hz : z % u = 0 := hr0.1 (by omega)
      repeat (first | refine run_S ?_ | refine w_box (fun _ => ?_) | refine w_al (fun _ => ?_))
      refine sk_ret Dq sym rfl (.cons (.cell 2 rfl rfl rfl) (.cons (.tmp rfl) .nil)) hU1 ((List.sublist_append_right Dr _).trans (List.Sublist.cons _ (.cons _ (.cons _ (.cons _ (.cons _ (List.Sublist.refl _))))))) (.inl rfl) ?_
      exact ⟨⟨qn, qp, qk, qc⟩, 0, rfl, fun h => absurd h hu, fun _ h => absurd hz h, fun _ _ => ⟨rfl, hq⟩, hU1⟩

end Go.Proofs.Ytlnmhjkagnfnaaa
