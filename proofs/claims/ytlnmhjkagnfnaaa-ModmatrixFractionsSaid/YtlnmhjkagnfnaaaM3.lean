/- Texts of this seat's own, merged: each begins with its own remark. -/
import Derived.Test.YtlnmhjkagnfnaaaM2
import Derived.Test.YtlnmhjkagnfnaaaM1
/- Walks of bigint, 1: digits. -/
namespace Go.Proofs.Ytlnmhjkagnfnaaa
open Go.Hp
variable {G : World} {U : UH} {M : MH}

theorem trimmed_ct {p : Option Addr} {n c : Nat} {l : List Nat} (h : Dig U M p n c l) :
    Ct Try.prog 60 [.slice p n c] G U M fun v U' D => v = .slice p (tl l).length c ∧ U = U' ∧ D = [] := by
  have hcap := h.cap
  have hcm := h.capm
  refine ct_of_st Try.func60 rfl rfl rfl rfl ?_
  try refine run_s ?_
  refine st_loop (fun m E U' M' => ∃ k : Nat, k ≤ n ∧ tl (l.take k) = tl l ∧ E = [(0, .slice p k c)] ∧ U = U' ∧ M = M' ∧ k = m) (E0 := [(0, .slice p n c)]) (n0 := n) ⟨rfl, trivial⟩ ⟨n, Nat.le_refl _, by rw [List.take_of_length_le (by rw [h.len]; exact Nat.le_refl _)], rfl, rfl, rfl, rfl⟩ ?_
  rintro m E U' M' ⟨k, hk, htl, rfl, rfl, rfl, rfl⟩
  try refine run_s ?_
  refine sl_gdec rfl rfl (fun h0 => ?_) (fun h0 => ?_)
  · have hk0 : k - 1 < l.length := by rw [h.len]; omega
    have hd := List.getElem?_eq_getElem hk0
    obtain ⟨hp, hc⟩ := h.cell _ _ hd
    have hk1 : (k : Int) - 1 = ((k - 1 : Nat) : Int) := by omega
    try refine run_s ?_
    refine sl_y (yl_index1 sym rfl rfl rfl rfl rfl hk1 (by omega) hp) rfl rfl rfl rfl ?_
    refine sl_y (yl_loadD sym rfl rfl rfl rfl hc) rfl rfl rfl rfl ?_
    try refine run_s ?_
    refine st_eq rfl (fun h1 => ?_) (fun h1 => ?_)
    · try refine run_s ?_
      refine sl_y (yl_sliceTo sym rfl rfl rfl rfl rfl hk1 (by omega)) rfl rfl rfl rfl ?_
      try refine run_s ?_
      refine sk_again (E' := [(0, .slice p (k - 1) c)]) (m := k - 1) ⟨rfl, trivial⟩ (by omega) ⟨k - 1, by omega, ?_, rfl, rfl, rfl, rfl⟩
      have e := tl_take_succ (l := l) (k := k - 1) (by rw [hd]; congr 1; omega)
      rw [show k - 1 + 1 = k by omega] at e
      rw [← htl, e]
    · try refine run_s ?_
      refine sk_ret [] sym rfl (.cons (.tmp rfl) .nil) (ULe.refl _) (List.Sublist.refl _) (.inl rfl) ?_
      refine ⟨?_, rfl, rfl⟩
      show Value.slice p k c = Value.slice p (tl l).length c
      have := tl_take_stop hd (by omega)
      rw [show k - 1 + 1 = k by omega, htl] at this
      rw [this, List.length_take, h.len, Nat.min_eq_left hk]
  · have hk0 : k = 0 := by omega
    subst hk0
    try refine run_s ?_
    refine sk_ret [] sym rfl (.cons (.tmp rfl) .nil) (ULe.refl _) (List.Sublist.refl _) (.inl rfl) ?_
    refine ⟨?_, rfl, rfl⟩
    show Value.slice p 0 c = Value.slice p (tl l).length c
    rw [← htl]; rfl

theorem signed_ct {neg : Bool} {p : Option Addr} {n c : Nat} {l : List Nat} (h : Dig U M p n c l) :
    Ct Try.prog 58 [.bool neg, .slice p n c] G U M fun v U' D => v = (IV.mk (neg && dec (0 < (tl l).length)) p (tl l).length c).v ∧ U = U' ∧ D = [] := by
  refine ct_of_st Try.func58 rfl rfl rfl rfl ?_
  repeat (first | refine run_S ?_ | refine w_box (fun _ => ?_) | refine w_al (fun _ => ?_))
  refine sl_call rfl rfl rfl rfl rfl rfl (fun _ => trimmed_ct ((h.up (ULe.refl U) (List.sublist_cons_self ..)).app _)) ?_
  rintro v U' D hU ⟨rfl, rfl, rfl⟩
  repeat (first | refine run_S ?_ | refine w_box (fun _ => ?_) | refine w_al (fun _ => ?_))
  cases neg
  · repeat (first | refine run_S ?_ | refine w_box (fun _ => ?_) | refine w_al (fun _ => ?_))
    exact sk_ret [] sym rfl (.cons (.cell 0 rfl rfl rfl) .nil) (ULe.refl _) (List.sublist_cons_self ..) (.inl rfl) ⟨rfl, rfl, rfl⟩
  · repeat (first | refine run_S ?_ | refine w_box (fun _ => ?_) | refine w_al (fun _ => ?_))
    refine sk_ret [] sym rfl (.cons (.cell 0 rfl rfl rfl) .nil) (ULe.refl _) (List.sublist_cons_self ..) (.inl rfl) ⟨?_, rfl, rfl⟩
    have e : dec (((tl l).length : Int) > 0) = dec (0 < (tl l).length) := by simp [dec_eq]
    show Value.agg #[.bool (dec (((tl l).length : Int) > 0)), .slice p (tl l).length c] = _
    rw [e]; rfl

theorem sign_ct {n : Int} : Ct Try.prog 61 [.int .i64 n] G U M fun v U' D => v = .int .i64 n.sign ∧ U = U' ∧ D = [] := by
  refine ct_of_st Try.func61 rfl rfl rfl rfl ?_
  try refine run_s ?_
  refine st_dec rfl (fun h => ?_) (fun h => ?_)
  · try refine run_s ?_
    refine sk_ret [] sym rfl (.cons (.tmp rfl) .nil) (ULe.refl _) (List.Sublist.refl _) (.inl rfl) ?_
    exact ⟨by rw [Int.sign_eq_neg_one_of_neg h]; rfl, rfl, rfl⟩
  · try refine run_s ?_
    refine st_dec rfl (fun h1 => ?_) (fun h1 => ?_)
    · try refine run_s ?_
      refine sk_ret [] sym rfl (.cons (.tmp rfl) .nil) (ULe.refl _) (List.Sublist.refl _) (.inl rfl) ?_
      exact ⟨by rw [Int.sign_eq_one_of_pos h1]; rfl, rfl, rfl⟩
    · try refine run_s ?_
      refine sk_ret [] sym rfl (.cons (.tmp rfl) .nil) (ULe.refl _) (List.Sublist.refl _) (.inl rfl) ?_
      have : n = 0 := by omega
      subst this
      exact ⟨rfl, rfl, rfl⟩

theorem Add32_ct {x y c : Nat} (hx : x < 4294967296) (hy : y < 4294967296) (hc : c < 4294967296) :
    Ct Try.prog 89 [.int .u32 (x : Int), .int .u32 (y : Int), .int .u32 (c : Int)] G U M fun v U' D => v = .tuple #[.int .u32 (((x + y + c) % 4294967296 : Nat) : Int), .int .u32 (((x + y + c) / 4294967296 : Nat) : Int)] ∧ U = U' ∧ D = [] := by
  refine ct_of_st Try.func89 rfl rfl rfl rfl ?_
  try refine run_s ?_
  refine sk_ret [] sym rfl (.cons (.tmp rfl) (.cons (.tmp rfl) .nil)) (ULe.refl _) (List.Sublist.refl _) (.inl rfl) ⟨?_, rfl, rfl⟩
  have e1 : ((x : Int) + (y : Int) + (c : Int)) % 4294967296 = (((x + y + c) % 4294967296 : Nat) : Int) := by omega
  have e2 : ((x : Int) + (y : Int) + (c : Int)) / 2 ^ 32 = (((x + y + c) / 4294967296 : Nat) : Int) := by omega
  simp only [tup, e1, e2]

theorem word_ct {p : Option Addr} {n c : Nat} {l : List Nat} (h : Dig U M p n c l) (hn : n ≤ 2) :
    Ct Try.prog 80 [.slice p n c] G U M fun v U' D => v = .int .u64 (val l : Int) ∧ U = U' ∧ D = [] := by
  have hlen := h.len
  refine ct_of_st Try.func80 rfl rfl rfl rfl ?_
  try refine run_s ?_
  refine st_eq rfl (fun h0 => ?_) (fun h0 => ?_)
  · try refine run_s ?_
    refine sk_ret [] sym rfl (.cons (.tmp rfl) .nil) (ULe.refl _) (List.Sublist.refl _) (.inl rfl) ?_
    have : l = [] := List.eq_nil_of_length_eq_zero (by omega)
    subst this
    exact ⟨rfl, rfl, rfl⟩
  · try refine run_s ?_
    have hlt0 : 0 < n := by omega
    obtain ⟨d0, hd0, hb0, hp, hc0⟩ := h.get (k := 0) hlt0
    refine st_eq rfl (fun h1 => ?_) (fun h1 => ?_)
    · try refine run_s ?_
      refine sl_y (yl_index1 sym rfl rfl rfl rfl rfl ((rfl : (0 : Int) = ((0 : Nat) : Int))) (by first | omega | assumption) hp) rfl rfl rfl rfl ?_; refine sl_y (yl_loadD sym rfl rfl rfl rfl hc0) rfl rfl rfl rfl ?_
      try refine run_s ?_
      refine sk_ret [] sym rfl (.cons (.tmp rfl) .nil) (ULe.refl _) (List.Sublist.refl _) (.inl rfl) ?_
      refine ⟨?_, rfl, rfl⟩
      match l, hd0, hlen with
      | [d], hd0, _ => simp at hd0; subst hd0; simp [tup, val]
      | _ :: _ :: _, _, hl => simp at hl; omega
    · have hlt1 : 1 < n := by omega
      obtain ⟨d1, hd1, hb1, _, hc1⟩ := h.get (k := 1) hlt1
      try refine run_s ?_
      refine st_draw [0, 1, 2, 3, 4, 5, 6, 7, 8, 9, 10] sym (by kernel_rfl) ?_
      try refine run_s ?_
      refine sl_y (yl_index1 sym rfl rfl rfl rfl rfl ((rfl : (1 : Int) = ((1 : Nat) : Int))) (by first | omega | assumption) hp) rfl rfl rfl rfl ?_; refine sl_y (yl_loadD sym rfl rfl rfl rfl hc1) rfl rfl rfl rfl ?_
      try refine run_s ?_
      refine sl_y (yl_index1 sym rfl rfl rfl rfl rfl ((rfl : (0 : Int) = ((0 : Nat) : Int))) (by first | omega | assumption) hp) rfl rfl rfl rfl ?_; refine sl_y (yl_loadD sym rfl rfl rfl rfl hc0) rfl rfl rfl rfl ?_
      try refine run_s ?_
      refine sl_y (yl_or32 (m := d1) (n := d0) rfl rfl rfl (by rw [wrap_u64]; omega) rfl hb1 hb0) rfl rfl rfl rfl ?_
      try refine run_s ?_
      refine sk_ret [] sym rfl (.cons (.tmp rfl) .nil) (ULe.refl _) (List.Sublist.refl _) (.inl rfl) ?_
      refine ⟨?_, rfl, rfl⟩
      match l, hd0, hd1, hlen with
      | [d, e], hd0, hd1, _ => simp at hd0 hd1; subst hd0 hd1; simp [tup, val]; omega
      | [_], _, hd1, _ => simp at hd1
      | _ :: _ :: _ :: _, _, _, hl => simp at hl; omega

theorem wide_ct {n : Nat} (hn : n < 18446744073709551616) :
    Ct Try.prog 59 [.int .u64 (n : Int)] G U M fun v U' D => ∃ p k c l, v = .slice p k c ∧ Own D p k c l ∧ Cn l ∧ val l = n ∧ U = U' := by
  refine ct_of_st Try.func59 rfl rfl rfl rfl ?_
  try refine run_s ?_
  refine st_eq rfl (fun h0 => ?_) (fun h0 => ?_)
  · try refine run_s ?_
    refine sk_ret [] sym rfl (.cons (.tmp rfl) .nil) (ULe.refl _) (List.Sublist.refl _) (.inl rfl) ?_
    exact ⟨none, 0, 0, [], rfl, Own.nil, Cn.nil, by simp [val]; omega, rfl⟩
  · try refine run_s ?_
    refine st_dec rfl (fun h1 => ?_) (fun h1 => ?_)
    · try refine run_s ?_
      refine sl_bslice (vs := [dg n]) sym rfl rfl rfl rfl rfl rfl ?_ rfl rfl rfl rfl rfl rfl (fun b => ?_)
      · intro v hv; simp at hv; subst hv; rfl
      try refine run_s ?_
      refine sk_ret [(b, .arr [dg n], TU32)] sym rfl (.cons (.tmp rfl) .nil) (ULe.refl _) (List.Sublist.refl _) (.inl rfl) ?_
      exact ⟨_, _, _, [n], rfl, Own.row (r := [n]) (Nat.le_refl 1) rfl (by omega) (cn_one (by omega) (by omega)).bd, cn_one (by omega) (by omega), val_single n, rfl⟩
    · try refine run_s ?_
      have e1 : ((n : Int) % 4294967296) = ((n % 4294967296 : Nat) : Int) := by omega
      have e2 : ((n : Int) / 2 ^ 32) = ((n / 4294967296 : Nat) : Int) := by omega
      refine sl_bslice (vs := [dg (n % 4294967296), dg (n / 4294967296)]) sym rfl rfl ?_ rfl rfl rfl ?_ rfl rfl rfl rfl rfl rfl (fun b => ?_)
      · show some [Value.int .u32 ((n : Int) % 4294967296), Value.int .u32 ((n : Int) / 2 ^ 32)] = _
        rw [e1, e2]; rfl
      · intro v hv; simp only [List.mem_cons, List.not_mem_nil, or_false] at hv; rcases hv with rfl | rfl <;> rfl
      try refine run_s ?_
      refine sk_ret [(b, .arr [dg (n % 4294967296), dg (n / 4294967296)], TU32)] sym rfl (.cons (.tmp rfl) .nil) (ULe.refl _) (List.Sublist.refl _) (.inl rfl) ?_
      exact ⟨_, _, _, [n % 4294967296, n / 4294967296], rfl, Own.row (r := [n % 4294967296, n / 4294967296]) (Nat.le_refl 2) rfl (by omega) (cn_two (by omega) (by omega) (by omega)).bd, cn_two (by omega) (by omega) (by omega), by rw [val_two]; omega, rfl⟩

theorem compare_ct {p p' : Option Addr} {n c n' c' : Nat} {a b : List Nat} (ha : Dig U M p n c a) (hb : Dig U M p' n' c' b) (ca : Cn a) (cb : Cn b) :
    Ct Try.prog 62 [.slice p n c, .slice p' n' c'] G U M fun v U' D => v = .int .i64 ((val a : Int) - val b).sign ∧ U = U' ∧ D = [] := by
  have hla := ha.len
  have hlb := hb.len
  have h1 := ha.cap; have h2 := ha.capm; have h3 := hb.cap; have h4 := hb.capm
  refine ct_of_st Try.func62 rfl rfl rfl rfl ?_
  try refine run_s ?_
  refine st_ne rfl (fun h0 => ?_) (fun h0 => ?_)
  · try refine run_s ?_
    refine sl_call rfl rfl rfl rfl rfl rfl (fun _ => sign_ct) ?_
    rintro v U' D hU ⟨rfl, rfl, rfl⟩
    try refine run_s ?_
    refine sk_ret [] sym rfl (.cons (.tmp rfl) .nil) (ULe.refl _) (List.Sublist.refl _) (.inl rfl) ?_
    refine ⟨?_, rfl, rfl⟩
    show Value.int .i64 ((n : Int) - (n' : Int)).sign = _
    rcases Nat.lt_or_ge n n' with hlt | hge
    · have := Cn.lt_of_len ha.bd cb (by omega)
      rw [Int.sign_eq_neg_one_of_neg (by omega), Int.sign_eq_neg_one_of_neg (by omega)]
    · have := Cn.lt_of_len hb.bd ca (by omega)
      rw [Int.sign_eq_one_of_pos (by omega), Int.sign_eq_one_of_pos (by omega)]
  · have h0' : n = n' := by omega
    subst h0'
    try refine run_s ?_
    refine st_loop (fun m E U' M' => ∃ k : Nat, k ≤ n ∧ a.drop k = b.drop k ∧ E = [(0, .slice p n c), (1, .slice p' n c'), (5, .int .i64 ((k : Int) - 1))] ∧ U = U' ∧ M = M' ∧ k = m) (E0 := [(0, .slice p n c), (1, .slice p' n c'), (5, .int .i64 ((n : Int) - 1))]) (n0 := n) ⟨rfl, rfl, rfl, trivial⟩ ⟨n, Nat.le_refl _, by rw [List.drop_of_length_le (by omega), List.drop_of_length_le (by omega)], rfl, rfl, rfl, rfl⟩ ?_
    rintro m E U' M' ⟨k, hk, hdr, rfl, rfl, rfl, rfl⟩
    try refine run_s ?_
    refine st_dec rfl (fun h5 => ?_) (fun h5 => ?_)
    · have hk1 : (k : Int) - 1 = ((k - 1 : Nat) : Int) := by omega
      obtain ⟨x, hx, hbx, hp, hcx⟩ := ha.get (k := k - 1) (by omega)
      obtain ⟨y, hy, hby, hp', hcy⟩ := hb.get (k := k - 1) (by omega)
      try refine run_s ?_
      refine st_draw [0, 1, 2, 3, 4, 5, 6, 7, 8] sym (by kernel_rfl) ?_
      try refine run_s ?_
      refine sl_y (yl_index1 sym rfl rfl rfl rfl rfl (hk1) (by first | omega | assumption) hp) rfl rfl rfl rfl ?_; refine sl_y (yl_loadD sym rfl rfl rfl rfl hcx) rfl rfl rfl rfl ?_
      try refine run_s ?_
      refine sl_y (yl_index1 sym rfl rfl rfl rfl rfl (hk1) (by first | omega | assumption) hp') rfl rfl rfl rfl ?_; refine sl_y (yl_loadD sym rfl rfl rfl rfl hcy) rfl rfl rfl rfl ?_
      try refine run_s ?_
      refine st_ne rfl (fun h6 => ?_) (fun h6 => ?_)
      · try refine run_s ?_
        refine st_draw [0, 1, 2, 3, 4, 5, 6, 7, 8] sym (by kernel_rfl) ?_
        try refine run_s ?_
        refine sl_y (yl_index1 sym rfl rfl rfl rfl rfl (hk1) (by first | omega | assumption) hp) rfl rfl rfl rfl ?_; refine sl_y (yl_loadD sym rfl rfl rfl rfl hcx) rfl rfl rfl rfl ?_
        try refine run_s ?_
        refine sl_y (yl_index1 sym rfl rfl rfl rfl rfl (hk1) (by first | omega | assumption) hp') rfl rfl rfl rfl ?_; refine sl_y (yl_loadD sym rfl rfl rfl rfl hcy) rfl rfl rfl rfl ?_
        try refine run_s ?_
        have hdr' : a.drop (k - 1 + 1) = b.drop (k - 1 + 1) := by rw [show k - 1 + 1 = k by omega]; exact hdr
        refine st_dec rfl (fun h7 => ?_) (fun h7 => ?_)
        · try refine run_s ?_
          refine sk_ret [] sym rfl (.cons (.tmp rfl) .nil) (ULe.refl _) (List.Sublist.refl _) (.inl rfl) ?_
          have := lt_of_digit ha.bd hb.bd hx hy (by omega) hdr' (by omega)
          exact ⟨by rw [Int.sign_eq_neg_one_of_neg (by omega)]; rfl, rfl, rfl⟩
        · try refine run_s ?_
          refine sk_ret [] sym rfl (.cons (.tmp rfl) .nil) (ULe.refl _) (List.Sublist.refl _) (.inl rfl) ?_
          have := lt_of_digit hb.bd ha.bd hy hx (by omega) hdr'.symm (by omega)
          exact ⟨by rw [Int.sign_eq_one_of_pos (by omega)]; rfl, rfl, rfl⟩
      · have h7 : x = y := by omega
        subst h7
        try refine run_s ?_
        refine sk_again (E' := [(0, .slice p n c), (1, .slice p' n c'), (5, .int .i64 ((k : Int) - 1 - 1))]) (m := k - 1) ⟨rfl, rfl, rfl, trivial⟩ (by omega) ⟨k - 1, by omega, drop_step hx hy (by rw [show k - 1 + 1 = k by omega]; exact hdr), ?_, rfl, rfl, rfl⟩
        rw [hk1]
    · have : k = 0 := by omega
      subst this
      try refine run_s ?_
      refine sk_ret [] sym rfl (.cons (.tmp rfl) .nil) (ULe.refl _) (List.Sublist.refl _) (.inl rfl) ?_
      simp only [List.drop_zero] at hdr
      exact ⟨by rw [hdr, Int.sub_self]; rfl, rfl, rfl⟩

end Go.Proofs.Ytlnmhjkagnfnaaa

/- Walks of bigint, 2: sums, differences, products of digits. -/
namespace Go.Proofs.Ytlnmhjkagnfnaaa
open Go.Hp
variable {G : World} {U : UH} {M : MH}

/-! ### words as bits -/
section
variable {P : Program} {T : TT} {N : Nat} {E : Env} {o : Oper} {x y : Operand} {ty yt : Nat} {A B : BitVec 32}
theorem wrap_bv (A : BitVec 32) : IntKind.u32.wrap (A.toNat : Int) = (A.toNat : Int) := by
  have := A.isLt
  exact IntWalk.u32_in _ (by omega)
theorem ofInt_bv (A : BitVec 32) : BitVec.ofInt 32 (A.toNat : Int) = A := by
  rw [BitVec.ofInt_natCast, BitVec.ofNat_toNat, BitVec.setWidth_eq]
theorem yl_and32 (ho : o.op = .binOp .and ty x y yt) (hx : ev E x = some (.int .u32 (A.toNat : Int))) (hy : ev E y = some (.int .u32 (B.toNat : Int))) : Yl P N G o E U M (.int .u32 ((A &&& B).toNat : Int)) := by
  refine yl_bits ho hx hy ?_
  show some (Value.int .u32 (IntKind.u32.wrap (((BitVec.ofInt 32 (A.toNat : Int) &&& BitVec.ofInt 32 (B.toNat : Int)).toNat : Nat) : Int))) = _
  rw [ofInt_bv, ofInt_bv, wrap_bv]
theorem yl_or32b (ho : o.op = .binOp .or ty x y yt) (hx : ev E x = some (.int .u32 (A.toNat : Int))) (hy : ev E y = some (.int .u32 (B.toNat : Int))) : Yl P N G o E U M (.int .u32 ((A ||| B).toNat : Int)) := by
  refine yl_bits ho hx hy ?_
  show some (Value.int .u32 (IntKind.u32.wrap (((BitVec.ofInt 32 (A.toNat : Int) ||| BitVec.ofInt 32 (B.toNat : Int)).toNat : Nat) : Int))) = _
  rw [ofInt_bv, ofInt_bv, wrap_bv]
theorem yl_xor32 (ho : o.op = .binOp .xor ty x y yt) (hx : ev E x = some (.int .u32 (A.toNat : Int))) (hy : ev E y = some (.int .u32 (B.toNat : Int))) : Yl P N G o E U M (.int .u32 ((A ^^^ B).toNat : Int)) := by
  refine yl_bits ho hx hy ?_
  show some (Value.int .u32 (IntKind.u32.wrap (((BitVec.ofInt 32 (A.toNat : Int) ^^^ BitVec.ofInt 32 (B.toNat : Int)).toNat : Nat) : Int))) = _
  rw [ofInt_bv, ofInt_bv, wrap_bv]
theorem yl_not32 (ho : o.op = .unOp .xor ty x) (hx : ev E x = some (.int .u32 (A.toNat : Int))) : Yl P N G o E U M (.int .u32 ((~~~A).toNat : Int)) := by
  have h := yl_not (P := P) (N := N) (G := G) (U := U) (M := M) ho hx
  have e : (BitVec.ofInt 32 4294967295 ^^^ BitVec.ofInt 32 (A.toNat : Int)) = ~~~A := by
    rw [ofInt_bv]
    have : BitVec.ofInt 32 4294967295 = BitVec.allOnes 32 := by decide
    rw [this, BitVec.allOnes_xor]
  have e2 : IntKind.u32.wrap (((BitVec.ofInt 32 4294967295 ^^^ BitVec.ofInt 32 (A.toNat : Int)).toNat : Nat) : Int) = ((~~~A).toNat : Int) := by rw [e, wrap_bv]
  rw [← e2]; exact h
theorem yl_sub32 (ho : o.op = .binOp .sub ty x y yt) (hx : ev E x = some (.int .u32 (A.toNat : Int))) (hy : ev E y = some (.int .u32 (B.toNat : Int))) : Yl P N G o E U M (.int .u32 ((A - B).toNat : Int)) := by
  refine yl_bin ho hx hy (funext fun w => ?_)
  have h1 := A.isLt
  have h2 := B.isLt
  have e : IntKind.u32.wrap ((A.toNat : Int) - (B.toNat : Int)) = ((A - B).toNat : Int) := by
    rw [IntKind.wrap_u32, BitVec.toNat_sub]; omega
  rw [← e]
  exact intOp_run rfl rfl
end

theorem borrow_bits (A B C : BitVec 32) (hc : C.toNat ≤ 1) : ((~~~A &&& B) ||| (~~~(A ^^^ B) &&& (A - B - C))).toNat / 2 ^ 31 = if A.toNat < B.toNat + C.toNat then 1 else 0 := by
  have key : ∀ Z : BitVec 32, Z.toNat / 2 ^ 31 = if Z.msb = true then 1 else 0 := by
    intro Z
    have := Z.isLt
    rw [BitVec.msb_eq_decide]
    by_cases h : 2 ^ (32 - 1) ≤ Z.toNat
    · simp only [h, decide_true, if_true]; omega
    · simp only [h, decide_false, Bool.false_eq_true, if_false]; omega
  have hA := A.isLt
  have hB := B.isLt
  rw [key]
  simp only [BitVec.msb_or, BitVec.msb_and, BitVec.msb_not, BitVec.msb_xor]
  have hd : (A - B - C).msb = decide (2 ^ 31 ≤ (A.toNat + 2 * 2 ^ 32 - B.toNat - C.toNat) % 2 ^ 32) := by
    rw [BitVec.msb_eq_decide, BitVec.toNat_sub, BitVec.toNat_sub]
    congr 2
    omega
  rw [hd, BitVec.msb_eq_decide, BitVec.msb_eq_decide]
  by_cases h1 : 2 ^ (32 - 1) ≤ A.toNat <;> by_cases h2 : 2 ^ (32 - 1) ≤ B.toNat <;> by_cases h3 : 2 ^ 31 ≤ (A.toNat + 2 * 2 ^ 32 - B.toNat - C.toNat) % 2 ^ 32 <;> simp [h1, h2, h3] <;> omega

theorem Sub32_ct {x y b : Nat} (hx : x < 4294967296) (hy : y < 4294967296) (hb : b ≤ 1) :
    Ct Try.prog 90 [.int .u32 (x : Int), .int .u32 (y : Int), .int .u32 (b : Int)] G U M fun v U' D => v = .tuple #[.int .u32 (((x + 8589934592 - y - b) % 4294967296 : Nat) : Int), .int .u32 (((if x < y + b then 1 else 0) : Nat) : Int)] ∧ U = U' ∧ D = [] := by
  obtain ⟨A, rfl⟩ : ∃ A : BitVec 32, x = A.toNat := ⟨BitVec.ofNat 32 x, by rw [BitVec.toNat_ofNat, Nat.mod_eq_of_lt hx]⟩
  obtain ⟨B, rfl⟩ : ∃ A : BitVec 32, y = A.toNat := ⟨BitVec.ofNat 32 y, by rw [BitVec.toNat_ofNat, Nat.mod_eq_of_lt hy]⟩
  obtain ⟨C, rfl⟩ : ∃ A : BitVec 32, b = A.toNat := ⟨BitVec.ofNat 32 b, by rw [BitVec.toNat_ofNat, Nat.mod_eq_of_lt (by omega)]⟩
  refine ct_of_st Try.func90 rfl rfl rfl rfl ?_
  refine st_seq ?_
  try refine run_o ?_
  refine st_seq ?_
  refine st_region (T := tys) ?_
  refine sl_y (yl_pure sym rfl) rfl rfl rfl rfl ?_
  refine sl_y (yl_pure sym rfl) rfl rfl rfl rfl ?_
  refine sl_y (yl_sub32 rfl rfl rfl) rfl rfl rfl rfl ?_
  refine sl_y (yl_pure sym rfl) rfl rfl rfl rfl ?_
  refine sl_y (yl_sub32 rfl rfl rfl) rfl rfl rfl rfl ?_
  try refine run_s ?_
  refine sl_y (yl_not32 rfl rfl) rfl rfl rfl rfl ?_
  refine sl_y (yl_pure sym rfl) rfl rfl rfl rfl ?_
  refine sl_y (yl_and32 rfl rfl rfl) rfl rfl rfl rfl ?_
  refine sl_y (yl_pure sym rfl) rfl rfl rfl rfl ?_
  refine sl_y (yl_pure sym rfl) rfl rfl rfl rfl ?_
  refine sl_y (yl_xor32 rfl rfl rfl) rfl rfl rfl rfl ?_
  refine sl_y (yl_not32 rfl rfl) rfl rfl rfl rfl ?_
  refine sl_y (yl_pure sym rfl) rfl rfl rfl rfl ?_
  refine sl_y (yl_and32 rfl rfl rfl) rfl rfl rfl rfl ?_
  refine sl_y (yl_or32b rfl rfl rfl) rfl rfl rfl rfl ?_
  refine sl_y (yl_shr (n := 31) rfl rfl rfl rfl (by decide)) rfl rfl rfl rfl ?_
  try refine run_s ?_
  refine sk_ret [] sym rfl (.cons (.tmp rfl) (.cons (.tmp rfl) .nil)) (ULe.refl _) (List.Sublist.refl _) (.inl rfl) ⟨?_, rfl, rfl⟩
  have h1 := borrow_bits A B C hb
  have e1 : (((A - B - C).toNat : Nat) : Int) = (((A.toNat + 8589934592 - B.toNat - C.toNat) % 4294967296 : Nat) : Int) := by
    rw [BitVec.toNat_sub, BitVec.toNat_sub]
    omega
  have e2 : ((((~~~A &&& B) ||| (~~~(A ^^^ B) &&& (A - B - C))).toNat : Nat) : Int) / 2 ^ 31 = (((if A.toNat < B.toNat + C.toNat then 1 else 0) : Nat) : Int) := by
    rw [← h1]; omega
  simp only [tup, e1, e2]

end Go.Proofs.Ytlnmhjkagnfnaaa

/- Walks of bigint, 3: sums, differences, products of digits. -/
namespace Go.Proofs.Ytlnmhjkagnfnaaa
open Go.Hp
variable {G : World} {U : UH} {M : MH}

theorem getD_of {l : List Nat} {k d : Nat} (h : l[k]? = some d) : l.getD k 0 = d := by simp [List.getD, h]
theorem bd_rep (n : Nat) : Bd (List.replicate n 0) := by
  intro d hd; rw [(List.mem_replicate.1 hd).2]; omega
theorem bd_app {a b : List Nat} (ha : Bd a) (hb : Bd b) : Bd (a ++ b) := by
  intro d hd; rcases List.mem_append.1 hd with h | h
  · exact ha d h
  · exact hb d h
theorem val_app_rep (r : List Nat) (n : Nat) : val (r ++ List.replicate n 0) = val r := by rw [val_append, val_replicate]; simp
theorem dg_rep (n : Nat) : List.replicate n (Value.int .u32 0) = (List.replicate n 0).map dg := by
  rw [List.map_replicate]; rfl

theorem plus_ct {p p' : Option Addr} {n c n' c' : Nat} {a b : List Nat} (ha : Dig U M p n c a) (hb : Dig U M p' n' c' b) (hn : n ≤ 1099511627776) (hn' : n' ≤ 1099511627776) :
    Ct Try.prog 68 [.slice p n c, .slice p' n' c'] G U M fun v U' D => ∃ q k cc l, v = .slice q k cc ∧ Own D q k cc l ∧ val l = val a + val b ∧ k = max n n' + 1 ∧ U = U' := by
  refine ct_of_st Try.func68 rfl rfl rfl rfl ?_
  refine st_seq ?_
  try refine run_o ?_
  refine st_seq_cut (fun E U' M' => ∃ (p1 : Option Addr) (n1 c1 : Nat) (p2 : Option Addr) (n2 c2 : Nat) (a1 b1 : List Nat), Dig U M p1 n1 c1 a1 ∧ Dig U M p2 n2 c2 b1 ∧ n2 ≤ n1 ∧ n1 ≤ 1099511627776 ∧ val a1 + val b1 = val a + val b ∧ n1 = max n n' ∧ E = [(0, .slice p1 n1 c1), (1, .slice p2 n2 c2)] ∧ U = U' ∧ M = M') ?_ ?_
  · refine st_seq ?_
    try refine run_o ?_
    refine st_dec rfl (fun h0 => ?_) (fun h0 => ?_)
    · try refine run_s ?_
      exact sk_cut (E' := [(0, .slice p' n' c'), (1, .slice p n c)]) ⟨rfl, rfl, trivial⟩ ⟨_, _, _, _, _, _, b, a, hb, ha, by omega, hn', by omega, by omega, rfl, rfl, rfl⟩
    · try refine run_s ?_
      exact sk_cut (E' := [(0, .slice p n c), (1, .slice p' n' c')]) ⟨rfl, rfl, trivial⟩ ⟨_, _, _, _, _, _, a, b, ha, hb, by omega, hn, rfl, by omega, rfl, rfl, rfl⟩
  · rintro E U' M' ⟨p1, n1, c1, p2, n2, c2, a1, b1, h1, h2, hle, hn1, hval, hmax, rfl, rfl, rfl⟩
    have hl1 := h1.len
    have hl2 := h2.len
    try refine run_s ?_
    refine sl_make (m := n1 + 1) (n := n1 + 1) sym rfl rfl rfl rfl rfl (by omega) (by omega) rfl rfl (Nat.le_refl _) (by omega) (by omega) rfl rfl rfl rfl (fun bo => ?_)
    rw [dg_rep]
    try refine run_s ?_
    refine st_loop (fun m E U' M' => ∃ (i cy : Nat) (r : List Nat), i ≤ n1 ∧ cy ≤ 1 ∧ r.length = i ∧ Bd r ∧ val r + 4294967296 ^ i * cy = val (a1.take i) + val (b1.take i) ∧
        E = [(23, .int .i64 (i : Int)), (22, .int .i64 (n1 : Int)), (21, .slice p1 n1 c1), (0, .slice p1 n1 c1), (1, .slice p2 n2 c2), (5, .slice (some ⟨bo, 0, none⟩) (n1 + 1) (n1 + 1)), (6, .int .u32 (cy : Int))] ∧
        U = U' ∧ M' = (bo, .arr ((r ++ List.replicate (n1 + 1 - i) 0).map dg), TU32) :: M ∧ m = n1 - i) (n0 := n1)
      (E0 := [(23, .int .i64 ((0 : Nat) : Int)), (22, .int .i64 (n1 : Int)), (21, .slice p1 n1 c1), (0, .slice p1 n1 c1), (1, .slice p2 n2 c2), (5, .slice (some ⟨bo, 0, none⟩) (n1 + 1) (n1 + 1)), (6, .int .u32 ((0 : Nat) : Int))])
      ⟨rfl, rfl, rfl, rfl, rfl, rfl, rfl, trivial⟩ ⟨0, 0, [], by omega, by omega, rfl, (by intro d hd; cases hd), by simp [val], rfl, rfl, rfl, rfl⟩ ?_
    rintro m E U' M' ⟨i, cy, r, hi, hcy, hr, hbr, hv, rfl, rfl, rfl, rfl⟩
    have h3 := h1.capm
    have h4 := h1.cap
    try refine run_s ?_
    refine st_dec rfl (fun h5 => ?_) (fun h5 => ?_)
    · obtain ⟨x, hx, hbx, hp1, hcx⟩ := h1.get (k := i) (by omega)
      replace hcx := fun G w hw => hcx G w (Mem.anti (M' := (bo, .arr ((r ++ List.replicate (n1 + 1 - i) 0).map dg), TU32) :: M) hw (ULe.refl _) (List.sublist_cons_self ..))
      have h6 := h2.cap; have h7 := h2.capm
      try refine run_s ?_
      refine sl_y (yl_index1 sym rfl rfl rfl rfl rfl rfl (by omega) hp1) rfl rfl rfl rfl ?_; refine sl_y (yl_loadD sym rfl rfl rfl rfl hcx) rfl rfl rfl rfl ?_
      try refine run_o ?_
      refine st_seq ?_
      try refine run_o ?_
      refine st_seq_cut (fun E U' M' => ∃ y : Nat, y < 4294967296 ∧ val (b1.take (i + 1)) = val (b1.take i) + 4294967296 ^ i * y ∧
        E = [(9, .int .u32 (y : Int)), (8, .int .u32 (x : Int)), (7, .int .i64 (i : Int)), (23, .int .i64 (i : Int)), (22, .int .i64 (n1 : Int)), (21, .slice p1 n1 c1), (0, .slice p1 n1 c1), (1, .slice p2 n2 c2), (5, .slice (some ⟨bo, 0, none⟩) (n1 + 1) (n1 + 1)), (6, .int .u32 (cy : Int))] ∧
        U = U' ∧ M' = (bo, .arr ((r ++ List.replicate (n1 + 1 - i) 0).map dg), TU32) :: M) ?_ ?_
      · try refine run_s ?_
        refine st_dec rfl (fun h8 => ?_) (fun h8 => ?_)
        · obtain ⟨y, hy, hby, hp2, hcy'⟩ := h2.get (k := i) (by omega)
          replace hcy' := fun G w hw => hcy' G w (Mem.anti (M' := (bo, .arr ((r ++ List.replicate (n1 + 1 - i) 0).map dg), TU32) :: M) hw (ULe.refl _) (List.sublist_cons_self ..))
          try refine run_s ?_
          refine sl_y (yl_index1 sym rfl rfl rfl rfl rfl rfl (by omega) hp2) rfl rfl rfl rfl ?_; refine sl_y (yl_loadD sym rfl rfl rfl rfl hcy') rfl rfl rfl rfl ?_
          try refine run_s ?_
          exact sk_cut (E' := [(9, .int .u32 (y : Int)), (8, .int .u32 (x : Int)), (7, .int .i64 (i : Int)), (23, .int .i64 (i : Int)), (22, .int .i64 (n1 : Int)), (21, .slice p1 n1 c1), (0, .slice p1 n1 c1), (1, .slice p2 n2 c2), (5, .slice (some ⟨bo, 0, none⟩) (n1 + 1) (n1 + 1)), (6, .int .u32 (cy : Int))])
            ⟨rfl, rfl, rfl, rfl, rfl, rfl, rfl, rfl, rfl, rfl, trivial⟩ ⟨y, hby, val_take_succ hy, rfl, rfl, rfl⟩
        · try refine run_s ?_
          exact sk_cut (E' := [(9, .int .u32 ((0 : Nat) : Int)), (8, .int .u32 (x : Int)), (7, .int .i64 (i : Int)), (23, .int .i64 (i : Int)), (22, .int .i64 (n1 : Int)), (21, .slice p1 n1 c1), (0, .slice p1 n1 c1), (1, .slice p2 n2 c2), (5, .slice (some ⟨bo, 0, none⟩) (n1 + 1) (n1 + 1)), (6, .int .u32 (cy : Int))])
            ⟨rfl, rfl, rfl, rfl, rfl, rfl, rfl, rfl, rfl, rfl, trivial⟩ ⟨0, by omega, take_more (by omega), rfl, rfl, rfl⟩
      · rintro E U' M' ⟨y, hby, hvy, rfl, rfl, rfl⟩
        try refine run_s ?_
        refine sl_call rfl rfl rfl rfl rfl rfl (fun _ => Add32_ct hbx hby (by omega)) ?_
        rintro v U' D hU ⟨rfl, rfl, rfl⟩
        try refine run_s ?_
        refine sl_y (yl_indexM (j := i) sym rfl rfl rfl rfl rfl rfl (by omega)) rfl rfl rfl rfl ?_
        refine sl_storeD 0 sym rfl rfl rfl rfl rfl rfl rfl (j := i) (by omega) (by simp only [List.length_append, List.length_replicate]; omega) rfl rfl rfl ?_
        rw [set_at hr (by omega)]
        try refine run_s ?_
        refine sk_again (E' := [(23, .int .i64 ((i : Int) + 1)), (22, .int .i64 (n1 : Int)), (21, .slice p1 n1 c1), (0, .slice p1 n1 c1), (1, .slice p2 n2 c2), (5, .slice (some ⟨bo, 0, none⟩) (n1 + 1) (n1 + 1)), (6, .int .u32 (((x + y + cy) / 4294967296 : Nat) : Int))]) (m := n1 - (i + 1))
          ⟨rfl, rfl, rfl, rfl, rfl, rfl, rfl, trivial⟩ (by omega) ⟨i + 1, (x + y + cy) / 4294967296, r ++ [(x + y + cy) % 4294967296], by omega, by omega, by simp [hr], bd_snoc hbr (Nat.mod_lt _ (by omega)), ?_, rfl, rfl, rfl, rfl⟩
        rw [val_snoc, hr, val_take_succ hx, hvy, Nat.pow_succ]
        have e := Nat.mod_add_div (x + y + cy) 4294967296
        generalize (x + y + cy) % 4294967296 = s at *
        generalize (x + y + cy) / 4294967296 = q at *
        generalize 4294967296 ^ i = pw at *
        grind
    · have : i = n1 := by omega
      subst this
      try refine run_s ?_
      refine sl_y (yl_indexM (j := i) sym rfl rfl rfl rfl rfl rfl (by omega)) rfl rfl rfl rfl ?_
      refine sl_storeD 0 sym rfl rfl rfl rfl rfl rfl rfl (j := i) (by omega) (by simp only [List.length_append, List.length_replicate]; omega) rfl rfl rfl ?_
      rw [set_at hr (by omega)]
      try refine run_s ?_
      refine sk_ret [_] sym rfl (.cons (.tmp rfl) .nil) (ULe.refl _) (List.Sublist.refl _) (.inl rfl) ?_
      have hl : (r ++ [cy] ++ List.replicate (i + 1 - (i + 1)) 0).length = i + 1 := by simp [hr]
      have ho := Own.row (b := bo) (n := i + 1) (c := i + 1) (r := r ++ [cy] ++ List.replicate (i + 1 - (i + 1)) 0) (Nat.le_refl _) hl (by omega) (bd_app (bd_snoc hbr (by omega)) (bd_rep _))
      rw [take_all (by omega)] at ho
      refine ⟨_, _, _, _, rfl, ho, ?_, by omega, rfl⟩
      rw [val_app_rep, val_snoc, hr, hv, ← hval, take_all (by omega), take_all (by omega)]

end Go.Proofs.Ytlnmhjkagnfnaaa

/- Walks of bigint, 4: differences and products of digits. -/
namespace Go.Proofs.Ytlnmhjkagnfnaaa
open Go.Hp
variable {G : World} {U : UH} {M : MH}

theorem less_ct {p p' : Option Addr} {n c n' c' : Nat} {a b : List Nat} (ha : Dig U M p n c a) (hb : Dig U M p' n' c' b) (hn : n ≤ 1099511627776) (hle : n' ≤ n) (hval : val b ≤ val a) :
    Ct Try.prog 69 [.slice p n c, .slice p' n' c'] G U M fun v U' D => ∃ q k cc l, v = .slice q k cc ∧ Own D q k cc l ∧ val l = val a - val b ∧ k = n ∧ U = U' := by
  have hl1 := ha.len
  have hl2 := hb.len
  have h3 := ha.capm
  have h4 := ha.cap
  have h6 := hb.cap; have h7 := hb.capm
  refine ct_of_st Try.func69 rfl rfl rfl rfl ?_
  try refine run_s ?_
  refine sl_make (m := n) (n := n) sym rfl rfl rfl rfl rfl rfl rfl rfl rfl (Nat.le_refl _) (by omega) (by omega) rfl rfl rfl rfl (fun bo => ?_)
  rw [dg_rep]
  try refine run_s ?_
  refine st_loop (fun m E U' M' => ∃ (i cy : Nat) (r : List Nat), i ≤ n ∧ cy ≤ 1 ∧ r.length = i ∧ Bd r ∧ val r + val (b.take i) = val (a.take i) + 4294967296 ^ i * cy ∧
      E = [(15, .int .i64 (i : Int)), (14, .int .i64 (n : Int)), (13, .slice p n c), (0, .slice p n c), (1, .slice p' n' c'), (5, .slice (some ⟨bo, 0, none⟩) n n), (6, .int .u32 (cy : Int))] ∧
      U = U' ∧ M' = (bo, .arr ((r ++ List.replicate (n - i) 0).map dg), TU32) :: M ∧ m = n - i) (n0 := n)
    (E0 := [(15, .int .i64 ((0 : Nat) : Int)), (14, .int .i64 (n : Int)), (13, .slice p n c), (0, .slice p n c), (1, .slice p' n' c'), (5, .slice (some ⟨bo, 0, none⟩) n n), (6, .int .u32 ((0 : Nat) : Int))])
    ⟨rfl, rfl, rfl, rfl, rfl, rfl, rfl, trivial⟩ ⟨0, 0, [], by omega, by omega, rfl, (by intro d hd; cases hd), by simp [val], rfl, rfl, rfl, rfl⟩ ?_
  rintro m E U' M' ⟨i, cy, r, hi, hcy, hr, hbr, hv, rfl, rfl, rfl, rfl⟩
  try refine run_s ?_
  refine st_dec rfl (fun h5 => ?_) (fun h5 => ?_)
  · obtain ⟨x, hx, hbx, hp1, hcx⟩ := ha.get (k := i) (by omega)
    replace hcx := fun G w hw => hcx G w (Mem.anti (M' := (bo, .arr ((r ++ List.replicate (n - i) 0).map dg), TU32) :: M) hw (ULe.refl _) (List.sublist_cons_self ..))
    try refine run_s ?_
    refine sl_y (yl_index1 sym rfl rfl rfl rfl rfl rfl (by omega) hp1) rfl rfl rfl rfl ?_; refine sl_y (yl_loadD sym rfl rfl rfl rfl hcx) rfl rfl rfl rfl ?_
    try refine run_o ?_
    refine st_seq ?_
    try refine run_o ?_
    refine st_seq_cut (fun E U' M' => ∃ y : Nat, y < 4294967296 ∧ val (b.take (i + 1)) = val (b.take i) + 4294967296 ^ i * y ∧
      E = [(9, .int .u32 (y : Int)), (8, .int .u32 (x : Int)), (7, .int .i64 (i : Int)), (15, .int .i64 (i : Int)), (14, .int .i64 (n : Int)), (13, .slice p n c), (0, .slice p n c), (1, .slice p' n' c'), (5, .slice (some ⟨bo, 0, none⟩) n n), (6, .int .u32 (cy : Int))] ∧
      U = U' ∧ M' = (bo, .arr ((r ++ List.replicate (n - i) 0).map dg), TU32) :: M) ?_ ?_
    · try refine run_s ?_
      refine st_dec rfl (fun h8 => ?_) (fun h8 => ?_)
      · obtain ⟨y, hy, hby, hp2, hcy'⟩ := hb.get (k := i) (by omega)
        replace hcy' := fun G w hw => hcy' G w (Mem.anti (M' := (bo, .arr ((r ++ List.replicate (n - i) 0).map dg), TU32) :: M) hw (ULe.refl _) (List.sublist_cons_self ..))
        try refine run_s ?_
        refine sl_y (yl_index1 sym rfl rfl rfl rfl rfl rfl (by omega) hp2) rfl rfl rfl rfl ?_; refine sl_y (yl_loadD sym rfl rfl rfl rfl hcy') rfl rfl rfl rfl ?_
        try refine run_s ?_
        exact sk_cut (E' := [(9, .int .u32 (y : Int)), (8, .int .u32 (x : Int)), (7, .int .i64 (i : Int)), (15, .int .i64 (i : Int)), (14, .int .i64 (n : Int)), (13, .slice p n c), (0, .slice p n c), (1, .slice p' n' c'), (5, .slice (some ⟨bo, 0, none⟩) n n), (6, .int .u32 (cy : Int))])
          ⟨rfl, rfl, rfl, rfl, rfl, rfl, rfl, rfl, rfl, rfl, trivial⟩ ⟨y, hby, val_take_succ hy, rfl, rfl, rfl⟩
      · try refine run_s ?_
        exact sk_cut (E' := [(9, .int .u32 ((0 : Nat) : Int)), (8, .int .u32 (x : Int)), (7, .int .i64 (i : Int)), (15, .int .i64 (i : Int)), (14, .int .i64 (n : Int)), (13, .slice p n c), (0, .slice p n c), (1, .slice p' n' c'), (5, .slice (some ⟨bo, 0, none⟩) n n), (6, .int .u32 (cy : Int))])
          ⟨rfl, rfl, rfl, rfl, rfl, rfl, rfl, rfl, rfl, rfl, trivial⟩ ⟨0, by omega, take_more (by omega), rfl, rfl, rfl⟩
    · rintro E U' M' ⟨y, hby, hvy, rfl, rfl, rfl⟩
      try refine run_s ?_
      refine sl_call rfl rfl rfl rfl rfl rfl (fun _ => Sub32_ct hbx hby (by omega)) ?_
      rintro v U' D hU ⟨rfl, rfl, rfl⟩
      try refine run_s ?_
      refine sl_y (yl_indexM (j := i) sym rfl rfl rfl rfl rfl rfl (by omega)) rfl rfl rfl rfl ?_
      refine sl_storeD 0 sym rfl rfl rfl rfl rfl rfl rfl (j := i) (by omega) (by simp only [List.length_append, List.length_replicate]; omega) rfl rfl rfl ?_
      rw [set_at hr (by omega)]
      try refine run_s ?_
      refine sk_again (E' := [(15, .int .i64 ((i : Int) + 1)), (14, .int .i64 (n : Int)), (13, .slice p n c), (0, .slice p n c), (1, .slice p' n' c'), (5, .slice (some ⟨bo, 0, none⟩) n n), (6, .int .u32 (((if x < y + cy then 1 else 0 : Nat)) : Int))]) (m := n - (i + 1))
        ⟨rfl, rfl, rfl, rfl, rfl, rfl, rfl, trivial⟩ (by omega) ⟨i + 1, (if x < y + cy then 1 else 0), r ++ [(x + 8589934592 - y - cy) % 4294967296], by omega, by split <;> omega, by simp [hr], bd_snoc hbr (Nat.mod_lt _ (by omega)), ?_, rfl, rfl, rfl, rfl⟩
      rw [val_snoc, hr, val_take_succ hx, hvy, Nat.pow_succ]
      have e : (x + 8589934592 - y - cy) % 4294967296 + y + cy = x + 4294967296 * (if x < y + cy then 1 else 0) := by split <;> omega
      generalize (x + 8589934592 - y - cy) % 4294967296 = s at *
      generalize (if x < y + cy then 1 else 0) = q at *
      generalize 4294967296 ^ i = pw at *
      grind
  · have : i = n := by omega
    subst this
    try refine run_s ?_
    refine sk_ret [_] sym rfl (.cons (.tmp rfl) .nil) (ULe.refl _) (List.Sublist.refl _) (.inl rfl) ?_
    have ho := Own.row (b := bo) (n := i) (c := i) (r := r ++ List.replicate (i - i) 0) (Nat.le_refl _) (by simp [hr]) (by omega) (bd_app hbr (bd_rep _))
    rw [take_all (by simp [hr])] at ho
    refine ⟨_, _, _, _, rfl, ho, ?_, rfl, rfl⟩
    rw [val_app_rep]
    rw [take_all (by omega), take_all (by omega)] at hv
    have h8 := val_lt hbr
    rw [hr] at h8
    have h9 : cy = 0 := by
      rcases Nat.eq_zero_or_pos cy with h | h
      · exact h
      · have : cy = 1 := by omega
        subst this
        generalize 4294967296 ^ i = pw at *
        omega
    subst h9
    omega

theorem set_mid {A R : List Nat} {x v k : Nat} (h : A.length = k) : (A ++ x :: R).set k v = (A ++ [v]) ++ R := by
  rw [← h, List.set_append_right _ _ (Nat.le_refl _), Nat.sub_self, List.set_cons_zero, List.append_assoc]; rfl
theorem mul_bound {x y : Nat} (hx : x < 4294967296) (hy : y < 4294967296) : x * y ≤ 18446744065119617025 := by
  have := Nat.mul_le_mul (show x ≤ 4294967295 by omega) (show y ≤ 4294967295 by omega)
  omega


end Go.Proofs.Ytlnmhjkagnfnaaa

/- Walks of bigint, 5: products of digits. -/
namespace Go.Proofs.Ytlnmhjkagnfnaaa
open Go.Hp
variable {G : World} {U : UH} {M : MH}

theorem times_ct {p p' : Option Addr} {n c n' c' : Nat} {a b : List Nat} (ha : Dig U M p n c a) (hb : Dig U M p' n' c' b) (hn : n ≤ 1099511627776) (hn' : n' ≤ 1099511627776) :
    Ct Try.prog 66 [.slice p n c, .slice p' n' c'] G U M fun v U' D => ∃ q k cc l, v = .slice q k cc ∧ Own D q k cc l ∧ val l = val a * val b ∧ k ≤ n + n' ∧ U = U' := by
  have hl1 := ha.len
  have hl2 := hb.len
  have h3 := ha.capm
  have h4 := ha.cap
  have h6 := hb.cap; have h7 := hb.capm
  refine ct_of_st Try.func66 rfl rfl rfl rfl ?_
  refine st_seq ?_
  try refine run_o ?_
  refine st_seq_cut (fun E U' M' => E = [(0, .slice p n c), (1, .slice p' n' c')] ∧ U = U' ∧ M = M') ?_ ?_
  · try refine run_s ?_
    refine sl_gdec rfl rfl (fun h0 => ?_) (fun h0 => ?_)
    · try refine run_s ?_
      refine sk_ret [] sym rfl (.cons (.tmp rfl) .nil) (ULe.refl _) (List.Sublist.refl _) (.inl rfl) ?_
      have : a = [] := List.eq_nil_of_length_eq_zero (by omega)
      subst this
      exact ⟨_, _, _, _, rfl, Own.nil, by simp [val], by omega, rfl⟩
    · try refine run_s ?_
      refine st_dec rfl (fun h1 => ?_) (fun h1 => ?_)
      · try refine run_s ?_
        refine sk_ret [] sym rfl (.cons (.tmp rfl) .nil) (ULe.refl _) (List.Sublist.refl _) (.inl rfl) ?_
        have : b = [] := List.eq_nil_of_length_eq_zero (by omega)
        subst this
        exact ⟨_, _, _, _, rfl, Own.nil, by simp [val], by omega, rfl⟩
      · try refine run_s ?_
        exact sk_cut (E' := [(0, .slice p n c), (1, .slice p' n' c')]) ⟨rfl, rfl, trivial⟩ ⟨rfl, rfl, rfl⟩
  rintro E U' M' ⟨rfl, rfl, rfl⟩
  refine st_seq_cut (fun E U' M' => E = [(0, .slice p n c), (1, .slice p' n' c')] ∧ U = U' ∧ M = M') ?_ ?_
  · try refine run_s ?_
    refine sl_gdec rfl rfl (fun h0 => ?_) (fun h0 => ?_)
    · try refine run_s ?_
      refine st_dec rfl (fun h1 => ?_) (fun h1 => ?_)
      · have hlt0 : 0 < n := by omega
        have hlt0' : 0 < n' := by omega
        obtain ⟨x, hx, hbx, hp, hcx⟩ := ha.get (k := 0) hlt0
        obtain ⟨y, hy, hby, hp', hcy⟩ := hb.get (k := 0) hlt0'
        have hm := mul_bound hbx hby
        have hm' : 0 ≤ (x : Int) * (y : Int) ∧ (x : Int) * (y : Int) ≤ 18446744065119617025 := by
          have : (x : Int) * (y : Int) = ((x * y : Nat) : Int) := by simp
          omega
        try refine run_s ?_
        refine st_draw [0, 1, 2, 3, 4, 5, 6, 7, 8, 9, 10] sym (by kernel_rfl) ?_
        try refine run_s ?_
        refine sl_y (yl_index1 sym rfl rfl rfl rfl rfl ((rfl : (0 : Int) = ((0 : Nat) : Int))) (by first | omega | assumption) hp) rfl rfl rfl rfl ?_; refine sl_y (yl_loadD sym rfl rfl rfl rfl hcx) rfl rfl rfl rfl ?_
        try refine run_s ?_
        refine sl_y (yl_index1 sym rfl rfl rfl rfl rfl ((rfl : (0 : Int) = ((0 : Nat) : Int))) (by first | omega | assumption) hp') rfl rfl rfl rfl ?_; refine sl_y (yl_loadD sym rfl rfl rfl rfl hcy) rfl rfl rfl rfl ?_
        try refine run_s ?_
        refine sl_call rfl rfl rfl rfl rfl rfl (fun _ => wide_ct (n := x * y) (by omega)) ?_
        rintro v U' D hU ⟨q, k, cc, l, rfl, ho, hcn, hvl, rfl⟩
        try refine run_s ?_
        refine sk_ret D sym rfl (.cons (.tmp rfl) .nil) (ULe.refl _) (List.Sublist.refl _) (.inl rfl) ?_
        have e1 : a = [x] := by
          match a, hx, hl1 with
          | [d], hx, _ => simp at hx; rw [hx]
          | _ :: _ :: _, _, hl => simp at hl; omega
        have e2 : b = [y] := by
          match b, hy, hl2 with
          | [d], hx, _ => simp at hx; rw [hx]
          | _ :: _ :: _, _, hl => simp at hl; omega
        have hlen := hcn.len_le (b := [x * y % 4294967296, x * y / 4294967296]) (by
          intro d hd; simp only [List.mem_cons, List.not_mem_nil, or_false] at hd; omega) (by rw [val_two, hvl]; omega)
        have hk : k = l.length := by
          have := ho.dig (U := U) (M := M)
          exact this.len.symm
        refine ⟨q, k, cc, l, rfl, ho, by rw [hvl, e1, e2, val_single, val_single], ?_, rfl⟩
        simp only [List.length_cons, List.length_nil] at hlen
        omega
      · try refine run_s ?_
        exact sk_cut (E' := [(0, .slice p n c), (1, .slice p' n' c')]) ⟨rfl, rfl, trivial⟩ ⟨rfl, rfl, rfl⟩
    · try refine run_s ?_
      exact sk_cut (E' := [(0, .slice p n c), (1, .slice p' n' c')]) ⟨rfl, rfl, trivial⟩ ⟨rfl, rfl, rfl⟩
  rintro E U' M' ⟨rfl, rfl, rfl⟩
  try refine run_s ?_
  refine sl_make (m := n + n') (n := n + n') sym rfl rfl rfl rfl rfl (by omega) (by omega) rfl rfl (Nat.le_refl _) (by omega) (by omega) rfl rfl rfl rfl (fun bo => ?_)
  rw [dg_rep]
  try refine run_s ?_
  refine st_loop (fun m E U' M' => ∃ (i : Nat) (r : List Nat), i ≤ n ∧ r.length = i + n' ∧ Bd r ∧ val r = val (a.take i) * val b ∧
      E = [(46, .int .i64 (i : Int)), (45, .int .i64 (n : Int)), (44, .slice p n c), (0, .slice p n c), (1, .slice p' n' c'), (5, .slice (some ⟨bo, 0, none⟩) (n + n') (n + n'))] ∧
      U = U' ∧ M' = (bo, .arr ((r ++ List.replicate (n - i) 0).map dg), TU32) :: M ∧ m = n - i) (n0 := n)
    (E0 := [(46, .int .i64 ((0 : Nat) : Int)), (45, .int .i64 (n : Int)), (44, .slice p n c), (0, .slice p n c), (1, .slice p' n' c'), (5, .slice (some ⟨bo, 0, none⟩) (n + n') (n + n'))])
    ⟨rfl, rfl, rfl, rfl, rfl, rfl, trivial⟩ ⟨0, List.replicate n' 0, by omega, by simp, bd_rep _, by rw [val_replicate]; simp [val], rfl, rfl, by rw [List.replicate_append_replicate, Nat.sub_zero, Nat.add_comm], rfl⟩ ?_
  rintro m E U' M' ⟨i, r, hi, hr, hbr, hv, rfl, rfl, rfl, rfl⟩
  try refine run_s ?_
  refine st_dec rfl (fun h5 => ?_) (fun h5 => ?_)
  · obtain ⟨x, hx, hbx, hp1, hcx⟩ := ha.get (k := i) (by omega)
    replace hcx := fun G w hw => hcx G w (Mem.anti (M' := (bo, .arr ((r ++ List.replicate (n - i) 0).map dg), TU32) :: M) hw (ULe.refl _) (List.sublist_cons_self ..))
    try refine run_s ?_
    refine sl_y (yl_index1 sym rfl rfl rfl rfl rfl rfl (by omega) hp1) rfl rfl rfl rfl ?_; refine sl_y (yl_loadD sym rfl rfl rfl rfl hcx) rfl rfl rfl rfl ?_
    try refine run_s ?_
    have hq1 : (r.drop i).length = n' := by rw [List.length_drop, hr]; omega
    have hq2 : (r.take i).length = i := by rw [List.length_take, hr]; omega
    refine st_loop (fun m E U' M' => ∃ (j cy : Nat) (S post : List Nat), j ≤ n' ∧ cy < 4294967296 ∧ S.length = j ∧ Bd S ∧ (r.drop i).drop j = post ∧ val S + 4294967296 ^ j * cy = val ((r.drop i).take j) + x * val (b.take j) ∧
        E = [(53, .int .i64 (j : Int)), (52, .int .i64 (n' : Int)), (51, .slice p' n' c'), (8, .int .u64 (cy : Int)), (7, .int .u32 (x : Int)), (6, .int .i64 (i : Int)), (46, .int .i64 (i : Int)), (45, .int .i64 (n : Int)), (44, .slice p n c), (0, .slice p n c), (1, .slice p' n' c'), (5, .slice (some ⟨bo, 0, none⟩) (n + n') (n + n'))] ∧
        U = U' ∧ M' = (bo, .arr (((r.take i ++ S) ++ (post ++ List.replicate (n - i) 0)).map dg), TU32) :: M ∧ m = n' - j) (n0 := n')
      (E0 := [(53, .int .i64 ((0 : Nat) : Int)), (52, .int .i64 (n' : Int)), (51, .slice p' n' c'), (8, .int .u64 ((0 : Nat) : Int)), (7, .int .u32 (x : Int)), (6, .int .i64 (i : Int)), (46, .int .i64 (i : Int)), (45, .int .i64 (n : Int)), (44, .slice p n c), (0, .slice p n c), (1, .slice p' n' c'), (5, .slice (some ⟨bo, 0, none⟩) (n + n') (n + n'))])
      ⟨rfl, rfl, rfl, rfl, rfl, rfl, rfl, rfl, rfl, rfl, rfl, rfl, trivial⟩ ⟨0, 0, [], r.drop i, by omega, by omega, rfl, (by intro d hd; cases hd), rfl, by simp [val], rfl, rfl, by rw [List.append_nil, ← List.append_assoc, List.take_append_drop], rfl⟩ ?_
    rintro m E U' M' ⟨j, cy, S, post, hj, hcy, hS, hbS, hpost, hvS, rfl, rfl, rfl, rfl⟩
    try refine run_s ?_
    refine st_dec rfl (fun h8 => ?_) (fun h8 => ?_)
    · obtain ⟨y, hy, hby, hp2, hcy'⟩ := hb.get (k := j) (by omega)
      replace hcy' := fun G w hw => hcy' G w (Mem.anti (M' := (bo, .arr (((r.take i ++ S) ++ (post ++ List.replicate (n - i) 0)).map dg), TU32) :: M) hw (ULe.refl _) (List.sublist_cons_self ..))
      have hjl : j < (r.drop i).length := by omega
      obtain ⟨q, hq⟩ : ∃ q, (r.drop i)[j]? = some q := ⟨_, List.getElem?_eq_getElem hjl⟩
      have hbq : q < 4294967296 := bd_get (bd_drop hbr i) hq
      have hpq : post = q :: (r.drop i).drop (j + 1) := by
        obtain ⟨hl, he⟩ := List.getElem?_eq_some_iff.1 hq
        rw [← hpost, List.drop_eq_getElem_cons hl, he]
      have hlen : (r.take i ++ S).length = i + j := by rw [List.length_append, hq2, hS]
      have hget : ((r.take i ++ S) ++ (post ++ List.replicate (n - i) 0))[i + j]? = some q := by
        rw [hpq, List.getElem?_append_right (by omega), hlen, Nat.sub_self]; rfl
      have hm := mul_bound hbx hby
      have hm' : 0 ≤ (x : Int) * (y : Int) ∧ (x : Int) * (y : Int) ≤ 18446744065119617025 := by
        have : (x : Int) * (y : Int) = ((x * y : Nat) : Int) := by simp
        omega
      try refine run_s ?_
      refine sl_y (yl_index1 sym rfl rfl rfl rfl rfl rfl (by omega) hp2) rfl rfl rfl rfl ?_; refine sl_y (yl_loadD sym rfl rfl rfl rfl hcy') rfl rfl rfl rfl ?_
      try refine run_s ?_
      refine sl_y (yl_indexM (j := i + j) sym rfl rfl rfl rfl rfl (by omega) (by omega)) rfl rfl rfl rfl ?_
      refine sl_y (yl_loadMD 0 sym rfl rfl rfl rfl rfl (j := i + j) (by omega) hget) rfl rfl rfl rfl ?_
      try refine run_s ?_
      refine sl_y (yl_indexM (j := i + j) sym rfl rfl rfl rfl rfl (by omega) (by omega)) rfl rfl rfl rfl ?_
      refine sl_storeD 0 sym rfl rfl rfl (v := (x * y + q + cy) % 4294967296) (by simp) rfl rfl rfl (j := i + j) (by omega) (by rw [List.length_append, hlen, hpq]; simp) rfl rfl rfl ?_
      rw [hpq, List.cons_append, set_mid hlen]
      try refine run_s ?_
      have e2 : ((x : Int) * (y : Int) + (q : Int) + (cy : Int)) / 2 ^ 32 = (((x * y + q + cy) / 4294967296 : Nat) : Int) := by simp
      rw [e2]
      refine sk_again (E' := [(53, .int .i64 ((j : Int) + 1)), (52, .int .i64 (n' : Int)), (51, .slice p' n' c'), (8, .int .u64 (((x * y + q + cy) / 4294967296 : Nat) : Int)), (7, .int .u32 (x : Int)), (6, .int .i64 (i : Int)), (46, .int .i64 (i : Int)), (45, .int .i64 (n : Int)), (44, .slice p n c), (0, .slice p n c), (1, .slice p' n' c'), (5, .slice (some ⟨bo, 0, none⟩) (n + n') (n + n'))]) (m := n' - (j + 1))
        ⟨rfl, rfl, rfl, rfl, rfl, rfl, rfl, rfl, rfl, rfl, rfl, rfl, trivial⟩ (by omega) ⟨j + 1, (x * y + q + cy) / 4294967296, S ++ [(x * y + q + cy) % 4294967296], (r.drop i).drop (j + 1), by omega, by omega, by simp [hS], bd_snoc hbS (Nat.mod_lt _ (by omega)), rfl, ?_, rfl, rfl, ?_, rfl⟩
      · rw [val_snoc, hS, val_take_succ hq, val_take_succ hy, Nat.pow_succ]
        have e := Nat.mod_add_div (x * y + q + cy) 4294967296
        generalize (x * y + q + cy) % 4294967296 = s at *
        generalize (x * y + q + cy) / 4294967296 = t at *
        generalize 4294967296 ^ j = pw at *
        grind
      · simp only [List.append_assoc]; rfl
    · have : j = n' := by omega
      subst this
      have hlen : (r.take i ++ S).length = i + j := by rw [List.length_append, hq2, hS]
      have hpn : post = [] := by rw [← hpost]; exact List.drop_eq_nil_of_le (by omega)
      subst hpn
      have hrep : List.replicate (n - i) 0 = 0 :: List.replicate (n - (i + 1)) 0 := by
        rw [show n - i = (n - (i + 1)) + 1 by omega, List.replicate_succ]
      try refine run_s ?_
      refine sl_y (yl_indexM (j := i + j) sym rfl rfl rfl rfl rfl (by omega) (by omega)) rfl rfl rfl rfl ?_
      refine sl_storeD 0 sym rfl rfl rfl (v := cy) rfl rfl rfl rfl (j := i + j) (by omega) (by rw [List.length_append, hlen]; simp; omega) rfl rfl rfl ?_
      rw [List.nil_append, hrep, set_mid hlen]
      try refine run_s ?_
      refine sk_again (E' := [(46, .int .i64 ((i : Int) + 1)), (45, .int .i64 (n : Int)), (44, .slice p n c), (0, .slice p n c), (1, .slice p' j c'), (5, .slice (some ⟨bo, 0, none⟩) (n + j) (n + j))]) (m := n - (i + 1))
        ⟨rfl, rfl, rfl, rfl, rfl, rfl, trivial⟩ (by omega) ⟨i + 1, r.take i ++ S ++ [cy], by omega, by simp; omega, bd_snoc (bd_app (bd_take hbr i) hbS) hcy, ?_, rfl, rfl, rfl, rfl⟩
      rw [val_snoc, val_append, hlen, hq2, val_take_succ hx]
      have e1 := val_split r i (by omega)
      rw [take_all (by omega), take_all (by omega)] at hvS
      rw [Nat.pow_add]
      generalize 4294967296 ^ i = pw at *
      generalize 4294967296 ^ j = pj at *
      grind
  · have : i = n := by omega
    subst this
    try refine run_s ?_
    refine sk_ret [_] sym rfl (.cons (.tmp rfl) .nil) (ULe.refl _) (List.Sublist.refl _) (.inl rfl) ?_
    have ho := Own.row (b := bo) (n := i + n') (c := i + n') (r := r ++ List.replicate (i - i) 0) (Nat.le_refl _) (by simp [hr]) (by omega) (bd_app hbr (bd_rep _))
    rw [take_all (by simp [hr])] at ho
    refine ⟨_, _, _, _, rfl, ho, ?_, Nat.le_refl _, rfl⟩
    rw [val_app_rep, hv, take_all (by omega)]

end Go.Proofs.Ytlnmhjkagnfnaaa

/- Walks of bigint, 6: division by one digit, shifts. -/
namespace Go.Proofs.Ytlnmhjkagnfnaaa
open Go.Hp
variable {G : World} {U : UH} {M : MH}

theorem Div32_ct {hi lo y : Nat} (hlo : lo < 4294967296) (hy : y < 4294967296) (hlt : hi < y) :
    Ct Try.prog 96 [.int .u32 (hi : Int), .int .u32 (lo : Int), .int .u32 (y : Int)] G U M fun v U' D => v = .tuple #[.int .u32 (((hi * 4294967296 + lo) / y : Nat) : Int), .int .u32 (((hi * 4294967296 + lo) % y : Nat) : Int)] ∧ U = U' ∧ D = [] := by
  have hq : (hi * 4294967296 + lo) / y < 4294967296 := Nat.div_lt_of_lt_mul (by
    have : (hi + 1) * 4294967296 ≤ y * 4294967296 := Nat.mul_le_mul_right _ hlt
    omega)
  have hr : (hi * 4294967296 + lo) % y < y := Nat.mod_lt _ (by omega)
  generalize hQ : (hi * 4294967296 + lo) / y = Q at *
  generalize hR : (hi * 4294967296 + lo) % y = R at *
  refine ct_of_st Try.func96 rfl rfl rfl rfl ?_
  try refine run_s ?_
  refine sl_gdec rfl rfl (fun h0 => ?_) (fun h0 => absurd (show ((y : Int) ≠ 0) by omega) h0)
  try refine run_s ?_
  refine st_dec rfl (fun h1 => ?_) (fun h1 => ?_)
  · exfalso; omega
  try refine run_s ?_
  refine sl_y (yl_or32 (m := hi) (n := lo) rfl rfl rfl (by rw [wrap_u64]; omega) rfl (by omega) hlo) rfl rfl rfl rfl ?_
  try refine run_s ?_
  refine st_draw [0, 1, 2, 3, 4, 5, 6, 7, 8, 9, 10, 11] sym (by kernel_rfl) ?_
  try refine run_s ?_
  refine sl_y (yl_quoN (m := hi * 4294967296 + lo) (n := y) rfl rfl rfl rfl rfl (by simp only [kmax]; omega) (by omega) hQ) rfl rfl rfl rfl ?_
  try refine run_s ?_
  refine sl_y (yl_remN (m := hi * 4294967296 + lo) (n := y) rfl rfl rfl rfl rfl (by simp only [kmax]; omega) (by omega) hR) rfl rfl rfl rfl ?_
  try refine run_s ?_
  exact sk_ret [] sym rfl (.cons (.tmp rfl) (.cons (.tmp rfl) .nil)) (ULe.refl _) (List.Sublist.refl _) (.inl rfl) ⟨rfl, rfl, rfl⟩

theorem set_back {q : List Nat} {k x : Nat} : (List.replicate (k + 1) 0 ++ q).set k x = List.replicate k 0 ++ (x :: q) := by
  rw [List.replicate_succ', List.append_assoc]
  exact (set_mid (by simp)).trans (by simp)

theorem short_ct {p : Option Addr} {n c d : Nat} {a : List Nat} (ha : Dig U M p n c a) (hd0 : 0 < d) (hd : d < 4294967296) (hn : n ≤ 1099511627776) :
    Ct Try.prog 84 [.slice p n c, .int .u32 (d : Int)] G U M fun v U' D => ∃ q k cc l, v = .tuple #[.slice q k cc, .int .u32 ((val a % d : Nat) : Int)] ∧ Own D q k cc l ∧ val l = val a / d ∧ k = n ∧ U = U' := by
  have hl1 := ha.len
  have h3 := ha.capm
  have h4 := ha.cap
  refine ct_of_st Try.func84 rfl rfl rfl rfl ?_
  try refine run_s ?_
  refine sl_make (m := n) (n := n) sym rfl rfl rfl rfl rfl rfl rfl rfl rfl (Nat.le_refl _) (by omega) (by omega) rfl rfl rfl rfl (fun bo => ?_)
  rw [dg_rep]
  try refine run_s ?_
  refine st_loop (fun m E U' M' => ∃ (k r : Nat) (q : List Nat), k ≤ n ∧ r < d ∧ q.length = n - k ∧ Bd q ∧ val q * d + r = val (a.drop k) ∧
      E = [(8, .int .i64 ((k : Int) - 1)), (0, .slice p n c), (1, .int .u32 (d : Int)), (6, .slice (some ⟨bo, 0, none⟩) n n), (7, .int .u32 (r : Int))] ∧
      U = U' ∧ M' = (bo, .arr ((List.replicate k 0 ++ q).map dg), TU32) :: M ∧ k = m) (n0 := n)
    (E0 := [(8, .int .i64 ((n : Int) - 1)), (0, .slice p n c), (1, .int .u32 (d : Int)), (6, .slice (some ⟨bo, 0, none⟩) n n), (7, .int .u32 ((0 : Nat) : Int))])
    ⟨rfl, rfl, rfl, rfl, rfl, trivial⟩ ⟨n, 0, [], by omega, by omega, by simp, (by intro d hd; cases hd), by rw [List.drop_of_length_le (by omega)]; simp [val], rfl, rfl, by rw [List.append_nil], rfl⟩ ?_
  rintro m E U' M' ⟨k, r, q, hk, hr, hq, hbq, hv, rfl, rfl, rfl, rfl⟩
  try refine run_s ?_
  refine st_dec rfl (fun h5 => ?_) (fun h5 => ?_)
  · have hk1 : (k : Int) - 1 = ((k - 1 : Nat) : Int) := by omega
    obtain ⟨x, hx, hbx, hp1, hcx⟩ := ha.get (k := k - 1) (by omega)
    replace hcx := fun G w hw => hcx G w (Mem.anti (M' := (bo, .arr ((List.replicate k 0 ++ q).map dg), TU32) :: M) hw (ULe.refl _) (List.sublist_cons_self ..))
    try refine run_s ?_
    refine sl_y (yl_index1 sym rfl rfl rfl rfl rfl (hk1) (by first | omega | assumption) hp1) rfl rfl rfl rfl ?_; refine sl_y (yl_loadD sym rfl rfl rfl rfl hcx) rfl rfl rfl rfl ?_
    try refine run_s ?_
    refine sl_call rfl rfl rfl rfl rfl rfl (fun _ => Div32_ct hbx hd hr) ?_
    rintro v U' D hU ⟨rfl, rfl, rfl⟩
    try refine run_s ?_
    refine sl_y (yl_indexM (j := k - 1) sym rfl rfl rfl rfl rfl hk1 (by omega)) rfl rfl rfl rfl ?_
    refine sl_storeD 0 sym rfl rfl rfl rfl rfl rfl rfl (j := k - 1) (by omega) (by simp only [List.length_append, List.length_replicate]; omega) rfl rfl rfl ?_
    have e : List.replicate k 0 ++ q = List.replicate (k - 1 + 1) 0 ++ q := by rw [show k - 1 + 1 = k by omega]
    rw [e, set_back]
    try refine run_s ?_
    have hql : (r * 4294967296 + x) / d < 4294967296 := Nat.div_lt_of_lt_mul (by
      have : (r + 1) * 4294967296 ≤ d * 4294967296 := Nat.mul_le_mul_right _ hr
      omega)
    rw [hk1]
    refine sk_again (E' := [(8, .int .i64 (((k - 1 : Nat) : Int) - 1)), (0, .slice p n c), (1, .int .u32 (d : Int)), (6, .slice (some ⟨bo, 0, none⟩) n n), (7, .int .u32 (((r * 4294967296 + x) % d : Nat) : Int))]) (m := k - 1)
      ⟨rfl, rfl, rfl, rfl, rfl, trivial⟩ (by omega) ⟨k - 1, (r * 4294967296 + x) % d, (r * 4294967296 + x) / d :: q, by omega, Nat.mod_lt _ hd0, by simp [hq]; omega, ?_, ?_, rfl, rfl, rfl, rfl⟩
    · intro y hy; rcases List.mem_cons.1 hy with rfl | hy
      · exact hql
      · exact hbq y hy
    · obtain ⟨hl, he⟩ := List.getElem?_eq_some_iff.1 hx
      rw [List.drop_eq_getElem_cons hl, he, show k - 1 + 1 = k by omega]
      have e2 := Nat.mod_add_div (r * 4294967296 + x) d
      simp only [val, ← hv]
      generalize (r * 4294967296 + x) % d = s at *
      generalize (r * 4294967296 + x) / d = t at *
      grind
  · have : k = 0 := by omega
    subst this
    try refine run_s ?_
    refine sk_ret [_] sym rfl (.cons (.tmp rfl) (.cons (.tmp rfl) .nil)) (ULe.refl _) (List.Sublist.refl _) (.inl rfl) ?_
    have ho := Own.row (b := bo) (n := n) (c := n) (r := List.replicate 0 0 ++ q) (Nat.le_refl _) (by simpa using hq) (by omega) (by simpa using hbq)
    rw [take_all (by simp [hq])] at ho
    simp only [List.drop_zero] at hv
    have e1 : val a % d = r := by rw [← hv, Nat.mul_comm, Nat.mul_add_mod, Nat.mod_eq_of_lt hr]
    have e2 : val a / d = val q := by rw [← hv, Nat.mul_comm, Nat.mul_add_div hd0, Nat.div_eq_of_lt hr, Nat.add_zero]
    refine ⟨_, _, _, _, ?_, ho, ?_, rfl, rfl⟩
    · rw [e1]; rfl
    · rw [e2]; simp

end Go.Proofs.Ytlnmhjkagnfnaaa

/- Walks of bigint, 7: shifts. -/
namespace Go.Proofs.Ytlnmhjkagnfnaaa
open Go.Hp
variable {G : World} {U : UH} {M : MH}
section
variable {P : Program} {T : TT} {N : Nat} {E : Env} {o : Oper} {x y : Operand} {ty yt : Nat}
theorem yl_or32N {a b : Int} {m n : Nat} (ho : o.op = .binOp .or ty x y yt) (hx : ev E x = some (.int .u32 a)) (hy : ev E y = some (.int .u32 b)) (ha : a = (m : Int)) (hb : b = (n : Int)) (hm : m < 4294967296) (hn : n < 4294967296) {r : Nat} (hr : m ||| n = r) :
    Yl P N G o E U M (.int .u32 (r : Int)) := by
  subst ha hb hr
  have h := yl_or32b (P := P) (N := N) (G := G) (U := U) (M := M) (A := BitVec.ofNat 32 m) (B := BitVec.ofNat 32 n) ho (by rw [hx, BitVec.toNat_ofNat, Nat.mod_eq_of_lt hm]) (by rw [hy, BitVec.toNat_ofNat, Nat.mod_eq_of_lt hn])
  rwa [BitVec.toNat_or, BitVec.toNat_ofNat, BitVec.toNat_ofNat, Nat.mod_eq_of_lt hm, Nat.mod_eq_of_lt hn] at h
theorem yl_shlN {k' : IntKind} {a b : Int} {m n : Nat} (ho : o.op = .binOp .shl ty x y yt) (hx : ev E x = some (.int .u64 a)) (hy : ev E y = some (.int k' b)) (ha : a = (m : Int)) (hb : b = (n : Int)) (h : n ≤ 64) {r : Nat} (hr : m * 2 ^ n = r) (hlt : r < 18446744073709551616) :
    Yl P N G o E U M (.int .u64 (r : Int)) := by
  subst ha
  have h1 := yl_shl (P := P) (N := N) (G := G) (U := U) (M := M) ho hx hy hb (by simpa [IntKind.bits] using h)
  have e : IntKind.u64.wrap ((m : Int) * 2 ^ n) = (r : Int) := by
    have : (m : Int) * 2 ^ n = (r : Int) := by rw [← hr]; simp
    rw [this, IntWalk.u64_in _ (by omega)]
  rwa [e] at h1
theorem yl_shrN {k k' : IntKind} {a b : Int} {m n : Nat} (ho : o.op = .binOp .shr ty x y yt) (hx : ev E x = some (.int k a)) (hy : ev E y = some (.int k' b)) (ha : a = (m : Int)) (hb : b = (n : Int)) (h : n ≤ k.bits) {r : Nat} (hr : m / 2 ^ n = r) :
    Yl P N G o E U M (.int k (r : Int)) := by
  subst ha
  have h1 := yl_shr (P := P) (N := N) (G := G) (U := U) (M := M) ho hx hy hb h
  have e : (m : Int) / 2 ^ n = (r : Int) := by rw [← hr]; simp
  rwa [e] at h1
end

theorem or_add {t h s : Nat} (ht : t < 2 ^ s) : t ||| h * 2 ^ s = h * 2 ^ s + t := by
  have := Nat.shiftLeft_add_eq_or_of_lt (i := s) (b := t) ht h
  rw [Nat.shiftLeft_eq] at this
  rw [Nat.or_comm]; exact this.symm

theorem pow_facts {s : Nat} (hs : s < 32) : ∃ w w' : Nat, w = 2 ^ s ∧ w * w' = 4294967296 ∧ 0 < w ∧ 0 < w' ∧ w ≤ 2147483648 := by
  refine ⟨2 ^ s, 2 ^ (32 - s), rfl, ?_, Nat.pow_pos (by omega), Nat.pow_pos (by omega), ?_⟩
  · rw [← Nat.pow_add, show s + (32 - s) = 32 by omega]
  · calc 2 ^ s ≤ 2 ^ 31 := Nat.pow_le_pow_right (by omega) (by omega)
      _ = 2147483648 := by decide

theorem shift_step {x w w' : Nat} (hw : w * w' = 4294967296) (hx : x < 4294967296) (h0 : 0 < w) : x * w % 4294967296 = x % w' * w ∧ x * w / 4294967296 < w ∧ x * w < 4294967296 * w := by
  refine ⟨?_, ?_, Nat.mul_lt_mul_of_pos_right hx h0⟩
  · rw [← hw, Nat.mul_comm w w', Nat.mul_mod_mul_right]
  · exact Nat.div_lt_of_lt_mul (by rw [Nat.mul_comm x w, Nat.mul_comm _ w]; exact Nat.mul_lt_mul_of_pos_left hx h0)

theorem shifted_ct {p : Option Addr} {n c s : Nat} {a : List Nat} (ha : Dig U M p n c a) (hs : s < 32) (hn : n ≤ 1099511627776) :
    Ct Try.prog 86 [.slice p n c, .int .u64 (s : Int)] G U M fun v U' D => ∃ bo l, v = .slice (some ⟨bo, 0, none⟩) (n + 1) (n + 1) ∧ D = [(bo, .arr (l.map dg), TU32)] ∧ l.length = n + 1 ∧ Bd l ∧ val l = val a * 2 ^ s ∧ U = U' := by
  have hl1 := ha.len
  have h3 := ha.capm
  have h4 := ha.cap
  obtain ⟨w, w', hw, hww, hw0, hw0', hw31⟩ := pow_facts hs
  refine ct_of_st Try.func86 rfl rfl rfl rfl ?_
  try refine run_s ?_
  refine sl_make (m := n + 1) (n := n + 1) sym rfl rfl rfl rfl rfl (by omega) (by omega) rfl rfl (Nat.le_refl _) (by omega) (by omega) rfl rfl rfl rfl (fun bo => ?_)
  rw [dg_rep]
  try refine run_s ?_
  refine st_loop (fun m E U' M' => ∃ (i t : Nat) (r : List Nat), i ≤ n ∧ t < w ∧ r.length = i ∧ Bd r ∧ val r + 4294967296 ^ i * t = val (a.take i) * w ∧
      E = [(15, .int .i64 (i : Int)), (14, .int .i64 (n : Int)), (13, .slice p n c), (0, .slice p n c), (1, .int .u64 (s : Int)), (5, .slice (some ⟨bo, 0, none⟩) (n + 1) (n + 1))] ∧
      U = U' ∧ M' = (bo, .arr ((r ++ t :: List.replicate (n - i) 0).map dg), TU32) :: M ∧ m = n - i) (n0 := n)
    (E0 := [(15, .int .i64 ((0 : Nat) : Int)), (14, .int .i64 (n : Int)), (13, .slice p n c), (0, .slice p n c), (1, .int .u64 (s : Int)), (5, .slice (some ⟨bo, 0, none⟩) (n + 1) (n + 1))])
    ⟨rfl, rfl, rfl, rfl, rfl, rfl, trivial⟩ ⟨0, 0, [], by omega, by omega, rfl, (by intro d hd; cases hd), by simp [val], rfl, rfl, by rw [List.replicate_succ]; rfl, rfl⟩ ?_
  rintro m E U' M' ⟨i, t, r, hi, ht, hr, hbr, hv, rfl, rfl, rfl, rfl⟩
  try refine run_s ?_
  refine st_dec rfl (fun h5 => ?_) (fun h5 => ?_)
  · obtain ⟨x, hx, hbx, hp1, hcx⟩ := ha.get (k := i) (by omega)
    replace hcx := fun G w hw => hcx G w (Mem.anti (M' := (bo, .arr ((r ++ t :: List.replicate (n - i) 0).map dg), TU32) :: M) hw (ULe.refl _) (List.sublist_cons_self ..))
    obtain ⟨g1, g2, g3⟩ := shift_step hww hbx hw0
    have hrep : List.replicate (n - i) 0 = 0 :: List.replicate (n - (i + 1)) 0 := by
      rw [show n - i = (n - (i + 1)) + 1 by omega, List.replicate_succ]
    have hget : (r ++ t :: List.replicate (n - i) 0)[i]? = some t := by
      rw [List.getElem?_append_right (by omega), hr, Nat.sub_self]; rfl
    have hlow : x % w' * w < 4294967296 := by rw [← g1]; exact Nat.mod_lt _ (by omega)
    have hor : t ||| x % w' * w = x % w' * w + t := by rw [hw] at ht ⊢; exact or_add ht
    have hsum : x % w' * w + t < 4294967296 := by
      have h1 : x % w' + 1 ≤ w' := Nat.mod_lt _ hw0'
      have h2 : (x % w' + 1) * w ≤ w' * w := Nat.mul_le_mul_right _ h1
      rw [Nat.mul_comm w' w, hww, Nat.add_mul] at h2
      omega
    have e := Nat.mod_add_div (x * w) 4294967296
    generalize hX : x * w = X at *
    generalize hlo : x % w' * w = lo at *
    generalize htp : X / 4294967296 = tp at *
    try refine run_s ?_
    refine sl_y (yl_index1 sym rfl rfl rfl rfl rfl rfl (by omega) hp1) rfl rfl rfl rfl ?_; refine sl_y (yl_loadD sym rfl rfl rfl rfl hcx) rfl rfl rfl rfl ?_
    try refine run_s ?_
    refine sl_y (yl_shlN (m := x) (n := s) rfl rfl rfl rfl rfl (by omega) (r := X) (by rw [← hX, hw]) (by omega)) rfl rfl rfl rfl ?_
    try refine run_s ?_
    refine sl_y (yl_indexM (j := i) sym rfl rfl rfl rfl rfl rfl (by omega)) rfl rfl rfl rfl ?_
    refine sl_y (yl_loadMD 0 sym rfl rfl rfl rfl rfl (j := i) (by omega) hget) rfl rfl rfl rfl ?_
    try refine run_s ?_
    refine sl_y (yl_or32N (m := t) (n := lo) rfl rfl rfl rfl (by omega) (by omega) (by omega) hor) rfl rfl rfl rfl ?_
    refine sl_y (yl_indexM (j := i) sym rfl rfl rfl rfl rfl rfl (by omega)) rfl rfl rfl rfl ?_
    refine sl_storeD 0 sym rfl rfl rfl rfl rfl rfl rfl (j := i) (by omega) (by simp; omega) rfl rfl rfl ?_
    rw [set_mid hr, hrep]
    try refine run_s ?_
    refine sl_y (yl_indexM (j := i + 1) sym rfl rfl rfl rfl rfl rfl (by omega)) rfl rfl rfl rfl ?_
    refine sl_storeD 0 sym rfl rfl rfl (v := tp) (by omega) rfl rfl rfl (j := i + 1) (by omega) (by simp; omega) rfl rfl rfl ?_
    rw [set_mid (by simp [hr])]
    try refine run_s ?_
    refine sk_again (E' := [(15, .int .i64 ((i : Int) + 1)), (14, .int .i64 (n : Int)), (13, .slice p n c), (0, .slice p n c), (1, .int .u64 (s : Int)), (5, .slice (some ⟨bo, 0, none⟩) (n + 1) (n + 1))]) (m := n - (i + 1))
      ⟨rfl, rfl, rfl, rfl, rfl, rfl, trivial⟩ (by omega) ⟨i + 1, tp, r ++ [lo + t], by omega, g2, by simp [hr], bd_snoc hbr hsum, ?_, rfl, rfl, by rw [List.append_assoc _ [tp]]; rfl, rfl⟩
    rw [val_snoc, hr, val_take_succ hx, Nat.pow_succ, Nat.add_mul, ← hv, Nat.mul_assoc (4294967296 ^ i) x w, hX]
    generalize 4294967296 ^ i = pw at *
    grind
  · have : i = n := by omega
    subst this
    try refine run_s ?_
    refine sk_ret [_] sym rfl (.cons (.tmp rfl) .nil) (ULe.refl _) (List.Sublist.refl _) (.inl rfl) ?_
    rw [show List.replicate (i - i) 0 = [] by simp]
    refine ⟨bo, r ++ [t], rfl, rfl, by simp [hr], bd_snoc hbr (by omega), ?_, rfl⟩
    rw [val_snoc, hr, hv, take_all (by omega), hw]

end Go.Proofs.Ytlnmhjkagnfnaaa

/- Walks of bigint, 8: digits moved to the right. -/
namespace Go.Proofs.Ytlnmhjkagnfnaaa
open Go.Hp
variable {G : World} {U : UH} {M : MH}

theorem unshift_step {x y w w' : Nat} (hww : w * w' = 4294967296) (hx : x < 4294967296) (h0 : 0 < w) (_h0' : 0 < w') :
    (y * 4294967296 + x) / w % 4294967296 = y % w * w' + x / w ∧ y % w * w' + x / w < 4294967296 ∧ w * (y % w * w' + x / w) + x % w = x + 4294967296 * (y % w) := by
  have h1 : (y * 4294967296 + x) / w = y * w' + x / w := by
    rw [← hww, show y * (w * w') + x = w * (y * w') + x by rw [Nat.mul_left_comm], Nat.mul_add_div h0]
  have h2 : x / w < w' := Nat.div_lt_of_lt_mul (by rw [hww]; exact hx)
  have h3 : y % w < w := Nat.mod_lt _ h0
  have h4 : y % w * w' + x / w < 4294967296 := by
    have : (y % w + 1) * w' ≤ w * w' := Nat.mul_le_mul_right _ h3
    rw [hww, Nat.add_mul] at this
    omega
  refine ⟨?_, h4, ?_⟩
  · rw [h1]
    have e : y * w' = y % w * w' + 4294967296 * (y / w) := by
      have := Nat.mod_add_div y w
      calc y * w' = (y % w + w * (y / w)) * w' := by rw [this]
        _ = y % w * w' + w * w' * (y / w) := by rw [Nat.add_mul]; congr 1; rw [Nat.mul_assoc, Nat.mul_comm (y / w), ← Nat.mul_assoc]
        _ = _ := by rw [hww]
    rw [e, show y % w * w' + 4294967296 * (y / w) + x / w = (y % w * w' + x / w) + 4294967296 * (y / w) by omega, Nat.add_mul_mod_self_left, Nat.mod_eq_of_lt h4]
  · have e := Nat.mod_add_div x w
    rw [Nat.mul_add]
    have : w * (y % w * w') = 4294967296 * (y % w) := by rw [Nat.mul_left_comm, hww, Nat.mul_comm]
    omega

theorem unshifted_ct {p : Option Addr} {n c s : Nat} {a : List Nat} (ha : Dig U M p n c a) (hs : s < 32) (hn : n ≤ 1099511627776) :
    Ct Try.prog 88 [.slice p n c, .int .u64 (s : Int)] G U M fun v U' D => ∃ q k cc l, v = .slice q k cc ∧ Own D q k cc l ∧ val l = val a / 2 ^ s ∧ k = n ∧ U = U' := by
  have hl1 := ha.len
  have h3 := ha.capm
  have h4 := ha.cap
  obtain ⟨w, w', hw, hww, hw0, hw0', hw31⟩ := pow_facts hs
  refine ct_of_st Try.func88 rfl rfl rfl rfl ?_
  try refine run_s ?_
  refine sl_make (m := n) (n := n) sym rfl rfl rfl rfl rfl rfl rfl rfl rfl (Nat.le_refl _) (by omega) (by omega) rfl rfl rfl rfl (fun bo => ?_)
  rw [dg_rep]
  try refine run_s ?_
  refine st_loop (fun m E U' M' => ∃ (i e : Nat) (r : List Nat), i ≤ n ∧ r.length = i ∧ Bd r ∧ e = a.getD i 0 % w ∧ w * val r + a.getD 0 0 % w = val (a.take i) + 4294967296 ^ i * e ∧
      E = [(13, .int .i64 (i : Int)), (12, .int .i64 (n : Int)), (0, .slice p n c), (1, .int .u64 (s : Int)), (5, .slice (some ⟨bo, 0, none⟩) n n)] ∧
      U = U' ∧ M' = (bo, .arr ((r ++ List.replicate (n - i) 0).map dg), TU32) :: M ∧ m = n - i) (n0 := n)
    (E0 := [(13, .int .i64 ((0 : Nat) : Int)), (12, .int .i64 (n : Int)), (0, .slice p n c), (1, .int .u64 (s : Int)), (5, .slice (some ⟨bo, 0, none⟩) n n)])
    ⟨rfl, rfl, rfl, rfl, rfl, trivial⟩ ⟨0, a.getD 0 0 % w, [], by omega, rfl, (by intro d hd; cases hd), rfl, by simp [val], rfl, rfl, rfl, rfl⟩ ?_
  rintro m E U' M' ⟨i, e, r, hi, hr, hbr, he, hv, rfl, rfl, rfl, rfl⟩
  try refine run_s ?_
  refine st_dec rfl (fun h5 => ?_) (fun h5 => ?_)
  · obtain ⟨x, hx, hbx, hp1, hcx⟩ := ha.get (k := i) (by omega)
    replace hcx := fun G w hw => hcx G w (Mem.anti (M' := (bo, .arr ((r ++ List.replicate (n - i) 0).map dg), TU32) :: M) hw (ULe.refl _) (List.sublist_cons_self ..))
    try refine run_s ?_
    refine sl_y (yl_index1 sym rfl rfl rfl rfl rfl rfl (by omega) hp1) rfl rfl rfl rfl ?_; refine sl_y (yl_loadD sym rfl rfl rfl rfl hcx) rfl rfl rfl rfl ?_
    try refine run_o ?_
    refine st_seq_cut (fun E U' M' => ∃ y : Nat, y < 4294967296 ∧ a.getD (i + 1) 0 = y ∧
      E = [(7, .int .u64 ((y * 4294967296 + x : Nat) : Int)), (6, .int .i64 (i : Int)), (13, .int .i64 (i : Int)), (12, .int .i64 (n : Int)), (0, .slice p n c), (1, .int .u64 (s : Int)), (5, .slice (some ⟨bo, 0, none⟩) n n)] ∧
      U = U' ∧ M' = (bo, .arr ((r ++ List.replicate (n - i) 0).map dg), TU32) :: M) ?_ ?_
    · try refine run_s ?_
      refine st_dec rfl (fun h8 => ?_) (fun h8 => ?_)
      · obtain ⟨y, hy, hby, hp2, hcy⟩ := ha.get (k := i + 1) (by omega)
        replace hcy := fun G w hw => hcy G w (Mem.anti (M' := (bo, .arr ((r ++ List.replicate (n - i) 0).map dg), TU32) :: M) hw (ULe.refl _) (List.sublist_cons_self ..))
        try refine run_s ?_
        refine sl_y (yl_index1 sym rfl rfl rfl rfl rfl ((show (i : Int) + 1 = ((i + 1 : Nat) : Int) by omega)) (by first | omega | assumption) hp2) rfl rfl rfl rfl ?_; refine sl_y (yl_loadD sym rfl rfl rfl rfl hcy) rfl rfl rfl rfl ?_
        try refine run_s ?_
        refine sl_y (yl_orlo (m := y) (n := x) rfl rfl rfl rfl (by rw [wrap_u64]; omega) hby hbx) rfl rfl rfl rfl ?_
        try refine run_s ?_
        exact sk_cut (E' := [(7, .int .u64 ((y * 4294967296 + x : Nat) : Int)), (6, .int .i64 (i : Int)), (13, .int .i64 (i : Int)), (12, .int .i64 (n : Int)), (0, .slice p n c), (1, .int .u64 (s : Int)), (5, .slice (some ⟨bo, 0, none⟩) n n)])
          ⟨rfl, rfl, rfl, rfl, rfl, rfl, rfl, trivial⟩ ⟨y, hby, getD_of hy, rfl, rfl, rfl⟩
      · try refine run_s ?_
        refine sk_cut (E' := [(7, .int .u64 (x : Int)), (6, .int .i64 (i : Int)), (13, .int .i64 (i : Int)), (12, .int .i64 (n : Int)), (0, .slice p n c), (1, .int .u64 (s : Int)), (5, .slice (some ⟨bo, 0, none⟩) n n)])
          ⟨rfl, rfl, rfl, rfl, rfl, rfl, rfl, trivial⟩ ⟨0, by omega, ?_, by simp only [Nat.zero_mul, Nat.zero_add], rfl, rfl⟩
        rw [List.getD, List.getElem?_eq_none (by omega)]; rfl
    · rintro E U' M' ⟨y, hby, hgy, rfl, rfl, rfl⟩
      obtain ⟨g1, g2, g3⟩ := unshift_step (y := y) hww hbx hw0 hw0'
      have hlt : y * 4294967296 + x < 18446744073709551616 := by omega
      rw [getD_of hx] at he
      generalize hX : y * 4294967296 + x = X at *
      generalize hlo : y % w * w' + x / w = lo at *
      generalize hT : X / w = T at *
      try refine run_s ?_
      refine sl_y (yl_shrN (k := .u64) (m := X) (n := s) rfl rfl rfl rfl rfl (by simp only [IntKind.bits]; omega) (r := T) (by rw [← hT, hw])) rfl rfl rfl rfl ?_
      try refine run_s ?_
      refine sl_y (yl_indexM (j := i) sym rfl rfl rfl rfl rfl rfl (by omega)) rfl rfl rfl rfl ?_
      refine sl_storeD 0 sym rfl rfl rfl (v := lo) (by omega) rfl rfl rfl (j := i) (by omega) (by simp only [List.length_append, List.length_replicate]; omega) rfl rfl rfl ?_
      rw [set_at hr (by omega)]
      try refine run_s ?_
      refine sk_again (E' := [(13, .int .i64 ((i : Int) + 1)), (12, .int .i64 (n : Int)), (0, .slice p n c), (1, .int .u64 (s : Int)), (5, .slice (some ⟨bo, 0, none⟩) n n)]) (m := n - (i + 1))
        ⟨rfl, rfl, rfl, rfl, rfl, trivial⟩ (by omega) ⟨i + 1, y % w, r ++ [lo], by omega, by simp [hr], bd_snoc hbr g2, by rw [hgy], ?_, rfl, rfl, rfl, rfl⟩
      rw [val_snoc, hr, val_take_succ hx, Nat.mul_add, Nat.pow_succ]
      rw [he] at hv
      generalize 4294967296 ^ i = pw at *
      generalize w * val r = A at *
      grind
  · have : i = n := by omega
    subst this
    try refine run_s ?_
    refine sk_ret [_] sym rfl (.cons (.tmp rfl) .nil) (ULe.refl _) (List.Sublist.refl _) (.inl rfl) ?_
    rw [show List.replicate (i - i) 0 = [] by simp, List.append_nil]
    have ho := Own.row (b := bo) (n := i) (c := i) (r := r) (Nat.le_refl _) (by simp [hr]) (by omega) hbr
    rw [take_all (by omega)] at ho
    refine ⟨_, _, _, _, rfl, ho, ?_, rfl, rfl⟩
    have e0 : e = 0 := by rw [he, List.getD, List.getElem?_eq_none (by omega)]; exact Nat.zero_mod _
    rw [e0, Nat.mul_zero, Nat.add_zero, take_all (by omega)] at hv
    rw [← hv, ← hw, Nat.mul_add_div hw0, Nat.div_eq_of_lt (Nat.mod_lt _ hw0), Nat.add_zero]

end Go.Proofs.Ytlnmhjkagnfnaaa

/- Walks of bigint, 9: one digit of a quotient. -/
namespace Go.Proofs.Ytlnmhjkagnfnaaa
open Go.Hp
variable {G : World} {U : UH} {M : MH}

theorem row_get {pre ul suf : List Nat} {j k d : Nat} (hp : pre.length = j) (h : ul[k]? = some d) : (pre ++ ul ++ suf)[j + k]? = some d := by
  have := (List.getElem?_eq_some_iff.1 h).1
  rw [List.append_assoc, List.getElem?_append_right (by omega), hp, Nat.add_sub_cancel_left, List.getElem?_append_left this, h]

theorem row_set {pre D R suf : List Nat} {j i x d : Nat} (hp : pre.length = j) (hD : D.length = i) : (pre ++ (D ++ x :: R) ++ suf).set (j + i) d = pre ++ ((D ++ [d]) ++ R) ++ suf := by
  rw [List.append_assoc, List.set_append_right _ _ (by omega), hp, Nat.add_sub_cancel_left, List.append_assoc, List.cons_append, set_mid hD]
  simp

theorem Sub32_ex {x y b : Nat} (hx : x < 4294967296) (hy : y < 4294967296) (hb : b ≤ 1) :
    Ct Try.prog 90 [.int .u32 (x : Int), .int .u32 (y : Int), .int .u32 (b : Int)] G U M fun v U' D => ∃ d b' : Nat, v = .tuple #[.int .u32 (d : Int), .int .u32 (b' : Int)] ∧ d < 4294967296 ∧ b' ≤ 1 ∧ d + y + b = x + 4294967296 * b' ∧ U = U' ∧ D = [] :=
  (Sub32_ct hx hy hb).mono fun v U' D _ ⟨h1, h2, h3⟩ => ⟨_, _, h1, Nat.mod_lt _ (by omega), by split <;> omega, by split <;> omega, h2, h3⟩
theorem Add32_ex {x y b : Nat} (hx : x < 4294967296) (hy : y < 4294967296) (hb : b ≤ 1) :
    Ct Try.prog 89 [.int .u32 (x : Int), .int .u32 (y : Int), .int .u32 (b : Int)] G U M fun v U' D => ∃ d b' : Nat, v = .tuple #[.int .u32 (d : Int), .int .u32 (b' : Int)] ∧ d < 4294967296 ∧ b' ≤ 1 ∧ d + 4294967296 * b' = x + y + b ∧ U = U' ∧ D = [] :=
  (Add32_ct hx hy (by omega)).mono fun v U' D _ ⟨h1, h2, h3⟩ => ⟨_, _, h1, Nat.mod_lt _ (by omega), by omega, by omega, h2, h3⟩

theorem sub_last {D gv u pw cy bo d u0 b' : Nat} (h : D + gv = u + pw * (cy + bo)) (hd : d + cy + bo = u0 + 4294967296 * b') : D + pw * d + gv = u + pw * u0 + pw * 4294967296 * b' := by
  have e : pw * (d + cy + bo) = pw * (u0 + 4294967296 * b') := by rw [hd]
  simp only [Nat.mul_add, Nat.mul_assoc] at *
  omega
theorem wrap_eq {D R pw s : Nat} (h : D + pw * s = R + pw * 4294967296) (hD : D < pw) (hR : R < pw) : s = 4294967296 ∧ D = R := by
  have : s = 4294967296 := by
    rcases Nat.lt_trichotomy s 4294967296 with h1 | h1 | h1
    · have := Nat.mul_le_mul_left pw (show s + 1 ≤ 4294967296 from h1)
      rw [Nat.mul_add] at this
      omega
    · exact h1
    · have := Nat.mul_le_mul_left pw (show 4294967296 + 1 ≤ s from h1)
      rw [Nat.mul_add] at this
      omega
  subst this
  exact ⟨rfl, by omega⟩

theorem val_top2 {l : List Nat} {n v2 v1 : Nat} (h2 : l[n]? = some v2) (h1 : l[n + 1]? = some v1) : val (l.take (n + 2)) = val (l.take n) + 4294967296 ^ n * (v2 + 4294967296 * v1) := by
  rw [show n + 2 = (n + 1) + 1 by omega, val_take_succ h1, val_take_succ h2, Nat.pow_succ, Nat.mul_add, Nat.mul_assoc]
  omega
theorem val_top3 {l : List Nat} {n u2 u1 u0 : Nat} (h2 : l[n]? = some u2) (h1 : l[n + 1]? = some u1) (h0 : l[n + 2]? = some u0) : val (l.take (n + 3)) = val (l.take n) + 4294967296 ^ n * (u2 + 4294967296 * (u0 * 4294967296 + u1)) := by
  rw [show n + 3 = (n + 2) + 1 by omega, val_take_succ h0, val_top2 h2 h1, Nat.pow_add, show 4294967296 ^ 2 = 4294967296 * 4294967296 by decide, Nat.mul_assoc (4294967296 ^ n), Nat.add_assoc, ← Nat.mul_add]
  congr 2
  omega

set_option maxHeartbeats 4000000 in
theorem digit_ct {b j0 c n cv : Nat} {pv : Option Addr} {pre ul suf vl : List Nat} (hv : Dig U M pv (n + 2) cv vl) (hn : n ≤ 1099511627776) (hpre : pre.length = j0) (hul : ul.length = n + 3) (hub : Bd ul) (_hj0 : j0 ≤ 1099511627777)
    (hlt : val ul < val vl * 4294967296) (htop : 2147483648 ≤ vl.getD (n + 1) 0) :
    Cx Try.prog 87 [.slice (some ⟨b, j0, none⟩) (n + 3) c, .slice pv (n + 2) cv] G U ((b, .arr ((pre ++ ul ++ suf).map dg), TU32) :: M) fun v U' M' =>
      v = .int .u32 ((val ul / val vl : Nat) : Int) ∧ U = U' ∧ ∃ ul', ul'.length = n + 3 ∧ Bd ul' ∧ val ul' = val ul % val vl ∧ M' = (b, .arr ((pre ++ ul' ++ suf).map dg), TU32) :: M := by
  have hl1 := hv.len
  have h3 := hv.capm
  have h4 := hv.cap
  obtain ⟨v1, hv1, hbv1, hpv1, hcv1⟩ := hv.get (k := n + 1) (by omega)
  obtain ⟨v2, hv2, hbv2, hpv2, hcv2⟩ := hv.get (k := n) (by omega)
  rw [getD_of hv1] at htop
  obtain ⟨u0, hu0⟩ : ∃ d, ul[n + 2]? = some d := ⟨_, List.getElem?_eq_getElem (by omega)⟩
  obtain ⟨u1, hu1⟩ : ∃ d, ul[n + 1]? = some d := ⟨_, List.getElem?_eq_getElem (by omega)⟩
  obtain ⟨u2, hu2⟩ : ∃ d, ul[n]? = some d := ⟨_, List.getElem?_eq_getElem (by omega)⟩
  have hbu0 := bd_get hub hu0
  have hbu1 := bd_get hub hu1
  have hbu2 := bd_get hub hu2
  have kd : KD (4294967296 ^ n) (val (ul.take n)) u2 (u0 * 4294967296 + u1) (val (vl.take n)) v2 v1 (val ul) (val vl) := by
    refine ⟨?_, ?_, ?_, ?_, hbu2, hbv2, by omega, hlt⟩
    · rw [← val_top3 hu2 hu1 hu0, take_all (by omega)]
    · rw [← val_top2 hv2 hv1, take_all (by omega)]
    · have := val_lt (bd_take hub n); rwa [List.length_take, Nat.min_eq_left (by omega)] at this
    · have := val_lt (bd_take hv.bd n); rwa [List.length_take, Nat.min_eq_left (by omega)] at this
  have hUle := val_lt hub
  rw [hul] at hUle
  generalize hV : val vl = V at *
  generalize hUv : val ul = UV at *
  have hT : u0 * 4294967296 + u1 < 18446744073709551616 := by omega
  replace hcv1 := fun G w hw => hcv1 G w (Mem.anti (M' := (b, .arr ((pre ++ ul ++ suf).map dg), TU32) :: M) hw (ULe.refl _) (List.sublist_cons_self ..))
  replace hcv2 := fun G w hw => hcv2 G w (Mem.anti (M' := (b, .arr ((pre ++ ul ++ suf).map dg), TU32) :: M) hw (ULe.refl _) (List.sublist_cons_self ..))
  generalize hTop : u0 * 4294967296 + u1 = top at *
  refine cx_of_st Try.func87 rfl rfl rfl rfl ?_
  try refine run_s ?_
  refine st_draw [0, 1, 2, 3, 4, 5, 6, 7, 8, 9, 10, 11, 12, 13] sym (by kernel_rfl) ?_
  try refine run_s ?_
  refine sl_y (yl_indexM (j := n + 2) sym rfl rfl rfl rfl rfl (by omega) (by omega)) rfl rfl rfl rfl ?_
  refine sl_y (yl_loadMD 0 sym rfl rfl rfl rfl rfl (j := j0 + (n + 2)) (by omega) (row_get hpre hu0)) rfl rfl rfl rfl ?_
  try refine run_s ?_
  refine sl_y (yl_indexM (j := n + 1) sym rfl rfl rfl rfl rfl (by omega) (by omega)) rfl rfl rfl rfl ?_
  refine sl_y (yl_loadMD 0 sym rfl rfl rfl rfl rfl (j := j0 + (n + 1)) (by omega) (row_get hpre hu1)) rfl rfl rfl rfl ?_
  try refine run_s ?_
  refine sl_y (yl_or32 (m := u0) (n := u1) rfl rfl rfl (by rw [wrap_u64]; omega) rfl hbu0 hbu1) rfl rfl rfl rfl ?_
  rw [hTop]
  try refine run_s ?_
  refine st_draw [0, 1, 2, 3, 4, 5, 6, 7, 8, 9, 10, 11, 12, 13, 14, 15, 16, 17] sym (by kernel_rfl) ?_
  try refine run_s ?_
  refine sl_y (yl_index1 sym rfl rfl rfl rfl rfl ((show ((n + 2 : Nat) : Int) - 1 = ((n + 1 : Nat) : Int) by omega)) (by first | omega | assumption) hpv1) rfl rfl rfl rfl ?_; refine sl_y (yl_loadD sym rfl rfl rfl rfl hcv1) rfl rfl rfl rfl ?_
  try refine run_s ?_
  refine sl_y (yl_quoN (m := top) (n := v1) rfl rfl rfl rfl rfl (by simp only [kmax]; omega) (by omega) rfl) rfl rfl rfl rfl ?_
  try refine run_s ?_
  refine sl_y (yl_index1 sym rfl rfl rfl rfl rfl ((show ((n + 2 : Nat) : Int) - 1 = ((n + 1 : Nat) : Int) by omega)) (by first | omega | assumption) hpv1) rfl rfl rfl rfl ?_; refine sl_y (yl_loadD sym rfl rfl rfl rfl hcv1) rfl rfl rfl rfl ?_
  try refine run_s ?_
  refine sl_y (yl_remN (m := top) (n := v1) rfl rfl rfl rfl rfl (by simp only [kmax]; omega) (by omega) rfl) rfl rfl rfl rfl ?_
  have e1 : top / v1 * v1 + top % v1 = top := by rw [Nat.mul_comm]; exact Nat.div_add_mod top v1
  have e2 : top % v1 < v1 := Nat.mod_lt _ (by omega)
  generalize top / v1 = g0 at *
  generalize top % v1 = r0 at *
  try refine run_o ?_
  refine st_seq_cut (fun E U' M' => ∃ g : Nat, g < 4294967296 ∧ g * V ≤ UV + V ∧ UV < (g + 1) * V ∧
    E = [(7, .int .u64 (g : Int)), (5, .int .i64 ((n + 2 : Nat) : Int)), (0, .slice (some ⟨b, j0, none⟩) (n + 3) c), (1, .slice pv (n + 2) cv)] ∧ U = U' ∧ M' = (b, .arr ((pre ++ ul ++ suf).map dg), TU32) :: M) ?_ ?_
  · try refine run_s ?_
    refine st_loop (fun m E U' M' => ∃ (g r : Nat), g * v1 + r = top ∧ r < 4294967296 ∧ UV < (g + 1) * V ∧
        E = [(7, .int .u64 (g : Int)), (8, .int .u64 (r : Int)), (5, .int .i64 ((n + 2 : Nat) : Int)), (0, .slice (some ⟨b, j0, none⟩) (n + 3) c), (1, .slice pv (n + 2) cv)] ∧
        U = U' ∧ M' = (b, .arr ((pre ++ ul ++ suf).map dg), TU32) :: M ∧ g = m) (n0 := g0)
      (E0 := [(7, .int .u64 (g0 : Int)), (8, .int .u64 (r0 : Int)), (5, .int .i64 ((n + 2 : Nat) : Int)), (0, .slice (some ⟨b, j0, none⟩) (n + 3) c), (1, .slice pv (n + 2) cv)])
      ⟨rfl, rfl, rfl, rfl, rfl, trivial⟩ ⟨g0, r0, e1, by omega, kd.start e1 e2, rfl, rfl, rfl, rfl⟩ ?_
    clear e1 e2
    rintro m E U' M' ⟨g, r, e1, e2, hq, rfl, rfl, rfl, rfl⟩
    have hsm := kd.small e1 htop
    refine st_seq_cut (fun E U' M' => UV < g * V ∧
      E = [(7, .int .u64 (g : Int)), (8, .int .u64 (r : Int)), (5, .int .i64 ((n + 2 : Nat) : Int)), (0, .slice (some ⟨b, j0, none⟩) (n + 3) c), (1, .slice pv (n + 2) cv)] ∧ U = U' ∧ M' = (b, .arr ((pre ++ ul ++ suf).map dg), TU32) :: M) ?_ ?_
    · refine st_seq ?_
      refine st_draw [0, 1, 2, 3, 4, 5, 6, 7, 8, 9, 10, 11, 12, 13, 14, 15, 16, 17, 18, 19, 20, 21] sym (by kernel_rfl) ?_
      try refine run_s ?_
      refine sl_gdec rfl rfl (fun h0 => ?_) (fun h0 => ?_)
      · try refine run_s ?_
        exact sk_cut (E' := [(7, .int .u64 (g : Int)), (8, .int .u64 (r : Int)), (5, .int .i64 ((n + 2 : Nat) : Int)), (0, .slice (some ⟨b, j0, none⟩) (n + 3) c), (1, .slice pv (n + 2) cv)])
          ⟨rfl, rfl, rfl, rfl, rfl, trivial⟩ ⟨kd.big (by omega), rfl, rfl, rfl⟩
      · have hgB : g < 4294967296 := by omega
        have hm := mul_bound hgB hbv2
        have hm' : 0 ≤ (g : Int) * (v2 : Int) ∧ (g : Int) * (v2 : Int) ≤ 18446744065119617025 := by
          have : (g : Int) * (v2 : Int) = ((g * v2 : Nat) : Int) := by simp
          omega
        try refine run_s ?_
        refine sl_y (yl_index1 sym rfl rfl rfl rfl rfl ((show ((n + 2 : Nat) : Int) - 2 = ((n : Nat) : Int) by omega)) (by first | omega | assumption) hpv2) rfl rfl rfl rfl ?_; refine sl_y (yl_loadD sym rfl rfl rfl rfl hcv2) rfl rfl rfl rfl ?_
        try refine run_s ?_
        refine sl_y (yl_indexM (j := n) sym rfl rfl rfl rfl rfl (by omega) (by omega)) rfl rfl rfl rfl ?_
        refine sl_y (yl_loadMD 0 sym rfl rfl rfl rfl rfl (j := j0 + n) (by omega) (row_get hpre hu2)) rfl rfl rfl rfl ?_
        try refine run_s ?_
        refine sl_y (yl_or32 (m := r) (n := u2) rfl rfl rfl (by rw [wrap_u64]; omega) rfl e2 hbu2) rfl rfl rfl rfl ?_
        try refine run_s ?_
        have e3 : (g : Int) * (v2 : Int) = ((g * v2 : Nat) : Int) := by simp
        rw [e3]
        refine st_dec rfl (fun h1 => ?_) (fun h1 => ?_)
        · try refine run_s ?_
          exact sk_cut (E' := [(7, .int .u64 (g : Int)), (8, .int .u64 (r : Int)), (5, .int .i64 ((n + 2 : Nat) : Int)), (0, .slice (some ⟨b, j0, none⟩) (n + 3) c), (1, .slice pv (n + 2) cv)])
            ⟨rfl, rfl, rfl, rfl, rfl, trivial⟩ ⟨kd.cmp e1 (by omega), rfl, rfl, rfl⟩
        · try refine run_s ?_
          exact sk_cut (E' := [(7, .int .u64 (g : Int)), (5, .int .i64 ((n + 2 : Nat) : Int)), (0, .slice (some ⟨b, j0, none⟩) (n + 3) c), (1, .slice pv (n + 2) cv)])
            ⟨rfl, rfl, rfl, rfl, trivial⟩ ⟨g, hgB, kd.fin hgB e1 (by omega), hq, rfl, rfl, rfl⟩
    · rintro E U' M' ⟨hq', rfl, rfl, rfl⟩
      have hg1 : 0 < g := by
        rcases Nat.eq_zero_or_pos g with h | h
        · subst h; simp at hq'
        · exact h
      obtain ⟨g', rfl⟩ : ∃ g', g = g' + 1 := ⟨g - 1, by omega⟩
      have e3 : g' * v1 + (r + v1) = top := by rw [Nat.add_mul] at e1; omega
      try refine run_s ?_
      refine sl_y (yl_index1 sym rfl rfl rfl rfl rfl ((show ((n + 2 : Nat) : Int) - 1 = ((n + 1 : Nat) : Int) by omega)) (by first | omega | assumption) hpv1) rfl rfl rfl rfl ?_; refine sl_y (yl_loadD sym rfl rfl rfl rfl hcv1) rfl rfl rfl rfl ?_
      try refine run_s ?_
      have e4 : ((g' + 1 : Nat) : Int) - 1 = (g' : Int) := by omega
      rw [e4]
      refine st_dec rfl (fun h1 => ?_) (fun h1 => ?_)
      · try refine run_s ?_
        obtain ⟨g1, g2⟩ := kd.brk e3 (by omega)
        exact sk_cut (E' := [(7, .int .u64 (g' : Int)), (5, .int .i64 ((n + 2 : Nat) : Int)), (0, .slice (some ⟨b, j0, none⟩) (n + 3) c), (1, .slice pv (n + 2) cv)])
          ⟨rfl, rfl, rfl, rfl, trivial⟩ ⟨g', g1, kd.fin g1 e3 g2, hq', rfl, rfl, rfl⟩
      · try refine run_s ?_
        exact sk_again (E' := [(7, .int .u64 (g' : Int)), (8, .int .u64 ((r : Int) + (v1 : Int))), (5, .int .i64 ((n + 2 : Nat) : Int)), (0, .slice (some ⟨b, j0, none⟩) (n + 3) c), (1, .slice pv (n + 2) cv)]) (m := g')
          ⟨rfl, rfl, rfl, rfl, rfl, trivial⟩ (by omega) ⟨g', r + v1, e3, by omega, hq', rfl, rfl, rfl, rfl⟩
  rintro E U' M' ⟨g, hg, hq1, hq2, rfl, rfl, rfl⟩
  try refine run_s ?_
  refine st_loop (fun m E U' M' => ∃ (i cy bo : Nat) (D : List Nat), i ≤ n + 2 ∧ D.length = i ∧ Bd D ∧ cy < 4294967296 ∧ bo ≤ 1 ∧ val D + g * val (vl.take i) = val (ul.take i) + 4294967296 ^ i * (cy + bo) ∧
      E = [(84, .int .i64 (i : Int)), (83, .int .i64 ((n + 2 : Nat) : Int)), (82, .slice pv (n + 2) cv), (7, .int .u64 (g : Int)), (9, .int .u64 (cy : Int)), (10, .int .u32 (bo : Int)), (5, .int .i64 ((n + 2 : Nat) : Int)), (0, .slice (some ⟨b, j0, none⟩) (n + 3) c), (1, .slice pv (n + 2) cv)] ∧
      U = U' ∧ M' = (b, .arr ((pre ++ (D ++ ul.drop i) ++ suf).map dg), TU32) :: M ∧ m = n + 2 - i) (n0 := n + 2)
    (E0 := [(84, .int .i64 ((0 : Nat) : Int)), (83, .int .i64 ((n + 2 : Nat) : Int)), (82, .slice pv (n + 2) cv), (7, .int .u64 (g : Int)), (9, .int .u64 ((0 : Nat) : Int)), (10, .int .u32 ((0 : Nat) : Int)), (5, .int .i64 ((n + 2 : Nat) : Int)), (0, .slice (some ⟨b, j0, none⟩) (n + 3) c), (1, .slice pv (n + 2) cv)])
    ⟨rfl, rfl, rfl, rfl, rfl, rfl, rfl, rfl, rfl, trivial⟩ ⟨0, 0, 0, [], by omega, rfl, (by intro d hd; cases hd), by omega, by omega, by simp [val], rfl, rfl, rfl, rfl⟩ ?_
  rintro m E U' M' ⟨i, cy, bo, D, hi, hD, hbD, hcy, hbo, hv', rfl, rfl, rfl, rfl⟩
  try refine run_s ?_
  refine st_dec rfl (fun h5 => ?_) (fun h5 => ?_)
  · obtain ⟨x, hx, hbx, hp1, hcx⟩ := hv.get (k := i) (by omega)
    replace hcx := fun G w hw => hcx G w (Mem.anti (M' := (b, .arr ((pre ++ (D ++ ul.drop i) ++ suf).map dg), TU32) :: M) hw (ULe.refl _) (List.sublist_cons_self ..))
    obtain ⟨y, hy⟩ : ∃ d, ul[i]? = some d := ⟨_, List.getElem?_eq_getElem (by omega)⟩
    have hby := bd_get hub hy
    have hdr : ul.drop i = y :: ul.drop (i + 1) := by
      obtain ⟨h1, h2⟩ := List.getElem?_eq_some_iff.1 hy
      rw [List.drop_eq_getElem_cons h1, h2]
    have hrow : (D ++ ul.drop i)[i]? = some y := by
      rw [List.getElem?_append_right (by omega), hD, Nat.sub_self, hdr]; rfl
    have hm := Nat.mul_le_mul (show g ≤ 4294967295 by omega) (show x ≤ 4294967295 by omega)
    have hm1 : (g : Int) * (x : Int) = ((g * x : Nat) : Int) := by simp
    have hm' : 0 ≤ (g : Int) * (x : Int) ∧ (g : Int) * (x : Int) ≤ 18446744065119617025 := by omega
    try refine run_s ?_
    refine sl_y (yl_index1 sym rfl rfl rfl rfl rfl rfl (by omega) hp1) rfl rfl rfl rfl ?_; refine sl_y (yl_loadD sym rfl rfl rfl rfl hcx) rfl rfl rfl rfl ?_
    try refine run_s ?_
    have hm2 : (g : Int) * (x : Int) + (cy : Int) = ((g * x + cy : Nat) : Int) := by omega
    have hm3 : g * x + cy < 18446744073709551616 := by omega
    rw [hm2]
    generalize hTT : g * x + cy = TT at *
    try refine run_s ?_
    refine sl_y (yl_indexM (j := i) sym rfl rfl rfl rfl rfl rfl (by omega)) rfl rfl rfl rfl ?_
    refine sl_y (yl_loadMD 0 sym rfl rfl rfl rfl rfl (j := j0 + i) (by omega) (row_get hpre hrow)) rfl rfl rfl rfl ?_
    try refine run_s ?_
    have hm4 : (TT : Int) % 4294967296 = ((TT % 4294967296 : Nat) : Int) := by omega
    rw [hm4]
    refine sl_call rfl rfl rfl rfl rfl rfl (fun _ => Sub32_ex hby (Nat.mod_lt _ (by omega)) hbo) ?_
    rintro v U' D' hU ⟨d, b', rfl, hd, hb', hde, rfl, rfl⟩
    try refine run_s ?_
    refine sl_y (yl_indexM (j := i) sym rfl rfl rfl rfl rfl rfl (by omega)) rfl rfl rfl rfl ?_
    refine sl_storeD 0 sym rfl rfl rfl rfl rfl rfl rfl (j := j0 + i) (by omega) (by simp only [List.length_append, hD, hpre, List.length_drop]; omega) rfl rfl rfl ?_
    rw [hdr, row_set hpre hD]
    try refine run_s ?_
    rw [show (TT : Int) / 2 ^ 32 = ((TT / 4294967296 : Nat) : Int) by omega]
    refine sk_again (E' := [(84, .int .i64 ((i : Int) + 1)), (83, .int .i64 ((n + 2 : Nat) : Int)), (82, .slice pv (n + 2) cv), (7, .int .u64 (g : Int)), (9, .int .u64 ((TT / 4294967296 : Nat) : Int)), (10, .int .u32 (b' : Int)), (5, .int .i64 ((n + 2 : Nat) : Int)), (0, .slice (some ⟨b, j0, none⟩) (n + 3) c), (1, .slice pv (n + 2) cv)]) (m := n + 2 - (i + 1))
      ⟨rfl, rfl, rfl, rfl, rfl, rfl, rfl, rfl, rfl, trivial⟩ (by omega) ⟨i + 1, TT / 4294967296, b', D ++ [d], by omega, by simp [hD], bd_snoc hbD hd, by omega, hb', ?_, rfl, rfl, rfl, rfl⟩
    rw [val_snoc, hD, val_take_succ hx, val_take_succ hy, Nat.pow_succ]
    exact sub_step hv' (by omega) hde
  · have : i = n + 2 := by omega
    subst this
    have hby := hbu0
    have hdr : ul.drop (n + 2) = u0 :: [] := by
      obtain ⟨h1, h2⟩ := List.getElem?_eq_some_iff.1 hu0
      rw [List.drop_eq_getElem_cons h1, h2, List.drop_of_length_le (by omega)]
    have hrow : (D ++ ul.drop (n + 2))[n + 2]? = some u0 := by
      rw [List.getElem?_append_right (by omega), hD, Nat.sub_self, hdr]; rfl
    try refine run_s ?_
    refine sl_y (yl_indexM (j := n + 2) sym rfl rfl rfl rfl rfl rfl (by omega)) rfl rfl rfl rfl ?_
    refine sl_y (yl_loadMD 0 sym rfl rfl rfl rfl rfl (j := j0 + (n + 2)) (by omega) (row_get hpre hrow)) rfl rfl rfl rfl ?_
    try refine run_s ?_
    refine sl_call rfl rfl rfl rfl rfl rfl (fun _ => Sub32_ex hby hcy hbo) ?_
    rintro v U' D' hU ⟨d, b', rfl, hd, hb', hde, rfl, rfl⟩
    try refine run_s ?_
    refine sl_y (yl_indexM (j := n + 2) sym rfl rfl rfl rfl rfl rfl (by omega)) rfl rfl rfl rfl ?_
    refine sl_storeD 0 sym rfl rfl rfl rfl rfl rfl rfl (j := j0 + (n + 2)) (by omega) (by simp only [List.length_append, hD, hpre, List.length_drop]; omega) rfl rfl rfl ?_
    rw [hdr, row_set hpre hD, List.append_nil]
    have hA : val (D ++ [d]) + g * V = UV + 4294967296 ^ (n + 3) * b' := by
      have e4 : val ul = val (ul.take (n + 2)) + 4294967296 ^ (n + 2) * u0 := by rw [← val_take_succ hu0, take_all (by omega)]
      have e6 : 4294967296 ^ (n + 3) = 4294967296 ^ (n + 2) * 4294967296 := Nat.pow_succ _ _
      rw [take_all (l := vl) (by omega), hV] at hv'
      rw [val_snoc, hD, ← hUv, e4, e6]
      exact sub_last hv' hde
    have hAb : Bd (D ++ [d]) := bd_snoc hbD hd
    have hAl : (D ++ [d]).length = n + 3 := by simp [hD]
    have hAlt := val_lt hAb
    rw [hAl] at hAlt
    generalize D ++ [d] = A at *
    clear hrow hdr hde hv' hD hbD
    try refine run_o ?_
    refine st_seq_cut (fun E U' M' => ∃ (q : Nat) (R : List Nat), q < 4294967296 ∧ UV / V = q ∧ R.length = n + 3 ∧ Bd R ∧ val R = UV % V ∧ E = [(7, .int .u64 (q : Int))] ∧ U = U' ∧ M' = (b, .arr ((pre ++ R ++ suf).map dg), TU32) :: M) ?_ ?_
    · try refine run_s ?_
      refine st_ne rfl (fun h6 => ?_) (fun h6 => ?_)
      · have hb1 : b' = 1 := by omega
        subst hb1
        rw [Nat.mul_one] at hA
        obtain ⟨q, rfl⟩ : ∃ q, g = q + 1 := ⟨g - 1, by
          rcases Nat.eq_zero_or_pos g with h | h
          · subst h; simp at hA; omega
          · omega⟩
        rw [Nat.add_mul, Nat.one_mul] at hA hq1
        have hqd := div_of (U := UV) (V := V) (g := q) (R := UV - q * V) (by omega) (by omega)
        try refine run_s ?_
        have e4 : ((q + 1 : Nat) : Int) - 1 = (q : Int) := by omega
        rw [e4]
        refine st_loop (fun m E U' M' => ∃ (i cy : Nat) (D : List Nat), i ≤ n + 2 ∧ D.length = i ∧ Bd D ∧ cy ≤ 1 ∧ val D + 4294967296 ^ i * cy = val (A.take i) + val (vl.take i) ∧
            E = [(132, .int .i64 (i : Int)), (131, .int .i64 ((n + 2 : Nat) : Int)), (130, .slice pv (n + 2) cv), (7, .int .u64 (q : Int)), (14, .int .u32 (cy : Int)), (5, .int .i64 ((n + 2 : Nat) : Int)), (0, .slice (some ⟨b, j0, none⟩) (n + 3) c), (1, .slice pv (n + 2) cv)] ∧
            U = U' ∧ M' = (b, .arr ((pre ++ (D ++ A.drop i) ++ suf).map dg), TU32) :: M ∧ m = n + 2 - i) (n0 := n + 2)
          (E0 := [(132, .int .i64 ((0 : Nat) : Int)), (131, .int .i64 ((n + 2 : Nat) : Int)), (130, .slice pv (n + 2) cv), (7, .int .u64 (q : Int)), (14, .int .u32 ((0 : Nat) : Int)), (5, .int .i64 ((n + 2 : Nat) : Int)), (0, .slice (some ⟨b, j0, none⟩) (n + 3) c), (1, .slice pv (n + 2) cv)])
          ⟨rfl, rfl, rfl, rfl, rfl, rfl, rfl, rfl, trivial⟩ ⟨0, 0, [], by omega, rfl, (by intro d hd; cases hd), by omega, by simp [val], rfl, rfl, rfl, rfl⟩ ?_
        rintro m E U' M' ⟨i, cy, D, hi, hD, hbD, hcy, hv', rfl, rfl, rfl, rfl⟩
        try refine run_s ?_
        refine st_dec rfl (fun h5 => ?_) (fun h5 => ?_)
        · obtain ⟨x, hx, hbx, hp1, hcx⟩ := hv.get (k := i) (by omega)
          replace hcx := fun G w hw => hcx G w (Mem.anti (M' := (b, .arr ((pre ++ (D ++ A.drop i) ++ suf).map dg), TU32) :: M) hw (ULe.refl _) (List.sublist_cons_self ..))
          obtain ⟨y, hy⟩ : ∃ d, A[i]? = some d := ⟨_, List.getElem?_eq_getElem (by omega)⟩
          have hby := bd_get hAb hy
          have hdr : A.drop i = y :: A.drop (i + 1) := by
            obtain ⟨h1, h2⟩ := List.getElem?_eq_some_iff.1 hy
            rw [List.drop_eq_getElem_cons h1, h2]
          have hrow : (D ++ A.drop i)[i]? = some y := by
            rw [List.getElem?_append_right (by omega), hD, Nat.sub_self, hdr]; rfl
          try refine run_s ?_
          refine sl_y (yl_index1 sym rfl rfl rfl rfl rfl rfl (by omega) hp1) rfl rfl rfl rfl ?_; refine sl_y (yl_loadD sym rfl rfl rfl rfl hcx) rfl rfl rfl rfl ?_
          try refine run_s ?_
          refine sl_y (yl_indexM (j := i) sym rfl rfl rfl rfl rfl rfl (by omega)) rfl rfl rfl rfl ?_
          refine sl_y (yl_loadMD 0 sym rfl rfl rfl rfl rfl (j := j0 + i) (by omega) (row_get hpre hrow)) rfl rfl rfl rfl ?_
          try refine run_s ?_
          refine sl_call rfl rfl rfl rfl rfl rfl (fun _ => Add32_ex hby hbx hcy) ?_
          rintro v U' D' hU ⟨d, c', rfl, hd, hc', hde, rfl, rfl⟩
          try refine run_s ?_
          refine sl_y (yl_indexM (j := i) sym rfl rfl rfl rfl rfl rfl (by omega)) rfl rfl rfl rfl ?_
          refine sl_storeD 0 sym rfl rfl rfl rfl rfl rfl rfl (j := j0 + i) (by omega) (by simp only [List.length_append, hD, hpre, List.length_drop]; omega) rfl rfl rfl ?_
          rw [hdr, row_set hpre hD]
          try refine run_s ?_
          refine sk_again (E' := [(132, .int .i64 ((i : Int) + 1)), (131, .int .i64 ((n + 2 : Nat) : Int)), (130, .slice pv (n + 2) cv), (7, .int .u64 (q : Int)), (14, .int .u32 (c' : Int)), (5, .int .i64 ((n + 2 : Nat) : Int)), (0, .slice (some ⟨b, j0, none⟩) (n + 3) c), (1, .slice pv (n + 2) cv)]) (m := n + 2 - (i + 1))
            ⟨rfl, rfl, rfl, rfl, rfl, rfl, rfl, rfl, trivial⟩ (by omega) ⟨i + 1, c', D ++ [d], by omega, by simp [hD], bd_snoc hbD hd, hc', ?_, rfl, rfl, rfl, rfl⟩
          rw [val_snoc, hD, val_take_succ hx, val_take_succ hy, Nat.pow_succ]
          have e5 : 4294967296 ^ i * (d + 4294967296 * c') = 4294967296 ^ i * (y + x + cy) := by rw [hde]
          simp only [Nat.mul_add, Nat.mul_assoc] at *
          omega
        · have : i = n + 2 := by omega
          subst this
          obtain ⟨y, hy⟩ : ∃ d, A[n + 2]? = some d := ⟨_, List.getElem?_eq_getElem (by omega)⟩
          have hby := bd_get hAb hy
          have hdr : A.drop (n + 2) = y :: [] := by
            obtain ⟨h1, h2⟩ := List.getElem?_eq_some_iff.1 hy
            rw [List.drop_eq_getElem_cons h1, h2, List.drop_of_length_le (by omega)]
          have hrow : (D ++ A.drop (n + 2))[n + 2]? = some y := by
            rw [List.getElem?_append_right (by omega), hD, Nat.sub_self, hdr]; rfl
          have hAs : val A = val (A.take (n + 2)) + 4294967296 ^ (n + 2) * y := by rw [← val_take_succ hy, take_all (by omega)]
          have hvt : val (vl.take (n + 2)) = V := by rw [take_all (by omega), hV]
          have hDlt := val_lt hbD
          rw [hD] at hDlt
          rw [hvt] at hv'
          have hsum : y + cy = 4294967296 ∧ val D = UV - q * V := by
            have e6 : 4294967296 ^ (n + 3) = 4294967296 ^ (n + 2) * 4294967296 := Nat.pow_succ _ _
            rw [e6] at hA
            have e7 := val_lt hv.bd
            rw [hl1, hV] at e7
            refine wrap_eq (pw := 4294967296 ^ (n + 2)) ?_ hDlt (by omega)
            rw [Nat.mul_add]
            omega
          obtain ⟨hs1, hs2⟩ := hsum
          try refine run_s ?_
          refine sl_y (yl_indexM (j := n + 2) sym rfl rfl rfl rfl rfl rfl (by omega)) rfl rfl rfl rfl ?_
          refine sl_y (yl_loadMD 0 sym rfl rfl rfl rfl rfl (j := j0 + (n + 2)) (by omega) (row_get hpre hrow)) rfl rfl rfl rfl ?_
          try refine run_s ?_
          rw [IntKind.wrap_u32, show ((y : Int) + (cy : Int)) % 4294967296 = 0 by omega]
          refine sl_y (yl_indexM (j := n + 2) sym rfl rfl rfl rfl rfl rfl (by omega)) rfl rfl rfl rfl ?_
          refine sl_storeD 0 sym rfl rfl rfl (v := 0) rfl rfl rfl rfl (j := j0 + (n + 2)) (by omega) (by simp only [List.length_append, hD, hpre, List.length_drop]; omega) rfl rfl rfl ?_
          rw [hdr, row_set hpre hD, List.append_nil]
          try refine run_s ?_
          refine sk_cut (E' := [(7, .int .u64 (q : Int))]) ⟨rfl, trivial⟩ ⟨q, D ++ [0], by omega, hqd.1, by simp [hD], bd_snoc hbD (by omega), ?_, rfl, rfl, rfl⟩
          rw [val_snoc, hs2, hqd.2, Nat.mul_zero, Nat.add_zero]
      · have hb0 : b' = 0 := by omega
        subst hb0
        have hqd := div_of (U := UV) (V := V) (g := g) (R := val A) (by omega) (by rw [Nat.add_mul] at hq2; omega)
        try refine run_s ?_
        exact sk_cut (E' := [(7, .int .u64 (g : Int))]) ⟨rfl, trivial⟩ ⟨g, A, hg, hqd.1, hAl, hAb, hqd.2.symm, rfl, rfl, rfl⟩
    · rintro E U' M' ⟨q, R, hq, hq3, hR, hbR, hvR, rfl, rfl, rfl⟩
      try refine run_s ?_
      refine sk_retX sym rfl (.cons (.tmp rfl) .nil) (ULe.refl _) (List.Sublist.refl _) (.inl rfl) ?_
      exact ⟨by rw [hq3]; rfl, rfl, R, hR, hbR, hvR, rfl⟩

end Go.Proofs.Ytlnmhjkagnfnaaa
