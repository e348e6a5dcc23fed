/- Walks of bigint, 2: sums, differences, products of digits. -/
import Derived.Test.YtcakainebimmdaaB1
namespace Go.Proofs.Ytcakainebimmdaa
open Go.Hp
variable {G : World} {U : UH} {M : MH}

/-! ### words as bits -/
section
variable {P : Program} {T : TT} {N : Nat} {E : Env} {o : Oper} {x y : Operand} {ty yt : Nat} {A B : BitVec 32}
theorem wrap_bv (A : BitVec 32) : IntKind.u32.wrap (A.toNat : Int) = (A.toNat : Int) := by
  have := A.isLt
  exact IntWalk.u32_in _ (by omega)
theorem ofInt_bv (A : BitVec 32) : BitVec.ofInt 32 (A.toNat : Int) = A := by
  rw [BitVec.ofInt_natCast, BitVec.ofNat_toNat, BitVec.setWidth_eq]
theorem yl_and32 (ho : o.op = .binOp .and ty x y yt) (hx : ev E x = some (.int .u32 (A.toNat : Int))) (hy : ev E y = some (.int .u32 (B.toNat : Int))) : Yl P N G o E U M (.int .u32 ((A &&& B).toNat : Int)) := by
  refine yl_bits ho hx hy ?_
  show some (Value.int .u32 (IntKind.u32.wrap (((BitVec.ofInt 32 (A.toNat : Int) &&& BitVec.ofInt 32 (B.toNat : Int)).toNat : Nat) : Int))) = _
  rw [ofInt_bv, ofInt_bv, wrap_bv]
theorem yl_or32b (ho : o.op = .binOp .or ty x y yt) (hx : ev E x = some (.int .u32 (A.toNat : Int))) (hy : ev E y = some (.int .u32 (B.toNat : Int))) : Yl P N G o E U M (.int .u32 ((A ||| B).toNat : Int)) := by
  refine yl_bits ho hx hy ?_
  show some (Value.int .u32 (IntKind.u32.wrap (((BitVec.ofInt 32 (A.toNat : Int) ||| BitVec.ofInt 32 (B.toNat : Int)).toNat : Nat) : Int))) = _
  rw [ofInt_bv, ofInt_bv, wrap_bv]
theorem yl_xor32 (ho : o.op = .binOp .xor ty x y yt) (hx : ev E x = some (.int .u32 (A.toNat : Int))) (hy : ev E y = some (.int .u32 (B.toNat : Int))) : Yl P N G o E U M (.int .u32 ((A ^^^ B).toNat : Int)) := by
  refine yl_bits ho hx hy ?_
  show some (Value.int .u32 (IntKind.u32.wrap (((BitVec.ofInt 32 (A.toNat : Int) ^^^ BitVec.ofInt 32 (B.toNat : Int)).toNat : Nat) : Int))) = _
  rw [ofInt_bv, ofInt_bv, wrap_bv]
theorem yl_not32 (ho : o.op = .unOp .xor ty x) (hx : ev E x = some (.int .u32 (A.toNat : Int))) : Yl P N G o E U M (.int .u32 ((~~~A).toNat : Int)) := by
  have h := yl_not (P := P) (N := N) (G := G) (U := U) (M := M) ho hx
  have e : (BitVec.ofInt 32 4294967295 ^^^ BitVec.ofInt 32 (A.toNat : Int)) = ~~~A := by
    rw [ofInt_bv]
    have : BitVec.ofInt 32 4294967295 = BitVec.allOnes 32 := by decide
    rw [this, BitVec.allOnes_xor]
  have e2 : IntKind.u32.wrap (((BitVec.ofInt 32 4294967295 ^^^ BitVec.ofInt 32 (A.toNat : Int)).toNat : Nat) : Int) = ((~~~A).toNat : Int) := by rw [e, wrap_bv]
  rw [← e2]; exact h
theorem yl_sub32 (ho : o.op = .binOp .sub ty x y yt) (hx : ev E x = some (.int .u32 (A.toNat : Int))) (hy : ev E y = some (.int .u32 (B.toNat : Int))) : Yl P N G o E U M (.int .u32 ((A - B).toNat : Int)) := by
  refine yl_bin ho hx hy (funext fun w => ?_)
  have h1 := A.isLt
  have h2 := B.isLt
  have e : IntKind.u32.wrap ((A.toNat : Int) - (B.toNat : Int)) = ((A - B).toNat : Int) := by
    rw [IntKind.wrap_u32, BitVec.toNat_sub]; omega
  rw [← e]
  exact intOp_run rfl rfl
end

theorem borrow_bits (A B C : BitVec 32) (hc : C.toNat ≤ 1) : ((~~~A &&& B) ||| (~~~(A ^^^ B) &&& (A - B - C))).toNat / 2 ^ 31 = if A.toNat < B.toNat + C.toNat then 1 else 0 := by
  have key : ∀ Z : BitVec 32, Z.toNat / 2 ^ 31 = if Z.msb = true then 1 else 0 := by
    intro Z
    have := Z.isLt
    rw [BitVec.msb_eq_decide]
    by_cases h : 2 ^ (32 - 1) ≤ Z.toNat
    · simp only [h, decide_true, if_true]; omega
    · simp only [h, decide_false, Bool.false_eq_true, if_false]; omega
  have hA := A.isLt
  have hB := B.isLt
  rw [key]
  simp only [BitVec.msb_or, BitVec.msb_and, BitVec.msb_not, BitVec.msb_xor]
  have hd : (A - B - C).msb = decide (2 ^ 31 ≤ (A.toNat + 2 * 2 ^ 32 - B.toNat - C.toNat) % 2 ^ 32) := by
    rw [BitVec.msb_eq_decide, BitVec.toNat_sub, BitVec.toNat_sub]
    congr 2
    omega
  rw [hd, BitVec.msb_eq_decide, BitVec.msb_eq_decide]
  by_cases h1 : 2 ^ (32 - 1) ≤ A.toNat <;> by_cases h2 : 2 ^ (32 - 1) ≤ B.toNat <;> by_cases h3 : 2 ^ 31 ≤ (A.toNat + 2 * 2 ^ 32 - B.toNat - C.toNat) % 2 ^ 32 <;> simp [h1, h2, h3] <;> omega

theorem Sub32_ct {x y b : Nat} (hx : x < 4294967296) (hy : y < 4294967296) (hb : b ≤ 1) :
    Ct Try.prog 93 [.int .u32 (x : Int), .int .u32 (y : Int), .int .u32 (b : Int)] G U M fun v U' D => v = .tuple #[.int .u32 (((x + 8589934592 - y - b) % 4294967296 : Nat) : Int), .int .u32 (((if x < y + b then 1 else 0) : Nat) : Int)] ∧ U = U' ∧ D = [] := by
  obtain ⟨A, rfl⟩ : ∃ A : BitVec 32, x = A.toNat := ⟨BitVec.ofNat 32 x, by rw [BitVec.toNat_ofNat, Nat.mod_eq_of_lt hx]⟩
  obtain ⟨B, rfl⟩ : ∃ A : BitVec 32, y = A.toNat := ⟨BitVec.ofNat 32 y, by rw [BitVec.toNat_ofNat, Nat.mod_eq_of_lt hy]⟩
  obtain ⟨C, rfl⟩ : ∃ A : BitVec 32, b = A.toNat := ⟨BitVec.ofNat 32 b, by rw [BitVec.toNat_ofNat, Nat.mod_eq_of_lt (by omega)]⟩
  refine ct_of_st Try.func93 rfl rfl rfl rfl ?_
  refine st_seq ?_
  repeat (first | refine st_region (T := tys) ?_ | refine sl_nil ?_ | refine sk_seq ?_ | refine sk_block ?_ | refine st_ret ?_ | refine st_exit ?_ | refine st_skip ?_ | refine sk_seq_ret ?_ | refine sk_block_ret ?_ | refine sk_loop_ret ?_ | refine sk_cut_ret ?_ | refine sk_cut_exit ?_ | refine sk_seq_exit ?_ | refine sk_block_here ?_ | refine sk_block_far rfl ?_ | refine sk_loop_exit ?_ | refine st_true rfl ?_ | refine st_false rfl ?_ | refine w_i64 ?_ | refine w_u64 ?_ | refine w_u32 ?_ | refine w_cv ?_ | refine w_cv32 ?_ | refine w_shr ?_ | refine w_shl ?_ | refine w_p ?_ | refine w_no ?_ | refine w_m 0 ?_ | refine w_m 1 ?_ | refine w_m 2 ?_ | refine w_m 3 ?_ | refine w_m 4 ?_ | refine w_m 5 ?_ | refine w_m 6 ?_ | refine w_m 7 ?_ | refine w_m 8 ?_ | refine w_m 9 ?_ | refine w_m 10 ?_ | refine w_m 11 ?_ | refine w_m 12 ?_)
  refine st_seq ?_
  refine st_region (T := tys) ?_
  refine sl_y (yl_pure sym rfl) rfl rfl rfl rfl ?_
  refine sl_y (yl_pure sym rfl) rfl rfl rfl rfl ?_
  refine sl_y (yl_sub32 rfl rfl rfl) rfl rfl rfl rfl ?_
  refine sl_y (yl_pure sym rfl) rfl rfl rfl rfl ?_
  refine sl_y (yl_sub32 rfl rfl rfl) rfl rfl rfl rfl ?_
  repeat (first | refine st_seq ?_ | refine st_region (T := tys) ?_ | refine sl_nil ?_ | refine sk_seq ?_ | refine st_block ?_ | refine sk_block ?_ | refine st_ret ?_ | refine st_exit ?_ | refine st_skip ?_ | refine sk_seq_ret ?_ | refine sk_block_ret ?_ | refine sk_loop_ret ?_ | refine sk_cut_ret ?_ | refine sk_cut_exit ?_ | refine sk_seq_exit ?_ | refine sk_block_here ?_ | refine sk_block_far rfl ?_ | refine sk_loop_exit ?_ | refine st_true rfl ?_ | refine st_false rfl ?_ | refine w_i64 ?_ | refine w_u64 ?_ | refine w_u32 ?_ | refine w_cv ?_ | refine w_cv32 ?_ | refine w_shr ?_ | refine w_shl ?_ | refine w_p ?_ | refine w_no ?_ | refine w_m 0 ?_ | refine w_m 1 ?_ | refine w_m 2 ?_ | refine w_m 3 ?_ | refine w_m 4 ?_ | refine w_m 5 ?_ | refine w_m 6 ?_ | refine w_m 7 ?_ | refine w_m 8 ?_ | refine w_m 9 ?_ | refine w_m 10 ?_ | refine w_m 11 ?_ | refine w_m 12 ?_)
  refine sl_y (yl_not32 rfl rfl) rfl rfl rfl rfl ?_
  refine sl_y (yl_pure sym rfl) rfl rfl rfl rfl ?_
  refine sl_y (yl_and32 rfl rfl rfl) rfl rfl rfl rfl ?_
  refine sl_y (yl_pure sym rfl) rfl rfl rfl rfl ?_
  refine sl_y (yl_pure sym rfl) rfl rfl rfl rfl ?_
  refine sl_y (yl_xor32 rfl rfl rfl) rfl rfl rfl rfl ?_
  refine sl_y (yl_not32 rfl rfl) rfl rfl rfl rfl ?_
  refine sl_y (yl_pure sym rfl) rfl rfl rfl rfl ?_
  refine sl_y (yl_and32 rfl rfl rfl) rfl rfl rfl rfl ?_
  refine sl_y (yl_or32b rfl rfl rfl) rfl rfl rfl rfl ?_
  refine sl_y (yl_shr (n := 31) rfl rfl rfl rfl (by decide)) rfl rfl rfl rfl ?_
  repeat (first | refine st_seq ?_ | refine st_region (T := tys) ?_ | refine sl_nil ?_ | refine sk_seq ?_ | refine st_block ?_ | refine sk_block ?_ | refine st_ret ?_ | refine st_exit ?_ | refine st_skip ?_ | refine sk_seq_ret ?_ | refine sk_block_ret ?_ | refine sk_loop_ret ?_ | refine sk_cut_ret ?_ | refine sk_cut_exit ?_ | refine sk_seq_exit ?_ | refine sk_block_here ?_ | refine sk_block_far rfl ?_ | refine sk_loop_exit ?_ | refine st_true rfl ?_ | refine st_false rfl ?_ | refine w_i64 ?_ | refine w_u64 ?_ | refine w_u32 ?_ | refine w_cv ?_ | refine w_cv32 ?_ | refine w_shr ?_ | refine w_shl ?_ | refine w_p ?_ | refine w_no ?_ | refine w_m 0 ?_ | refine w_m 1 ?_ | refine w_m 2 ?_ | refine w_m 3 ?_ | refine w_m 4 ?_ | refine w_m 5 ?_ | refine w_m 6 ?_ | refine w_m 7 ?_ | refine w_m 8 ?_ | refine w_m 9 ?_ | refine w_m 10 ?_ | refine w_m 11 ?_ | refine w_m 12 ?_)
  refine sk_ret [] sym rfl (.cons (.tmp rfl) (.cons (.tmp rfl) .nil)) (ULe.refl _) (List.Sublist.refl _) (.inl rfl) ⟨?_, rfl, rfl⟩
  have h1 := borrow_bits A B C hb
  have e1 : (((A - B - C).toNat : Nat) : Int) = (((A.toNat + 8589934592 - B.toNat - C.toNat) % 4294967296 : Nat) : Int) := by
    rw [BitVec.toNat_sub, BitVec.toNat_sub]
    omega
  have e2 : ((((~~~A &&& B) ||| (~~~(A ^^^ B) &&& (A - B - C))).toNat : Nat) : Int) / 2 ^ 31 = (((if A.toNat < B.toNat + C.toNat then 1 else 0) : Nat) : Int) := by
    rw [← h1]; omega
  simp only [tup, e1, e2]

end Go.Proofs.Ytcakainebimmdaa
