/- Texts of this seat's own, merged: each begins with its own remark. -/
import Derived.Test.YtlnmhjkagnfnaaaM2
import Derived.Lib.ConvBytes
import Derived.Laws.Strings
import Derived.Laws.Slices
/- What a call hands over is settled at once: it may be read ever after, and it was not there before. -/
namespace Go.Hp
variable {P : Program} {G : World} {U : UH} {M : MH}

/-- D is settled in U, and was not there in U0. -/
def Sett (U0 U : UH) (D : MH) : Prop := ∀ e ∈ D, U e.1 = some (.cells e.2.1.cells e.2.2 (0, 0)) ∧ U0 e.1 = none

theorem mem_settleAll {w : World} : ∀ {D : MH} {U : UH}, Mem G U (D ++ M) w → ∃ U', ULe U U' ∧ Mem G U' M w ∧ Sett U U' D
  | [], U, h => ⟨U, ULe.refl U, h, fun e he => (by cases he)⟩
  | (b, k, t) :: D, U, h => by
    have hU := (h.own _ (List.mem_cons_self ..)).2
    have hall := h.own
    obtain ⟨-, h2⟩ := h.settle
    have h1 := ULe.upd (o := .cells k.cells t (0, 0)) hU
    obtain ⟨U', h3, h4, h5⟩ := mem_settleAll h2
    refine ⟨U', h1.trans h3, h4, fun e he => ?_⟩
    rcases List.mem_cons.1 he with rfl | he
    · exact ⟨h3 _ _ (by simp [UH.upd]), hU⟩
    · exact ⟨(h5 e he).1, (hall e (List.mem_append_left _ (List.mem_cons_of_mem _ he))).2⟩

theorem Ct.settle {f : Nat} {args : List Value} {R : Value → UH → MH → Prop} (h : Ct P f args G U M R) :
    Ct P f args G U M fun v U' D' => D' = [] ∧ ∃ U1 D, R v U1 D ∧ ULe U U1 ∧ ULe U1 U' ∧ Sett U1 U' D := by
  refine ⟨h.callable, fun w hw => (h.calls w hw).mono ?_⟩
  rintro e w' ⟨v, U1, D, h1, h2, h3, h4⟩
  obtain ⟨U2, h5, h6, h7⟩ := mem_settleAll h3
  exact ⟨v, U2, [], h1, h2.trans h5, h6, rfl, U1, D, h4, h2, h5, h7⟩

/-- One settled memory within another: along what is known. -/
theorem uc {U' : UH} (h : ULe U U' := by repeat (first | exact ULe.refl _ | assumption | (refine ULe.trans (by assumption) ?_))) : ULe U U' := h

end Go.Hp
namespace Go.Proofs.Ytlnmhjkagnfnaaa
open Go.Hp
variable {G : World} {U U0 U' : UH} {M : MH}

theorem _root_.Go.Hp.Sett.left {A B : MH} (h : Sett U0 U' (A ++ B)) : Sett U0 U' A := fun e he => h e (List.mem_append_left _ he)
theorem _root_.Go.Hp.Sett.right {A B : MH} (h : Sett U0 U' (A ++ B)) : Sett U0 U' B := fun e he => h e (List.mem_append_right _ he)

theorem Own.sett {D : MH} {p : Option Addr} {n c : Nat} {l : List Nat} (h : Own D p n c l) (hs : Sett U0 U' D) : Dig U' [] p n c l := by
  cases h with
  | nil => exact Dig.nil
  | @arr b n c r t hn hc hm hb ht =>
    refine ⟨hn, by omega, hm, hb, fun k d hk => ⟨rfl, fun G w hw => hw.cellU ?_⟩⟩
    simp only [elt, Option.getD_some, add_lit, Nat.zero_add]
    have := (hs _ (List.mem_singleton.2 rfl)).1
    simp only at this
    simp only [UH.cell?, this, Option.isSome_none, Bool.false_eq_true, if_false]
    exact cell_row hk

theorem IV.own.sett {x : IV} {D : MH} {z : Int} (h : x.own D z) (hs : Sett U0 U' D) : x.nrm U' [] z := by
  obtain ⟨l, h1, h2⟩ := h
  exact ⟨l, h1.sett hs, h2⟩

theorem tup_f {p : Prop} [Decidable p] (h : ¬ p) : tup [.bool false] = .bool (decide p) := by rw [decide_eq_false h]; rfl
theorem tup_t {p : Prop} [Decidable p] (h : p) : tup [.bool true] = .bool (decide p) := by rw [decide_eq_true h]; rfl

theorem IV.nrm.le {x : IV} {z : Int} (h : x.nrm U M z) {k b : Nat} (hz : Sz z k) (hk : k ≤ b) : x.n ≤ b := Nat.le_trans (h.len_le hz) hk

end Go.Proofs.Ytlnmhjkagnfnaaa

/- Fractions: their plain law; how they lie in memory. -/
namespace Go.Proofs.Ytlnmhjkagnfnaaa
open Go.Hp

/-! ### the plain law -/
theorem over_pos {n d : Int} (hd : 0 < d) : (Rat.divInt n d).num = n / (Int.gcd n d : Int) ∧ ((Rat.divInt n d).den : Int) = d / (Int.gcd n d : Int) := by
  rw [Rat.num_divInt, Rat.den_divInt, if_neg (by omega), Int.sign_eq_one_of_pos hd, Int.one_mul, Int.gcd_comm d n]
  refine ⟨rfl, ?_⟩
  rw [Int.natCast_ediv]
  congr 1
  omega
theorem over_neg {n d : Int} (hd : d < 0) : (Rat.divInt n d).num = n / (-(Int.gcd n d : Int)) ∧ ((Rat.divInt n d).den : Int) = d / (-(Int.gcd n d : Int)) := by
  rw [← Rat.neg_divInt_neg]
  obtain ⟨h1, h2⟩ := over_pos (n := -n) (d := -d) (by omega)
  rw [h1, h2, Int.neg_gcd, Int.gcd_neg]
  exact ⟨by rw [Int.ediv_neg, Int.neg_ediv_of_dvd (Int.gcd_dvd_left n d)], by rw [Int.ediv_neg, Int.neg_ediv_of_dvd (Int.gcd_dvd_right n d)]⟩
theorem rat_add (p q : Rat) : p + q = Rat.divInt (p.num * q.den + q.num * p.den) ((p.den : Int) * q.den) := by
  rw [Rat.add_def', ← Rat.divInt_ofNat]; simp
theorem rat_mul (p q : Rat) : p * q = Rat.divInt (p.num * q.num) ((p.den : Int) * q.den) := by
  rw [Rat.mul_def', ← Rat.divInt_ofNat]; simp
theorem rat_self (q : Rat) : Rat.divInt q.num (q.den : Int) = q := Rat.num_divInt_den q
theorem rat_div (p q : Rat) : p / q = Rat.divInt (p.num * q.den) ((p.den : Int) * q.num) := by
  rw [Rat.div_def]
  conv => lhs; rw [← rat_self q]
  rw [Rat.inv_divInt]
  conv => lhs; rw [← rat_self p]
  rw [Rat.divInt_mul_divInt]
theorem rat_den_pos (q : Rat) : 0 < (q.den : Int) := by have := q.den_pos; omega
/-! ### sizes -/
def Szq (q : Rat) (k : Nat) : Prop := Sz q.num k ∧ Sz (q.den : Int) k
theorem Szq.mono {q : Rat} {j k : Nat} (h : Szq q j) (hk : j ≤ k) : Szq q k := ⟨h.1.mono hk, h.2.mono hk⟩
theorem sz_one {k : Nat} (h : 1 ≤ k) : Sz 1 k := by
  unfold Sz
  exact Nat.lt_of_lt_of_le (by decide : (1 : Int).natAbs < 4294967296 ^ 1) (Nat.pow_le_pow_right (by decide) h)
theorem szq_div {n d : Int} {k : Nat} (hn : Sz n k) (hd : Sz d k) (hk : 1 ≤ k) : Szq (Rat.divInt n d) k := by
  refine ⟨?_, ?_⟩
  · rw [Rat.num_divInt]
    unfold Sz at *
    refine Nat.lt_of_le_of_lt (Int.natAbs_ediv_le_natAbs _ _) (Nat.lt_of_le_of_lt ?_ hn)
    rw [Int.natAbs_mul, Int.natAbs_sign]
    split <;> simp
  · rw [Rat.den_divInt]
    split
    · exact sz_one hk
    · unfold Sz at *
      rw [Int.natAbs_natCast]
      exact Nat.lt_of_le_of_lt (Nat.div_le_self _ _) hd
theorem Szq.pos {q : Rat} {k : Nat} (h : Szq q k) : 1 ≤ k := by
  rcases Nat.eq_zero_or_pos k with h0 | h0
  · subst h0
    have := h.2
    have := rat_den_pos q
    unfold Sz at *
    omega
  · exact h0
theorem Szq.neg {q : Rat} {k : Nat} (h : Szq q k) : Szq (-q) k := ⟨h.1.neg, h.2⟩
theorem Szq.add {p q : Rat} {j k : Nat} (h : Szq p j) (h' : Szq q k) : Szq (p + q) (j + k + 1) := by
  rw [rat_add]
  refine szq_div ?_ ((h.2.mul h'.2).mono (by omega)) (by omega)
  have h2 := h'.1.mul h.2
  rw [Nat.add_comm k j] at h2
  exact (h.1.mul h'.2).add h2
theorem Szq.sub {p q : Rat} {j k : Nat} (h : Szq p j) (h' : Szq q k) : Szq (p - q) (j + k + 1) := by
  rw [Rat.sub_eq_add_neg]; exact h.add h'.neg
theorem Szq.mul {p q : Rat} {j k : Nat} (h : Szq p j) (h' : Szq q k) : Szq (p * q) (j + k) := by
  rw [rat_mul]
  exact szq_div (h.1.mul h'.1) (h.2.mul h'.2) (by have := h.pos; omega)
theorem Szq.div {p q : Rat} {j k : Nat} (h : Szq p j) (h' : Szq q k) : Szq (p / q) (j + k) := by
  rw [rat_div]
  exact szq_div (h.1.mul h'.2) (h.2.mul h'.1) (by have := h.pos; omega)

/-! ### in memory -/
structure QV where
  num : IV
  den : IV
def QV.v (x : QV) : Value := .agg #[.bool x.num.neg, .slice x.num.p x.num.n x.num.c, .bool x.den.neg, .slice x.den.p x.den.n x.den.c]
/-- x stands for q, in whatever terms. -/
def QV.rep (x : QV) (U : UH) (M : MH) (q : Rat) : Prop := ∃ n d : Int, x.num.rep U M n ∧ x.den.rep U M d ∧ q = Rat.divInt n d
/-- x stands for q and is normalized. -/
def QV.nrm (x : QV) (U : UH) (M : MH) (q : Rat) : Prop := x.num.nrm U M q.num ∧ x.den.nrm U M (q.den : Int)
/-- x is normalized, stands for q, and its digits are the call's own. -/
def QV.own (x : QV) (D : MH) (q : Rat) : Prop := ∃ Dn Dd, D = Dd ++ Dn ∧ x.num.own Dn q.num ∧ x.den.own Dd (q.den : Int)
abbrev QV.le (x : QV) (k : Nat) : Prop := x.num.n ≤ k ∧ x.den.n ≤ k
abbrev zeroIV0 : IV := ⟨false, none, 0, 0⟩
abbrev zeroQV : QV := ⟨zeroIV0, zeroIV0⟩

variable {G : World} {U U0 U' : UH} {M M' : MH}
theorem zeroIV0_own : zeroIV0.own [] 0 := ⟨[], Own.nil, Cn.nil, rfl, rfl⟩
theorem QV.rep.up {x : QV} {q : Rat} (h : x.rep U M q) (hU : ULe U U') (hM : M.Sublist M') : x.rep U' M' q := by
  obtain ⟨n, d, h1, h2, h3⟩ := h; exact ⟨n, d, h1.up hU hM, h2.up hU hM, h3⟩
theorem QV.nrm.up {x : QV} {q : Rat} (h : x.nrm U M q) (hU : ULe U U') (hM : M.Sublist M') : x.nrm U' M' q := ⟨h.1.up hU hM, h.2.up hU hM⟩
theorem QV.nrm.rep {x : QV} {q : Rat} (h : x.nrm U M q) : x.rep U M q := ⟨_, _, h.1.rep, h.2.rep, (rat_self q).symm⟩
theorem QV.own.at {x : QV} {D M : MH} {q : Rat} (h : x.own D q) {U : UH} (hs : D.Sublist M) : x.nrm U M q := by
  obtain ⟨Dn, Dd, rfl, h1, h2⟩ := h
  exact ⟨h1.at ((List.sublist_append_right ..).trans hs), h2.at ((List.sublist_append_left ..).trans hs)⟩
theorem QV.own.sett {x : QV} {D : MH} {q : Rat} (h : x.own D q) (hs : Sett U0 U' D) : x.nrm U' [] q := by
  obtain ⟨Dn, Dd, rfl, h1, h2⟩ := h
  exact ⟨h1.sett hs.right, h2.sett hs.left⟩
theorem QV.nrm.le {x : QV} {q : Rat} (h : x.nrm U M q) {k b : Nat} (hz : Szq q k) (hk : k ≤ b) : x.le b := ⟨h.1.le hz.1 hk, h.2.le hz.2 hk⟩
theorem QV.rep.sz {x : QV} {q : Rat} (h : x.rep U M q) {k : Nat} (hn : x.le k) (hk : 1 ≤ k) : Szq q k := by
  obtain ⟨n, d, h1, h2, rfl⟩ := h
  exact szq_div (h1.sz hn.1) (h2.sz hn.2) hk
theorem QV.own.mk {x y : IV} {Dn Dd : MH} {q : Rat} (h1 : x.own Dn q.num) (h2 : y.own Dd (q.den : Int)) : (QV.mk x y).own (Dd ++ Dn) q := ⟨Dn, Dd, rfl, h1, h2⟩

end Go.Proofs.Ytlnmhjkagnfnaaa

/- Strings: their bytes, their parts, their bytes as a row. Program in general; no condition. -/
namespace Go.Proofs.Ytlnmhjkagnfnaaa
open Go.Hp
variable {P : Program} {T : TT} {K : Kont} {N : Nat} {G : World} {E : Env} {U : UH} {M : MH} {L : List Oper} {l : List Ent} {f : Bool} {i : Nat} {o : Oper}

end Go.Proofs.Ytlnmhjkagnfnaaa
