/- Texts of this seat's own, merged: each begins with its own remark. -/
import Derived.Test.YtcfgogamamdipaaM2
import Derived.Lib.ConvBytes
import Derived.Laws.Strings
import Derived.Laws.Slices
/- What a call hands over is settled at once: it may be read ever after, and it was not there before. -/
namespace Go.Hp
variable {P : Program} {G : World} {U : UH} {M : MH}

/-- D is settled in U, and was not there in U0. -/
def Sett (U0 U : UH) (D : MH) : Prop := ∀ e ∈ D, U e.1 = some (.cells e.2.1.cells e.2.2 (0, 0)) ∧ U0 e.1 = none

theorem mem_settleAll {w : World} : ∀ {D : MH} {U : UH}, Mem G U (D ++ M) w → ∃ U', ULe U U' ∧ Mem G U' M w ∧ Sett U U' D
  | [], U, h => ⟨U, ULe.refl U, h, fun e he => (by cases he)⟩
  | (b, k, t) :: D, U, h => by
    have hU := (h.own _ (List.mem_cons_self ..)).2
    have hall := h.own
    obtain ⟨-, h2⟩ := h.settle
    have h1 := ULe.upd (o := .cells k.cells t (0, 0)) hU
    obtain ⟨U', h3, h4, h5⟩ := mem_settleAll h2
    refine ⟨U', h1.trans h3, h4, fun e he => ?_⟩
    rcases List.mem_cons.1 he with rfl | he
    · exact ⟨h3 _ _ (by simp [UH.upd]), hU⟩
    · exact ⟨(h5 e he).1, (hall e (List.mem_append_left _ (List.mem_cons_of_mem _ he))).2⟩

theorem Ct.settle {f : Nat} {args : List Value} {R : Value → UH → MH → Prop} (h : Ct P f args G U M R) :
    Ct P f args G U M fun v U' D' => D' = [] ∧ ∃ U1 D, R v U1 D ∧ ULe U U1 ∧ ULe U1 U' ∧ Sett U1 U' D := by
  refine ⟨h.callable, fun w hw => (h.calls w hw).mono ?_⟩
  rintro e w' ⟨v, U1, D, h1, h2, h3, h4⟩
  obtain ⟨U2, h5, h6, h7⟩ := mem_settleAll h3
  exact ⟨v, U2, [], h1, h2.trans h5, h6, rfl, U1, D, h4, h2, h5, h7⟩

/-- One settled memory within another: along what is known. -/
theorem uc {U' : UH} (h : ULe U U' := by repeat (first | exact ULe.refl _ | assumption | (refine ULe.trans (by assumption) ?_))) : ULe U U' := h

end Go.Hp
namespace Go.Proofs.Ytcfgogamamdipaa
open Go.Hp
variable {G : World} {U U0 U' : UH} {M : MH}

theorem _root_.Go.Hp.Sett.left {A B : MH} (h : Sett U0 U' (A ++ B)) : Sett U0 U' A := fun e he => h e (List.mem_append_left _ he)
theorem _root_.Go.Hp.Sett.right {A B : MH} (h : Sett U0 U' (A ++ B)) : Sett U0 U' B := fun e he => h e (List.mem_append_right _ he)

theorem Own.sett {D : MH} {p : Option Addr} {n c : Nat} {l : List Nat} (h : Own D p n c l) (hs : Sett U0 U' D) : Dig U' [] p n c l := by
  cases h with
  | nil => exact Dig.nil
  | @arr b n c r t hn hc hm hb ht =>
    refine ⟨hn, by omega, hm, hb, fun k d hk => ⟨rfl, fun G w hw => hw.cellU ?_⟩⟩
    simp only [elt, Option.getD_some, add_lit, Nat.zero_add]
    have := (hs _ (List.mem_singleton.2 rfl)).1
    simp only at this
    simp only [UH.cell?, this, Option.isSome_none, Bool.false_eq_true, if_false]
    exact cell_row hk

theorem IV.own.sett {x : IV} {D : MH} {z : Int} (h : x.own D z) (hs : Sett U0 U' D) : x.nrm U' [] z := by
  obtain ⟨l, h1, h2⟩ := h
  exact ⟨l, h1.sett hs, h2⟩

theorem tup_f {p : Prop} [Decidable p] (h : ¬ p) : tup [.bool false] = .bool (decide p) := by rw [decide_eq_false h]; rfl
theorem tup_t {p : Prop} [Decidable p] (h : p) : tup [.bool true] = .bool (decide p) := by rw [decide_eq_true h]; rfl

theorem IV.nrm.le {x : IV} {z : Int} (h : x.nrm U M z) {k b : Nat} (hz : Sz z k) (hk : k ≤ b) : x.n ≤ b := Nat.le_trans (h.len_le hz) hk

end Go.Proofs.Ytcfgogamamdipaa

/- Fractions: their plain law; how they lie in memory. -/
namespace Go.Proofs.Ytcfgogamamdipaa
open Go.Hp

/-! ### the plain law -/
theorem over_pos {n d : Int} (hd : 0 < d) : (Rat.divInt n d).num = n / (Int.gcd n d : Int) ∧ ((Rat.divInt n d).den : Int) = d / (Int.gcd n d : Int) := by
  rw [Rat.num_divInt, Rat.den_divInt, if_neg (by omega), Int.sign_eq_one_of_pos hd, Int.one_mul, Int.gcd_comm d n]
  refine ⟨rfl, ?_⟩
  rw [Int.natCast_ediv]
  congr 1
  omega
theorem over_neg {n d : Int} (hd : d < 0) : (Rat.divInt n d).num = n / (-(Int.gcd n d : Int)) ∧ ((Rat.divInt n d).den : Int) = d / (-(Int.gcd n d : Int)) := by
  rw [← Rat.neg_divInt_neg]
  obtain ⟨h1, h2⟩ := over_pos (n := -n) (d := -d) (by omega)
  rw [h1, h2, Int.neg_gcd, Int.gcd_neg]
  exact ⟨by rw [Int.ediv_neg, Int.neg_ediv_of_dvd (Int.gcd_dvd_left n d)], by rw [Int.ediv_neg, Int.neg_ediv_of_dvd (Int.gcd_dvd_right n d)]⟩
theorem over_one {n : Int} : (Rat.divInt n 1).num = n ∧ ((Rat.divInt n 1).den : Int) = 1 := by
  have := over_pos (n := n) (d := 1) (by decide)
  simpa using this
theorem over_sign {n d : Int} : (Rat.divInt n d).num.sign = n.sign * d.sign := by
  rcases Int.lt_trichotomy d 0 with h | h | h
  · rw [← Rat.neg_divInt_neg, (over_pos (n := -n) (d := -d) (by omega)).1, Int.sign_eq_neg_one_of_neg h]
    by_cases hn : n = 0
    · subst hn; simp
    have hg : 0 < (Int.gcd (-n) (-d) : Int) := by
      have := Int.gcd_pos_of_ne_zero_left (-d) (a := -n) (by omega)
      omega
    have h1 := Int.ediv_mul_cancel (Int.gcd_dvd_left (-n) (-d))
    have h2 := congrArg Int.sign h1
    rw [Int.sign_mul, Int.sign_eq_one_of_pos hg, Int.mul_one] at h2
    rw [h2, Int.sign_neg]; omega
  · subst h; simp
  · rw [(over_pos (n := n) (d := d) h).1, Int.sign_eq_one_of_pos h]
    by_cases hn : n = 0
    · subst hn; simp
    have hg : 0 < (Int.gcd n d : Int) := by
      have := Int.gcd_pos_of_ne_zero_left d (a := n) hn
      omega
    have h1 := Int.ediv_mul_cancel (Int.gcd_dvd_left n d)
    have h2 := congrArg Int.sign h1
    rw [Int.sign_mul, Int.sign_eq_one_of_pos hg, Int.mul_one] at h2
    rw [h2]; omega
theorem rat_add (p q : Rat) : p + q = Rat.divInt (p.num * q.den + q.num * p.den) ((p.den : Int) * q.den) := by
  rw [Rat.add_def', ← Rat.divInt_ofNat]; simp
theorem rat_mul (p q : Rat) : p * q = Rat.divInt (p.num * q.num) ((p.den : Int) * q.den) := by
  rw [Rat.mul_def', ← Rat.divInt_ofNat]; simp
theorem rat_self (q : Rat) : Rat.divInt q.num (q.den : Int) = q := Rat.num_divInt_den q
theorem rat_neg (n d : Int) : -(Rat.divInt n d) = Rat.divInt (-n) d := Rat.neg_divInt n d
theorem rat_div (p q : Rat) : p / q = Rat.divInt (p.num * q.den) ((p.den : Int) * q.num) := by
  rw [Rat.div_def]
  conv => lhs; rw [← rat_self q]
  rw [Rat.inv_divInt]
  conv => lhs; rw [← rat_self p]
  rw [Rat.divInt_mul_divInt]
theorem rat_den_pos (q : Rat) : 0 < (q.den : Int) := by have := q.den_pos; omega
theorem rat_num_zero {q : Rat} : q.num = 0 ↔ q = 0 := Rat.num_eq_zero
theorem divInt_quo (n d m e : Int) : Rat.divInt n d / Rat.divInt m e = Rat.divInt (n * e) (d * m) := by
  rw [Rat.div_def, Rat.inv_divInt, Rat.divInt_mul_divInt]

theorem rat_abs' (q : Rat) : q.abs = if q.num < 0 then -q else q := by
  unfold Rat.abs
  have h1 : (0 ≤ q) ↔ ¬ q.num < 0 := by rw [Rat.le_iff]; simp
  by_cases h : q.num < 0
  · rw [if_pos h, if_neg (fun e => (h1.1 e) h)]
  · rw [if_neg h, if_pos (h1.2 h)]
theorem rat_abs_num' (q : Rat) : q.abs.num = (q.num.natAbs : Int) := by
  rw [rat_abs']; split
  · rw [Rat.neg_num]; omega
  · omega
theorem rat_abs_den' (q : Rat) : q.abs.den = q.den := by
  rw [rat_abs']; split <;> rfl
theorem rat_eq_num' {y : Rat} (h : y.den = 1) : y = (y.num : Rat) := Rat.ext rfl (by rw [h]; rfl)

/-! ### sizes -/
def Szq (q : Rat) (k : Nat) : Prop := Sz q.num k ∧ Sz (q.den : Int) k
theorem Szq.mono {q : Rat} {j k : Nat} (h : Szq q j) (hk : j ≤ k) : Szq q k := ⟨h.1.mono hk, h.2.mono hk⟩
theorem sz_one {k : Nat} (h : 1 ≤ k) : Sz 1 k := by
  unfold Sz
  exact Nat.lt_of_lt_of_le (by decide : (1 : Int).natAbs < 4294967296 ^ 1) (Nat.pow_le_pow_right (by decide) h)
theorem szq_div {n d : Int} {k : Nat} (hn : Sz n k) (hd : Sz d k) (hk : 1 ≤ k) : Szq (Rat.divInt n d) k := by
  refine ⟨?_, ?_⟩
  · rw [Rat.num_divInt]
    unfold Sz at *
    refine Nat.lt_of_le_of_lt (Int.natAbs_ediv_le_natAbs _ _) (Nat.lt_of_le_of_lt ?_ hn)
    rw [Int.natAbs_mul, Int.natAbs_sign]
    split <;> simp
  · rw [Rat.den_divInt]
    split
    · exact sz_one hk
    · unfold Sz at *
      rw [Int.natAbs_natCast]
      exact Nat.lt_of_le_of_lt (Nat.div_le_self _ _) hd
theorem Szq.pos {q : Rat} {k : Nat} (h : Szq q k) : 1 ≤ k := by
  rcases Nat.eq_zero_or_pos k with h0 | h0
  · subst h0
    have := h.2
    have := rat_den_pos q
    unfold Sz at *
    omega
  · exact h0
theorem Szq.neg {q : Rat} {k : Nat} (h : Szq q k) : Szq (-q) k := ⟨h.1.neg, h.2⟩
theorem Szq.add {p q : Rat} {j k : Nat} (h : Szq p j) (h' : Szq q k) : Szq (p + q) (j + k + 1) := by
  rw [rat_add]
  refine szq_div ?_ ((h.2.mul h'.2).mono (by omega)) (by omega)
  have h2 := h'.1.mul h.2
  rw [Nat.add_comm k j] at h2
  exact (h.1.mul h'.2).add h2
theorem Szq.sub {p q : Rat} {j k : Nat} (h : Szq p j) (h' : Szq q k) : Szq (p - q) (j + k + 1) := by
  rw [Rat.sub_eq_add_neg]; exact h.add h'.neg
theorem Szq.mul {p q : Rat} {j k : Nat} (h : Szq p j) (h' : Szq q k) : Szq (p * q) (j + k) := by
  rw [rat_mul]
  exact szq_div (h.1.mul h'.1) (h.2.mul h'.2) (by have := h.pos; omega)
theorem Szq.div {p q : Rat} {j k : Nat} (h : Szq p j) (h' : Szq q k) : Szq (p / q) (j + k) := by
  rw [rat_div]
  exact szq_div (h.1.mul h'.2) (h.2.mul h'.1) (by have := h.pos; omega)

/-! ### in memory -/
structure QV where
  num : IV
  den : IV
def QV.v (x : QV) : Value := .agg #[.bool x.num.neg, .slice x.num.p x.num.n x.num.c, .bool x.den.neg, .slice x.den.p x.den.n x.den.c]
/-- x stands for q, in whatever terms. -/
def QV.rep (x : QV) (U : UH) (M : MH) (q : Rat) : Prop := ∃ n d : Int, x.num.rep U M n ∧ x.den.rep U M d ∧ q = Rat.divInt n d
/-- x stands for q and is normalized. -/
def QV.nrm (x : QV) (U : UH) (M : MH) (q : Rat) : Prop := x.num.nrm U M q.num ∧ x.den.nrm U M (q.den : Int)
/-- x is normalized, stands for q, and its digits are the call's own. -/
def QV.own (x : QV) (D : MH) (q : Rat) : Prop := ∃ Dn Dd, D = Dd ++ Dn ∧ x.num.own Dn q.num ∧ x.den.own Dd (q.den : Int)
abbrev QV.le (x : QV) (k : Nat) : Prop := x.num.n ≤ k ∧ x.den.n ≤ k
abbrev zeroIV0 : IV := ⟨false, none, 0, 0⟩
abbrev zeroQV : QV := ⟨zeroIV0, zeroIV0⟩

variable {G : World} {U U0 U' : UH} {M M' : MH}
theorem zeroIV0_own : zeroIV0.own [] 0 := ⟨[], Own.nil, Cn.nil, rfl, rfl⟩
theorem QV.rep.up {x : QV} {q : Rat} (h : x.rep U M q) (hU : ULe U U') (hM : M.Sublist M') : x.rep U' M' q := by
  obtain ⟨n, d, h1, h2, h3⟩ := h; exact ⟨n, d, h1.up hU hM, h2.up hU hM, h3⟩
theorem QV.nrm.up {x : QV} {q : Rat} (h : x.nrm U M q) (hU : ULe U U') (hM : M.Sublist M') : x.nrm U' M' q := ⟨h.1.up hU hM, h.2.up hU hM⟩
theorem QV.nrm.rep {x : QV} {q : Rat} (h : x.nrm U M q) : x.rep U M q := ⟨_, _, h.1.rep, h.2.rep, (rat_self q).symm⟩
theorem QV.own.at {x : QV} {D M : MH} {q : Rat} (h : x.own D q) {U : UH} (hs : D.Sublist M) : x.nrm U M q := by
  obtain ⟨Dn, Dd, rfl, h1, h2⟩ := h
  exact ⟨h1.at ((List.sublist_append_right ..).trans hs), h2.at ((List.sublist_append_left ..).trans hs)⟩
theorem QV.own.sett {x : QV} {D : MH} {q : Rat} (h : x.own D q) (hs : Sett U0 U' D) : x.nrm U' [] q := by
  obtain ⟨Dn, Dd, rfl, h1, h2⟩ := h
  exact ⟨h1.sett hs.right, h2.sett hs.left⟩
theorem QV.nrm.le {x : QV} {q : Rat} (h : x.nrm U M q) {k b : Nat} (hz : Szq q k) (hk : k ≤ b) : x.le b := ⟨h.1.le hz.1 hk, h.2.le hz.2 hk⟩
theorem QV.rep.sz {x : QV} {q : Rat} (h : x.rep U M q) {k : Nat} (hn : x.le k) (hk : 1 ≤ k) : Szq q k := by
  obtain ⟨n, d, h1, h2, rfl⟩ := h
  exact szq_div (h1.sz hn.1) (h2.sz hn.2) hk
theorem QV.own.mk {x y : IV} {Dn Dd : MH} {q : Rat} (h1 : x.own Dn q.num) (h2 : y.own Dd (q.den : Int)) : (QV.mk x y).own (Dd ++ Dn) q := ⟨Dn, Dd, rfl, h1, h2⟩

end Go.Proofs.Ytcfgogamamdipaa

/- Strings: their bytes, their parts, their bytes as a row. Program in general; no condition. -/
namespace Go.Proofs.Ytcfgogamamdipaa
open Go.Hp
variable {P : Program} {T : TT} {K : Kont} {N : Nat} {G : World} {E : Env} {U : UH} {M : MH} {L : List Oper} {l : List Ent} {f : Bool} {i : Nat} {o : Oper}

theorem bstr_size (s : List Nat) : (bstr s).size = s.length := by simp [bstr, ByteArray.size]
theorem bstr_get {s : List Nat} {k c : Nat} (hk : s[k]? = some c) (hc : c < 256) (h : k < (bstr s).size) : ((bstr s)[k]'h).toNat = c := by
  obtain ⟨h1, h2⟩ := List.getElem?_eq_some_iff.1 hk
  simp [bstr, ByteArray.getElem_eq_getElem_data, h2, Nat.mod_eq_of_lt hc]
theorem bstr_drop (s : List Nat) (k : Nat) : (bstr s).extract k s.length = bstr (s.drop k) := by
  apply ByteArray.ext
  simp [bstr, ByteArray.data_extract, List.take_of_length_le]
theorem bstr_take (s : List Nat) (k : Nat) : (bstr s).extract 0 k = bstr (s.take k) := by
  apply ByteArray.ext
  simp [bstr, ByteArray.data_extract]
theorem bstr_append (a b : List Nat) : bstr a ++ bstr b = bstr (a ++ b) := by
  apply ByteArray.ext
  simp [bstr]
theorem bstr_inj : ∀ {a b : List Nat}, (∀ c ∈ a, c < 256) → (∀ c ∈ b, c < 256) → bstr a = bstr b → a = b := by
  intro a b ha hb h
  have h2 : a.map UInt8.ofNat = b.map UInt8.ofNat := by
    have := congrArg ByteArray.data h
    simpa [bstr] using this
  have h3 := congrArg (List.map UInt8.toNat) h2
  rw [List.map_map, List.map_map] at h3
  have e : ∀ l : List Nat, (∀ c ∈ l, c < 256) → l.map (UInt8.toNat ∘ UInt8.ofNat) = l := by
    intro l hl
    conv => rhs; rw [← List.map_id l]
    refine List.map_congr_left fun c hc => ?_
    simp [Nat.mod_eq_of_lt (hl c hc)]
  rwa [e a ha, e b hb] at h3
/-- Every string is one of bytes. -/
theorem bstr_all (v : ByteArray) : ∃ s, v = bstr s ∧ ∀ c ∈ s, c < 256 := by
  refine ⟨v.data.toList.map UInt8.toNat, ?_, fun c hc => ?_⟩
  · apply ByteArray.ext
    simp [bstr, Function.comp_def]
  · obtain ⟨x, _, rfl⟩ := List.mem_map.1 hc
    exact x.toNat_lt

/-- s[k] -/
theorem yl_strAt {t k c : Nat} {x y : Operand} {s : List Nat} {kk : IntKind} {iv : Int} {ti : TI} (hS : Sym P T) (ho : o.op = .index t x y) (hx : ev E x = some (.string (bstr s))) (hy : ev E y = some (.int kk iv)) (hi : iv = (k : Int))
    (hT : lkT T t = some ti) (hk : ti.k = .str) (hc : s[k]? = some c) (hb : c < 256) : Yl P N G o E U M (.int .u8 (c : Int)) := by
  subst hi
  refine ⟨fun a w ha hw => ?_⟩
  obtain ⟨d, hd, hk'⟩ := (hS.at hT).und
  rw [hk] at hk'
  have := kindOf_str hk'
  subst this
  have hlt : k < (bstr s).size := by rw [bstr_size]; exact (List.getElem?_eq_some_iff.1 hc).1
  have hrun := run_index_string (P := P) w t (bstr s) kk (k : Int) hd
  rw [dif_pos ⟨by omega, by omega⟩] at hrun
  simp only [Int.toNat_natCast, bstr_get hc hb] at hrun
  simp only [execOp, ho, ha.eval hx, ha.eval hy, Sem.run_bind, hrun, Result.andThen_ok, Sem.run_pure]

/-- s[k:] -/
theorem yl_strFrom {t k : Nat} {x y : Operand} {s : List Nat} {kk : IntKind} {iv : Int} {ti : TI} (hS : Sym P T) (ho : o.op = .slice t x (some y) none none) (hx : ev E x = some (.string (bstr s))) (hy : ev E y = some (.int kk iv)) (hi : iv = (k : Int))
    (hT : lkT T t = some ti) (hk : ti.k = .str) (hc : k ≤ s.length) : Yl P N G o E U M (.string (bstr (s.drop k))) := by
  subst hi
  refine ⟨fun a w ha hw => ?_⟩
  obtain ⟨d, hd, hk'⟩ := (hS.at hT).und
  rw [hk] at hk'
  have := kindOf_str hk'
  subst this
  have hrun := run_slice_string_l (P := P) w t (bstr s) hd kk (k : Int) (by omega) (by rw [bstr_size]; omega)
  rw [bstr_size, Int.toNat_natCast, bstr_drop] at hrun
  simp only [execOp, ho, ha.eval hx, ha.eval hy, Instr.sliceAt, Option.map_some, Option.map_none, Sem.run_bind, run_underlying' hd, hrun, Result.andThen_ok, Sem.run_pure]

/-- s[:k] -/
theorem yl_strTo {t k : Nat} {x y : Operand} {s : List Nat} {kk : IntKind} {iv : Int} {ti : TI} (hS : Sym P T) (ho : o.op = .slice t x none (some y) none) (hx : ev E x = some (.string (bstr s))) (hy : ev E y = some (.int kk iv)) (hi : iv = (k : Int))
    (hT : lkT T t = some ti) (hk : ti.k = .str) (hc : k ≤ s.length) : Yl P N G o E U M (.string (bstr (s.take k))) := by
  subst hi
  refine ⟨fun a w ha hw => ?_⟩
  obtain ⟨d, hd, hk'⟩ := (hS.at hT).und
  rw [hk] at hk'
  have := kindOf_str hk'
  subst this
  have hrun := run_slice_string_h (P := P) w t (bstr s) hd kk (k : Int) (by omega) (by rw [bstr_size]; omega)
  rw [Int.toNat_natCast, bstr_take] at hrun
  simp only [execOp, ho, ha.eval hx, ha.eval hy, Instr.sliceAt, Option.map_some, Option.map_none, Sem.run_bind, run_underlying' hd, hrun, Result.andThen_ok, Sem.run_pure]

/-- []byte(s) -/
theorem sl_bytes {s d dd bt bt' : Nat} {x : Operand} {r : List Nat} {z' : Value} {ti : TI} (hS : Sym P T) (ho : o.op = .convert s d x) (hx : ev E x = some (.string (bstr r))) (hr : ∀ c ∈ r, c < 256)
    (hs : lkT T s = some ti) (hk : ti.k = .str) (hd : lkT T d = some ⟨.slice TU8, bt, bt', z'⟩) (he : lkT T TU8 = some ⟨.int .u8, 1, 1, .int .u8 0⟩)
    (hg : gok L E o.guard = some true) (hc : cB f T o = true) (hdd : o.dst = some dd) (hN : Nat.blt dd N = true)
    (h : ∀ U' b c, ULe U U' → (∀ (j e : Nat), r[j]? = some e → U'.cell? ⟨b, j, none⟩ = some (.int .u8 (e : Int))) → SL P T L K N G l ((dd, .slice (some ⟨b, 0, none⟩) r.length c) :: E) U' M) : SL P T L K N G ((f, i, o) :: l) E U M := by
  refine .gr (R := fun v U' D => ∃ b c, v = .slice (some ⟨b, 0, none⟩) r.length c ∧ D = [] ∧ ∀ (j e : Nat), r[j]? = some e → U'.cell? ⟨b, j, none⟩ = some (.int .u8 (e : Int))) (cB_spec hc) hdd hN (fun M2 a w ha hw => ?_)
    (fun v U' D hU ⟨b, c, h1, h2, h3⟩ => by subst h1 h2; exact h U' b c hU h3)
  obtain ⟨d1, hd1, hk1⟩ := (hS.at hs).und
  rw [hk] at hk1
  have := kindOf_str hk1
  subst this
  obtain ⟨d2, hd2, hk2⟩ := (hS.at hd).und
  have := kindOf_slice hk2
  subst this
  obtain ⟨de, hde, hke⟩ := (hS.at he).und
  have e1 : de = .int .u8 := by cases de <;> simp [kindOf] at hke; simp [hke]
  subst e1
  have hrun := Go.Lib.run_convert_string_bytes (P := P) w s d TU8 (bstr r) hd1 hd2 hde
  unfold wpV
  rw [gok_wanted hg ha, if_pos rfl]
  have hrun2 : (execOp a.eval o).run P w = .ok (.value (.slice (some ⟨w.heap.size, 0, none⟩) (bstr r).size (grownCap w (bstr r).size 0 TU8))) (Go.Lib.bytesWorld w TU8 (bstr r)) := by
    simp only [execOp, ho, ha.eval hx, Sem.run_bind, hrun, Result.andThen_ok, Sem.run_pure]
  rw [hrun2]
  have hlt : ∀ j ob, w.heap[j]? = some ob → j < w.heap.size := fun j ob hj => (Array.getElem?_eq_some_iff.1 hj).1
  have hUn : U w.heap.size = none := by
    cases hu : U w.heap.size with
    | none => rfl
    | some ob => exact absurd (hlt _ _ (hw.old _ _ hu)) (by omega)
  refine ⟨U.upd w.heap.size (.cells (Go.Lib.bytesCells w TU8 (bstr r)) TU8 ((Go.Lib.bytesCells w TU8 (bstr r)).size, (Go.Lib.bytesCells w TU8 (bstr r)).size + 1)), [], ULe.upd hUn, ?_, w.heap.size, _, by rw [bstr_size], rfl, ?_⟩
  · rw [List.nil_append]
    refine ⟨hw.os, hw.tape, hw.output, fun j ob hj => ?_, fun e he => ?_, hw.nd⟩
    · unfold UH.upd at hj
      by_cases ej : j = w.heap.size
      · subst ej
        simp at hj
        rw [← hj]
        exact Go.Lib.bytesWorld_at_new w TU8 (bstr r)
      · simp [ej] at hj
        have := hw.old _ _ hj
        rw [Go.Lib.bytesWorld_at_old _ _ _ _ (hlt _ _ this)]; exact this
    · obtain ⟨h1, h2⟩ := hw.own e he
      have := hlt _ _ h1
      refine ⟨by rw [Go.Lib.bytesWorld_at_old _ _ _ _ this]; exact h1, ?_⟩
      unfold UH.upd
      rw [if_neg (by omega)]; exact h2
  · intro j e hj
    rw [show ∀ (c : Array Value) (t : Nat) (q : Nat × Nat) (k : Nat), (U.upd w.heap.size (.cells c t q)).cell? ⟨w.heap.size, k, none⟩ = c[k]? from fun c t q k => by simp [UH.cell?, UH.upd]]
    obtain ⟨h1, h2⟩ := List.getElem?_eq_some_iff.1 hj
    have h3 := hr e (List.mem_of_getElem? hj)
    simp [Go.Lib.bytesCells, bstr, Array.getElem?_append, h1, h2, Nat.mod_eq_of_lt h3]

end Go.Proofs.Ytcfgogamamdipaa
