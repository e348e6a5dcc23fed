/- Texts of this seat's own, merged: each begins with its own remark. -/
import Derived.Test.YtjfkodlddladhaaGreatM18
import Derived.Test.YtjfkodlddladhaaGreatM10
import Derived.Test.YtjfkodlddladhaaGreatM8
import Derived.Test.YtjfkodlddladhaaGreatM5
import Derived.Test.YtjfkodlddladhaaGreatM7
import Derived.Test.YtjfkodlddladhaaGreatM14
/- Are two integers the same, digit by digit: the reference's Same, the helpers' SameInt. -/
namespace Go.Proofs.YtjfkodlddladhaaGreat
open Go.Hp
variable {G : World} {U : UH} {M : MH}
theorem Qdz {x y : IV} {l1 l : List Nat} (hd1 : Dig U M x.p x.n x.c l1) (hd : Dig U M y.p y.n y.c l) :
  Ct Tryz.prog 54 [x.v, y.v] G U M fun v U' D => v = .bool (decide (x.neg = y.neg ∧ l1 = l)) ∧ U = U' ∧ D = [] := by
 obtain ⟨neg, p, n, c⟩ := y
 obtain ⟨neg1, p1, n1, c1⟩ := x
 simp only at hd hd1 ⊢
 have hl := hd.len
 have hl1 := hd1.len
 have h3 := hd.cap
 have h4 := hd.capm
 change Ct _ _ [Value.agg #[.bool neg1, .slice p1 n1 c1], Value.agg #[.bool neg, .slice p n c]] G U M _
 refine Qf Tryz.func54 rfl rfl rfl rfl ?_
 repeat (first|refine Qb ?_|refine Qa fun _=>?_|refine w_al fun _=>?_)
 rename_i b2 b3
 refine QdQ rfl rfl (fun h5 => ?_) (fun h5 => ?_)
 ·have hne : neg1 ≠ neg := fun e => by rw [e] at h5; simp at h5
  repeat (first|refine Qb ?_|refine Qa fun _=>?_|refine w_al fun _=>?_)
  exact Qe [] sym rfl (.cons (.tmp rfl) .nil) (ULe.refl _) sb (.inl rfl) ⟨VK (fun h => hne h.1), rfl, rfl⟩
 have hnn : neg1 = neg := by cases neg1 <;> cases neg <;> simp at h5 ⊢
 repeat (first|refine Qb ?_|refine Qa fun _=>?_|refine w_al fun _=>?_)
 refine QZ rfl (fun h6 => ?_) (fun h6 => ?_)
 ·repeat (first|refine Qb ?_|refine Qa fun _=>?_|refine w_al fun _=>?_)
  exact Qe [] sym rfl (.cons (.tmp rfl) .nil) (ULe.refl _) sb (.inl rfl) ⟨VK (fun h => h6 (by rw [← hl, ← hl1, h.2])), rfl, rfl⟩
 have hn : n1 = n := by omega
 subst hn
 repeat (first|refine Qb ?_|refine Qa fun _=>?_|refine w_al fun _=>?_)
 refine Ql (fun m E U' M' => ∃ (i : Nat), i ≤ n1 ∧ l1.take i = l.take i ∧ E = [(5, .int .i64 (i : Int)), (2, .pointer (some ⟨b2, 0, none⟩)), (3, .pointer (some ⟨b3, 0, none⟩))] ∧ U = U' ∧
   M' = (b3, .var (.agg #[.bool neg, .slice p n1 c]), 43) :: (b2, .var (.agg #[.bool neg1, .slice p1 n1 c1]), 43) :: M ∧ m = n1 - i) (n0 := n1)
  (E0 := [(5, .int .i64 ((0 : Nat) : Int)), (2, .pointer (some ⟨b2, 0, none⟩)), (3, .pointer (some ⟨b3, 0, none⟩))]) ⟨rfl, rfl, rfl, trivial⟩ ⟨0, by omega, rfl, rfl, rfl, rfl, rfl⟩ ?_
 rintro m E U' M' ⟨i, hi, ht, rfl, rfl, rfl, rfl⟩
 try refine Qc ?_
 refine Qj rfl (fun h5 => ?_) (fun h5 => ?_)
 ·obtain ⟨d, hdd, hbd, hp1, hc1⟩ := (hd1.up (U' := U) (ULe.refl _) (M' := (b3, .var (.agg #[.bool neg, .slice p n1 c]), 43) :: (b2, .var (.agg #[.bool neg1, .slice p1 n1 c1]), 43) :: M) sb).get (k := i) (by omega)
  obtain ⟨d2, hdd2, hbd2, hp2, hc2⟩ := (hd.up (U' := U) (ULe.refl _) (M' := (b3, .var (.agg #[.bool neg, .slice p n1 c]), 43) :: (b2, .var (.agg #[.bool neg1, .slice p1 n1 c1]), 43) :: M) sb).get (k := i) (by omega)
  try refine Qc ?_
  refine Qt [0, 1, 2, 3, 4, 5, 6, 7, 8, 9, 10] sym (by kernel_rfl) ?_
  try refine Qc ?_
  refine sl_y (Qn sym rfl rfl rfl rfl rfl rfl (by omega) hp1) rfl rfl rfl rfl ?_; refine sl_y (Qu sym rfl rfl rfl rfl hc1) rfl rfl rfl rfl ?_
  try refine Qc ?_
  refine sl_y (Qn sym rfl rfl rfl rfl rfl rfl (by omega) hp2) rfl rfl rfl rfl ?_; refine sl_y (Qu sym rfl rfl rfl rfl hc2) rfl rfl rfl rfl ?_
  try refine Qc ?_
  refine QZ rfl (fun h7 => ?_) (fun h7 => ?_)
  ·have hne : l1 ≠ l := fun e => h7 (by rw [e, hdd2] at hdd; cases hdd; rfl)
   try refine Qc ?_
   exact Qe [] sym rfl (.cons (.tmp rfl) .nil) (ULe.refl _) sb (.inl rfl) ⟨VK (fun h => hne h.2), rfl, rfl⟩
  have hdd3 : d = d2 := by omega
  subst hdd3
  try refine Qc ?_
  exact Qi (E' := [(5, .int .i64 ((i : Int) + 1)), (2, .pointer (some ⟨b2, 0, none⟩)), (3, .pointer (some ⟨b3, 0, none⟩))]) (m := n1 - (i + 1)) ⟨rfl, rfl, rfl, trivial⟩ (by omega) ⟨i + 1, by omega, by rw [List.take_add_one, List.take_add_one, ht, hdd, hdd2], rfl, rfl, rfl, rfl⟩
 ·have hll : l1 = l := by rwa [List.take_of_length_le (by omega), List.take_of_length_le (by omega)] at ht
  try refine Qc ?_
  exact Qe [] sym rfl (.cons (.tmp rfl) .nil) (ULe.refl _) sb (.inl rfl) ⟨Qfm ⟨hnn, hll⟩, rfl, rfl⟩
theorem Qfq {x y : IV} {z w : Int} (hx : x.nrm U M z) (hy : y.nrm U M w) :
  Ct Tryz.prog 54 [x.v, y.v] G U M fun v U' D => v = .bool (decide (z = w)) ∧ U = U' ∧ D = [] := by
 obtain ⟨l1, hd1, hc1, hv1, hn1⟩ := hx
 obtain ⟨l, hd, hc, hv, hn⟩ := hy
 refine (Qdz hd1 hd).mono ?_
 rintro v U' D hU ⟨rfl, rfl, rfl⟩
 refine ⟨congrArg Value.bool (decide_eq_decide.2 ⟨fun ⟨h1, h2⟩ => ?_, fun h => ?_⟩), rfl, rfl⟩
 ·subst h2
  have h3 : z.natAbs = w.natAbs := by rw [← hv1, ← hv]
  rw [hn1, hn] at h1
  have := decide_eq_decide.1 h1
  omega
 ·subst h
  exact ⟨by rw [hn1, hn], hc1.inj hc (by rw [hv1, hv])⟩
theorem Qfe {x y : IV} {l1 l : List Nat} (hd1 : Dig U M x.p x.n x.c l1) (hd : Dig U M y.p y.n y.c l) :
  Ct Tryz.prog 44 [x.v, y.v] G U M fun v U' D => v = .bool (decide (x.neg = y.neg ∧ l1 = l)) ∧ U = U' ∧ D = [] := by
 obtain ⟨neg, p, n, c⟩ := y
 obtain ⟨neg1, p1, n1, c1⟩ := x
 simp only at hd hd1 ⊢
 have hl := hd.len
 have hl1 := hd1.len
 have h3 := hd.cap
 have h4 := hd.capm
 change Ct _ _ [Value.agg #[.bool neg1, .slice p1 n1 c1], Value.agg #[.bool neg, .slice p n c]] G U M _
 refine Qf Tryz.func44 rfl rfl rfl rfl ?_
 repeat (first|refine Qb ?_|refine Qa fun _=>?_|refine w_al fun _=>?_)
 rename_i b2 b3
 refine QdQ rfl rfl (fun h5 => ?_) (fun h5 => ?_)
 ·have hne : neg1 ≠ neg := fun e => by rw [e] at h5; simp at h5
  repeat (first|refine Qb ?_|refine Qa fun _=>?_|refine w_al fun _=>?_)
  exact Qe [] sym rfl (.cons (.tmp rfl) .nil) (ULe.refl _) sb (.inl rfl) ⟨VK (fun h => hne h.1), rfl, rfl⟩
 have hnn : neg1 = neg := by cases neg1 <;> cases neg <;> simp at h5 ⊢
 repeat (first|refine Qb ?_|refine Qa fun _=>?_|refine w_al fun _=>?_)
 refine QZ rfl (fun h6 => ?_) (fun h6 => ?_)
 ·repeat (first|refine Qb ?_|refine Qa fun _=>?_|refine w_al fun _=>?_)
  exact Qe [] sym rfl (.cons (.tmp rfl) .nil) (ULe.refl _) sb (.inl rfl) ⟨VK (fun h => h6 (by rw [← hl, ← hl1, h.2])), rfl, rfl⟩
 have hn : n1 = n := by omega
 subst hn
 repeat (first|refine Qb ?_|refine Qa fun _=>?_|refine w_al fun _=>?_)
 refine Ql (fun m E U' M' => ∃ (i : Nat), i ≤ n1 ∧ l1.take i = l.take i ∧ E = [(5, .int .i64 (i : Int)), (2, .pointer (some ⟨b2, 0, none⟩)), (3, .pointer (some ⟨b3, 0, none⟩))] ∧ U = U' ∧
   M' = (b3, .var (.agg #[.bool neg, .slice p n1 c]), 43) :: (b2, .var (.agg #[.bool neg1, .slice p1 n1 c1]), 43) :: M ∧ m = n1 - i) (n0 := n1)
  (E0 := [(5, .int .i64 ((0 : Nat) : Int)), (2, .pointer (some ⟨b2, 0, none⟩)), (3, .pointer (some ⟨b3, 0, none⟩))]) ⟨rfl, rfl, rfl, trivial⟩ ⟨0, by omega, rfl, rfl, rfl, rfl, rfl⟩ ?_
 rintro m E U' M' ⟨i, hi, ht, rfl, rfl, rfl, rfl⟩
 try refine Qc ?_
 refine Qj rfl (fun h5 => ?_) (fun h5 => ?_)
 ·obtain ⟨d, hdd, hbd, hp1, hc1⟩ := (hd1.up (U' := U) (ULe.refl _) (M' := (b3, .var (.agg #[.bool neg, .slice p n1 c]), 43) :: (b2, .var (.agg #[.bool neg1, .slice p1 n1 c1]), 43) :: M) sb).get (k := i) (by omega)
  obtain ⟨d2, hdd2, hbd2, hp2, hc2⟩ := (hd.up (U' := U) (ULe.refl _) (M' := (b3, .var (.agg #[.bool neg, .slice p n1 c]), 43) :: (b2, .var (.agg #[.bool neg1, .slice p1 n1 c1]), 43) :: M) sb).get (k := i) (by omega)
  try refine Qc ?_
  refine Qt [0, 1, 2, 3, 4, 5, 6, 7, 8, 9, 10] sym (by kernel_rfl) ?_
  try refine Qc ?_
  refine sl_y (Qn sym rfl rfl rfl rfl rfl rfl (by omega) hp1) rfl rfl rfl rfl ?_; refine sl_y (Qu sym rfl rfl rfl rfl hc1) rfl rfl rfl rfl ?_
  try refine Qc ?_
  refine sl_y (Qn sym rfl rfl rfl rfl rfl rfl (by omega) hp2) rfl rfl rfl rfl ?_; refine sl_y (Qu sym rfl rfl rfl rfl hc2) rfl rfl rfl rfl ?_
  try refine Qc ?_
  refine QZ rfl (fun h7 => ?_) (fun h7 => ?_)
  ·have hne : l1 ≠ l := fun e => h7 (by rw [e, hdd2] at hdd; cases hdd; rfl)
   try refine Qc ?_
   exact Qe [] sym rfl (.cons (.tmp rfl) .nil) (ULe.refl _) sb (.inl rfl) ⟨VK (fun h => hne h.2), rfl, rfl⟩
  have hdd3 : d = d2 := by omega
  subst hdd3
  try refine Qc ?_
  exact Qi (E' := [(5, .int .i64 ((i : Int) + 1)), (2, .pointer (some ⟨b2, 0, none⟩)), (3, .pointer (some ⟨b3, 0, none⟩))]) (m := n1 - (i + 1)) ⟨rfl, rfl, rfl, trivial⟩ (by omega) ⟨i + 1, by omega, by rw [List.take_add_one, List.take_add_one, ht, hdd, hdd2], rfl, rfl, rfl, rfl⟩
 ·have hll : l1 = l := by rwa [List.take_of_length_le (by omega), List.take_of_length_le (by omega)] at ht
  try refine Qc ?_
  exact Qe [] sym rfl (.cons (.tmp rfl) .nil) (ULe.refl _) sb (.inl rfl) ⟨Qfm ⟨hnn, hll⟩, rfl, rfl⟩
theorem Qbm {x y : IV} {z w : Int} (hx : x.nrm U M z) (hy : y.nrm U M w) :
  Ct Tryz.prog 44 [x.v, y.v] G U M fun v U' D => v = .bool (decide (z = w)) ∧ U = U' ∧ D = [] := by
 obtain ⟨l1, hd1, hc1, hv1, hn1⟩ := hx
 obtain ⟨l, hd, hc, hv, hn⟩ := hy
 refine (Qfe hd1 hd).mono ?_
 rintro v U' D hU ⟨rfl, rfl, rfl⟩
 refine ⟨congrArg Value.bool (decide_eq_decide.2 ⟨fun ⟨h1, h2⟩ => ?_, fun h => ?_⟩), rfl, rfl⟩
 ·subst h2
  have h3 : z.natAbs = w.natAbs := by rw [← hv1, ← hv]
  rw [hn1, hn] at h1
  have := decide_eq_decide.1 h1
  omega
 ·subst h
  exact ⟨by rw [hn1, hn], hc1.inj hc (by rw [hv1, hv])⟩
end Go.Proofs.YtjfkodlddladhaaGreat

/- Walks of the reference of layer 2: fractions in lowest terms, conversions, signs. -/
namespace Go.Proofs.YtjfkodlddladhaaGreat
open Go.Hp
variable {G : World} {U : UH} {M : MH}
theorem QgF {z : Int} (h0 : -9223372036854775808 ≤ z) (h1 : z ≤ 9223372036854775807) :
  Ct Tryz.prog 166 [.int .i64 z] G U M fun v U' D => ∃ r : QV, v = r.v ∧ r.nrm U' [] (z : Rat) ∧ D = [] := by
 refine Qf Tryz.func166 rfl rfl rfl rfl ?_
 repeat (first|refine Qb ?_|refine Qa fun _=>?_|refine w_al fun _=>?_)
 refine Qd rfl rfl rfl rfl rfl rfl (fun _ => (ju h0 h1).settle) ?_
 rintro v Uh2 D hU ⟨rfl, _, _, ⟨xh2, rfl, h2, -⟩, -, -, hs⟩
 replace h2 := h2.sett hs
 clear hs
 repeat (first|refine Qb ?_|refine Qa fun _=>?_|refine w_al fun _=>?_)
 refine Qd rfl rfl rfl rfl rfl rfl (fun _ => (ju (z := 1) (by decide) (by decide)).settle) ?_
 rintro v Uh3 D hU ⟨rfl, _, _, ⟨xh3, rfl, h3, -⟩, -, -, hs⟩
 replace h3 := h3.sett hs
 clear hs
 repeat (first|refine Qb ?_|refine Qa fun _=>?_|refine w_al fun _=>?_)
 exact Qe [] sym rfl (.cons (.cell 0 rfl rfl rfl) .nil) uc sb (.inl rfl) ⟨⟨xh2, xh3⟩, rfl, ⟨h2.up uc sb, h3⟩, rfl⟩
theorem qa {x y : IV} {n d : Int} (hx : x.rep U M n) (hn : x.n ≤ 137438953472) (hy : y.rep U M d) (hn' : y.n ≤ 137438953472) :
  Ct Tryz.prog 120 [x.v, y.v] G U M fun v U' D => ∃ r : QV, v = r.v ∧ r.nrm U' [] (Rat.divInt n d) ∧ D = [] := by
 have sx := (hx.sz (Nat.le_refl _)).mono hn
 have sy := (hy.sz (Nat.le_refl _)).mono hn'
 refine Qf Tryz.func120 rfl rfl rfl rfl ?_
 repeat (first|refine Qb ?_|refine Qa fun _=>?_|refine w_al fun _=>?_)
 rename_i b2 b3 b4
 refine Qd rfl rfl rfl rfl rfl rfl (fun _ => VQ (hy.up uc sb) (by omega)) ?_
 rintro v U' D hU ⟨rfl, rfl, rfl⟩
 repeat (first|refine Qb ?_|refine Qa fun _=>?_|refine w_al fun _=>?_)
 refine JH rfl (fun h1 => ?_) (fun h1 => ?_)
 ·obtain rfl := Int.sign_eq_zero_iff_zero.1 h1
  repeat (first|refine Qb ?_|refine Qa fun _=>?_|refine w_al fun _=>?_)
  refine Qd rfl rfl rfl rfl rfl rfl (fun _ => QgF (z := 0) (by decide) (by decide)) ?_
  rintro v Uh2 D hU ⟨xh2, rfl, h2, rfl⟩
  repeat (first|refine Qb ?_|refine Qa fun _=>?_|refine w_al fun _=>?_)
  rw [Rat.divInt_zero]
  exact Qe [] sym rfl (.cons (.cell 0 rfl rfl rfl) .nil) uc sb (.inl rfl) ⟨xh2, rfl, h2, rfl⟩
 have hd : d ≠ 0 := fun e => h1 (by rw [e]; rfl)
 have hg0 : 0 < (Int.gcd n d : Int) := by
  have := Int.gcd_pos_of_ne_zero_right n (b := d) hd
  omega
 repeat (first|refine Qb ?_|refine Qa fun _=>?_|refine w_al fun _=>?_)
 refine Qd rfl rfl rfl rfl rfl rfl (fun _ => (QgE (hx.up uc sb) (by omega) (hy.up uc sb) (by omega)).settle) ?_
 rintro v Uhg D hU ⟨rfl, _, _, ⟨xhg, rfl, hg, -⟩, -, -, hs⟩
 replace hg := hg.sett hs
 clear hs
 repeat (first|refine JF ?_|refine Qa fun _=>?_|refine w_al fun _=>?_)
 rename_i b5
 have sg : Sz (Int.gcd n d : Int) 137438953472 := sx.gcd sy
 refine Qr (fun E U' M' => ∃ (g : Int) (w : IV), w.nrm U' [] g ∧ g ≠ 0 ∧ Sz g 137438953472 ∧ (Rat.divInt n d).num = n / g ∧ ((Rat.divInt n d).den : Int) = d / g ∧
  E = [(2, .pointer (some ⟨b2, 0, none⟩)), (3, .pointer (some ⟨b3, 0, none⟩)), (4, .pointer (some ⟨b4, 0, none⟩)), (5, .pointer (some ⟨b5, 0, none⟩))] ∧ ULe U U' ∧
  M' = (b5, .var w.v, 43) :: (b4, .var zeroQV.v, 45) :: (b3, .var y.v, 43) :: (b2, .var x.v, 43) :: M) ?_ ?_
 ·try refine Qc ?_
  refine Qd rfl rfl rfl rfl rfl rfl (fun _ => VQ (hy.up uc sb) (by omega)) ?_
  rintro v U' D hU ⟨rfl, rfl, rfl⟩
  repeat (first|refine Qb ?_|refine Qa fun _=>?_|refine w_al fun _=>?_)
  refine Qj rfl (fun h2 => ?_) (fun h2 => ?_)
  ·have hlt : d < 0 := by
    rcases Int.lt_trichotomy d 0 with h | h | h
    ·exact h
    ·exact absurd h hd
    ·rw [Int.sign_eq_one_of_pos h] at h2; omega
   obtain ⟨q1, q2⟩ := QdH (n := n) hlt
   repeat (first|refine Qb ?_|refine Qa fun _=>?_|refine w_al fun _=>?_)
   refine Qd rfl rfl rfl rfl rfl rfl (fun _ => (jN (hg.rep.up uc sb) (hg.le (sg) (by omega))).settle) ?_
   rintro v Uh3 D hU ⟨rfl, _, _, ⟨xh3, rfl, h3, -⟩, -, -, hs⟩
   replace h3 := h3.sett hs
   clear hs
   repeat (first|refine Qb ?_|refine Qa fun _=>?_|refine w_al fun _=>?_)
   exact Qq (E' := [(2, .pointer (some ⟨b2, 0, none⟩)), (3, .pointer (some ⟨b3, 0, none⟩)), (4, .pointer (some ⟨b4, 0, none⟩)), (5, .pointer (some ⟨b5, 0, none⟩))]) ⟨rfl, rfl, rfl, rfl, trivial⟩ ⟨_, xh3, h3, by omega, sg.neg, q1, q2, rfl, uc, rfl⟩
  ·have hlt : 0 < d := by
    rcases Int.lt_trichotomy d 0 with h | h | h
    ·rw [Int.sign_eq_neg_one_of_neg h] at h2; omega
    ·exact absurd h hd
    ·exact h
   obtain ⟨q1, q2⟩ := Vn (n := n) hlt
   repeat (first|refine Qb ?_|refine Qa fun _=>?_|refine w_al fun _=>?_)
   exact Qq (E' := [(2, .pointer (some ⟨b2, 0, none⟩)), (3, .pointer (some ⟨b3, 0, none⟩)), (4, .pointer (some ⟨b4, 0, none⟩)), (5, .pointer (some ⟨b5, 0, none⟩))]) ⟨rfl, rfl, rfl, rfl, trivial⟩ ⟨_, xhg, hg, by omega, sg, q1, q2, rfl, uc, rfl⟩
 ·clear hg hg0 sg
  rintro E U' M' ⟨g, w, hg, hg0, sg, q1, q2, rfl, hU2, rfl⟩
  try refine Qc ?_
  refine Qt [0, 1, 2] sym (by kernel_rfl) ?_
  repeat (first|refine Qb ?_|refine Qa fun _=>?_|refine w_al fun _=>?_)
  refine Qd rfl rfl rfl rfl rfl rfl (fun _ => (ju (z := 1) (by decide) (by decide)).settle) ?_
  rintro v Uh3 D hU ⟨rfl, _, _, ⟨xh3, rfl, h3, -⟩, -, -, hs⟩
  replace h3 := h3.sett hs
  clear hs
  repeat (first|refine Qb ?_|refine Qa fun _=>?_|refine w_al fun _=>?_)
  refine Qd rfl rfl rfl rfl rfl rfl (fun _ => Qfq (hg.up uc sb) (h3.up uc sb)) ?_
  rintro v U' D hU ⟨rfl, rfl, rfl⟩
  repeat (first|refine Qb ?_|refine Qa fun _=>?_|refine w_al fun _=>?_)
  by_cases hg1 : g = 1
  ·rw [decide_eq_true hg1]
   rw [hg1] at q1 q2
   simp at q1 q2
   repeat (first|refine Qb ?_|refine Qa fun _=>?_|refine w_al fun _=>?_)
   refine Qt [0, 2, 1, 3, 4, 5] sym (by kernel_rfl) ?_
   repeat (first|refine Qb ?_|refine Qa fun _=>?_|refine w_al fun _=>?_)
   refine Qd rfl rfl rfl rfl rfl rfl (fun _ => (YB (hx.up uc sb) (by omega)).settle) ?_
   rintro v Uh4 D hU ⟨rfl, _, _, ⟨xh4, rfl, h4, -⟩, -, -, hs⟩
   replace h4 := h4.sett hs
   clear hs
   repeat (first|refine Qb ?_|refine Qa fun _=>?_|refine w_al fun _=>?_)
   refine Qd rfl rfl rfl rfl rfl rfl (fun _ => (YB (hy.up uc sb) (by omega)).settle) ?_
   rintro v Uh5 D hU ⟨rfl, _, _, ⟨xh5, rfl, h5, -⟩, -, -, hs⟩
   replace h5 := h5.sett hs
   clear hs
   repeat (first|refine Qb ?_|refine Qa fun _=>?_|refine w_al fun _=>?_)
   exact Qe [] sym rfl (.cons (.cell 1 rfl rfl rfl) .nil) uc sb (.inl rfl) ⟨⟨xh4, xh5⟩, rfl, ⟨by rw [q1]; exact h4.up uc sb, by rw [q2]; exact h5⟩, rfl⟩
  ·rw [decide_eq_false hg1]
   repeat (first|refine Qb ?_|refine Qa fun _=>?_|refine w_al fun _=>?_)
   refine Qt [0, 1, 3, 4, 2, 5, 6, 7] sym (by kernel_rfl) ?_
   repeat (first|refine Qb ?_|refine Qa fun _=>?_|refine w_al fun _=>?_)
   refine Qd rfl rfl rfl rfl rfl rfl (fun _ => (YV (hx.up uc sb) (by omega) (hg.rep.up uc sb) (hg.le (sg) (by omega)) hg0).settle) ?_
   rintro v Uh4 D hU ⟨rfl, _, _, ⟨xh4, rfl, h4, -⟩, -, -, hs⟩
   replace h4 := h4.sett hs
   clear hs
   repeat (first|refine Qb ?_|refine Qa fun _=>?_|refine w_al fun _=>?_)
   refine Qd rfl rfl rfl rfl rfl rfl (fun _ => (YV (hy.up uc sb) (by omega) (hg.rep.up uc sb) (hg.le (sg) (by omega)) hg0).settle) ?_
   rintro v Uh5 D hU ⟨rfl, _, _, ⟨xh5, rfl, h5, -⟩, -, -, hs⟩
   replace h5 := h5.sett hs
   clear hs
   repeat (first|refine Qb ?_|refine Qa fun _=>?_|refine w_al fun _=>?_)
   exact Qe [] sym rfl (.cons (.cell 1 rfl rfl rfl) .nil) uc sb (.inl rfl) ⟨⟨xh4, xh5⟩, rfl, ⟨by rw [q1]; exact h4.up uc sb, by rw [q2]; exact h5⟩, rfl⟩
theorem Qbc {x : QV} {q : Rat} (hx : x.rep U M q) (hn : x.le 137438953472) :
  Ct Tryz.prog 58 [x.v] G U M fun v U' D => ∃ r : QV, v = r.v ∧ r.nrm U' [] q ∧ D = [] := by
 obtain ⟨n, d, h1, h2, rfl⟩ := hx
 refine Qf Tryz.func58 rfl rfl rfl rfl ?_
 repeat (first|refine Qb ?_|refine Qa fun _=>?_|refine w_al fun _=>?_)
 refine Qd rfl rfl rfl rfl rfl rfl (fun _ => qa (h1.up uc sb) (by omega) (h2.up uc sb) (by omega)) ?_
 rintro v Uh3 D hU ⟨xh3, rfl, h3, rfl⟩
 repeat (first|refine Qb ?_|refine Qa fun _=>?_|refine w_al fun _=>?_)
 exact Qe [] sym rfl (.cons (.cell 0 rfl rfl rfl) .nil) uc sb (.inl rfl) ⟨xh3, rfl, h3, rfl⟩
end Go.Proofs.YtjfkodlddladhaaGreat

/- Walks of the reference of layer 2: sums, products, quotients, comparison, digits, neighboring integers. -/
namespace Go.Proofs.YtjfkodlddladhaaGreat
open Go.Hp
variable {G : World} {U : UH} {M : MH}
theorem QeO {x y : QV} {p q : Rat} (hx : x.rep U M p) (hn : x.le 34359738368) (hy : y.rep U M q) (hn' : y.le 34359738368) :
  Ct Tryz.prog 85 [x.v, y.v] G U M fun v U' D => ∃ r : QV, v = r.v ∧ r.nrm U' [] (p * q) ∧ D = [] := by
 obtain ⟨n1, d1, h1, h2, rfl⟩ := hx
 obtain ⟨n2, d2, h3, h4, rfl⟩ := hy
 have s1 := (h1.sz (Nat.le_refl _)).mono hn.1
 have s2 := (h2.sz (Nat.le_refl _)).mono hn.2
 have s3 := (h3.sz (Nat.le_refl _)).mono hn'.1
 have s4 := (h4.sz (Nat.le_refl _)).mono hn'.2
 refine Qf Tryz.func85 rfl rfl rfl rfl ?_
 repeat (first|refine Qb ?_|refine Qa fun _=>?_|refine w_al fun _=>?_)
 refine Qt [0, 1, 2, 3, 5, 6, 7, 8, 4, 9, 10, 11] sym (by kernel_rfl) ?_
 repeat (first|refine Qb ?_|refine Qa fun _=>?_|refine w_al fun _=>?_)
 refine Qd rfl rfl rfl rfl rfl rfl (fun _ => (YM (h1.up uc sb) (by omega) (h3.up uc sb) (by omega)).settle) ?_
 rintro v Uh5 D hU ⟨rfl, _, _, ⟨xh5, rfl, h5, -⟩, -, -, hs⟩
 replace h5 := h5.sett hs
 clear hs
 repeat (first|refine Qb ?_|refine Qa fun _=>?_|refine w_al fun _=>?_)
 refine Qd rfl rfl rfl rfl rfl rfl (fun _ => (YM (h2.up uc sb) (by omega) (h4.up uc sb) (by omega)).settle) ?_
 rintro v Uh6 D hU ⟨rfl, _, _, ⟨xh6, rfl, h6, -⟩, -, -, hs⟩
 replace h6 := h6.sett hs
 clear hs
 repeat (first|refine Qb ?_|refine Qa fun _=>?_|refine w_al fun _=>?_)
 refine Qd rfl rfl rfl rfl rfl rfl (fun _ => qa (h5.rep.up uc sb) (h5.le (s1.mul s3) (by omega)) (h6.rep.up uc sb) (h6.le (s2.mul s4) (by omega))) ?_
 rintro v Uh7 D hU ⟨xh7, rfl, h7, rfl⟩
 repeat (first|refine Qb ?_|refine Qa fun _=>?_|refine w_al fun _=>?_)
 rw [← Rat.divInt_mul_divInt] at h7
 exact Qe [] sym rfl (.cons (.cell 0 rfl rfl rfl) .nil) uc sb (.inl rfl) ⟨xh7, rfl, h7, rfl⟩
theorem Qbz {x : QV} {q : Rat} (hx : x.rep U M q) (hn : x.le 137438953472) :
  Ct Tryz.prog 123 [x.v] G U M fun v U' D => ∃ r : IV, v = r.v ∧ r.nrm U' [] q.floor ∧ D = [] := by
 have s1 := hx.sz hn (by omega)
 have hd := VS q
 refine Qf Tryz.func123 rfl rfl rfl rfl ?_
 repeat (first|refine Qb ?_|refine Qa fun _=>?_|refine w_al fun _=>?_)
 refine Qd rfl rfl rfl rfl rfl rfl (fun _ => Qbc (hx.up uc sb) (by omega)) ?_
 rintro v Uh1 D hU ⟨xh1, rfl, h1, rfl⟩
 repeat (first|refine Qb ?_|refine Qa fun _=>?_|refine w_al fun _=>?_)
 refine Qd rfl rfl rfl rfl rfl rfl (fun _ => (YV (h1.1.rep.up uc sb) (h1.1.le s1.1 (by omega)) (h1.2.rep.up uc sb) (h1.2.le s1.2 (by omega)) (by omega)).settle) ?_
 rintro v Uh2 D hU ⟨rfl, _, _, ⟨xh2, rfl, h2, -⟩, -, -, hs⟩
 replace h2 := h2.sett hs
 clear hs
 repeat (first|refine Qb ?_|refine Qa fun _=>?_|refine w_al fun _=>?_)
 rw [← Rat.floor_def] at h2
 exact Qe [] sym rfl (.cons (.cell 1 rfl rfl rfl) .nil) uc sb (.inl rfl) ⟨xh2, rfl, h2, rfl⟩
end Go.Proofs.YtjfkodlddladhaaGreat
