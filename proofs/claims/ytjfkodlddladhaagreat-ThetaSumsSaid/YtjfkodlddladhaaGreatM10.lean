/- Texts of this seat's own, merged: each begins with its own remark. -/
import Derived.Test.YtjfkodlddladhaaGreatM1
import Derived.Test.YtjfkodlddladhaaGreatM9
import Derived.Test.YtjfkodlddladhaaGreatB38
/- A region that draws its order, of which several pairs of operations may come up in either order without being exchangeable: a tree of walks. Program in general; no condition. -/
namespace Go.Hp
variable {P : Program} {T : TT} {K : Kont} {N : Nat} {G : World} {E : Env} {U : UH} {M : MH} {L : List Oper}
inductive DT where
 | leaf (ord : List Nat)
 | node (x y : Nat) (l r : DT)
def pairC (T : TT) (N : Nat) (L : List Oper) (c : List (Nat × Nat)) (p q : Ent) : Bool :=
 pairB T N L p q || c.any fun e => (Nat.beq p.2.1 e.1 || reachB L p.2.1 (L.length + 1) e.1) && (Nat.beq q.2.1 e.2 || reachB L e.2 (L.length + 1) q.2.1)
def pairsC (T : TT) (N : Nat) (L : List Oper) (c : List (Nat × Nat)) : List Ent → Bool
 | [] => true
 | p :: r => r.all (pairC T N L c p) && pairsC T N L c r
def okT (T : TT) (N : Nat) (L : List Oper) : List (Nat × Nat) → DT → Bool
 | c, .leaf ord => Nat.beq ord.length L.length && ord.all (fun i => Nat.blt i L.length) && nodupB ord && coverB ord L.length && pairsC T N L c (pick L ord)
 | c, .node x y l r => Nat.blt x L.length && Nat.blt y L.length && !Nat.beq x y && okT T N L ((x, y) :: c) l && okT T N L ((y, x) :: c) r
def slT (P : Program) (T : TT) (L : List Oper) (K : Kont) (N : Nat) (G : World) (E : Env) (U : UH) (M : MH) : DT → Prop
 | .leaf ord => SL P T L K N G (pick L ord) E U M
 | .node _ _ l r => slT P T L K N G E U M l ∧ slT P T L K N G E U M r
end Go.Hp

/- The plain law of the extended Euclidean algorithm. -/
namespace Go.Proofs.YtjfkodlddladhaaGreat
open Go.Hp
def XS (a b u n r s : Int) : Prop := u.natAbs ≤ 3 * b.natAbs ∧ n.natAbs ≤ 3 * b.natAbs ∧ (∃ k, r = u * a + k * b) ∧ (∃ k, s = n * a + k * b) ∧ Int.gcd r s = Int.gcd a b ∧
 ((u = 1 ∧ n = 0 ∧ r = a ∧ s = b) ∨ (u = 0 ∧ n = 1 ∧ r = b ∧ 0 ≤ s ∧ s < b.natAbs) ∨ (0 < r ∧ 0 ≤ s ∧ n.natAbs * r.natAbs + u.natAbs * s.natAbs ≤ 3 * b.natAbs))
theorem XS.start {a b : Int} (hb : b ≠ 0) : XS a b 1 0 a b :=
 ⟨by omega, by omega, ⟨0, by omega⟩, ⟨1, by omega⟩, rfl, .inl ⟨rfl, rfl, rfl, rfl⟩⟩
theorem QbJ (r s : Int) : Int.gcd s (r % s) = Int.gcd r s := by
 refine Nat.dvd_antisymm (Int.dvd_gcd ?_ (Int.gcd_dvd_left ..)) (Int.dvd_gcd (Int.gcd_dvd_right ..) ?_)
 ·have h := Int.emod_add_mul_ediv r s
  have h2 := Int.dvd_add (Int.gcd_dvd_right s (r % s)) (Int.dvd_trans (Int.gcd_dvd_left s (r % s)) (Int.dvd_mul_right s (r / s)))
  rwa [h] at h2
 ·rw [Int.emod_def]
  exact Int.dvd_sub (Int.gcd_dvd_left ..) (Int.dvd_trans (Int.gcd_dvd_right ..) (Int.dvd_mul_right ..))
theorem XS.step {a b u n r s : Int} (h : XS a b u n r s) (hb : b ≠ 0) (hs : s ≠ 0) : XS a b n (u - r / s * n) s (r % s) := by
 obtain ⟨h1, h2, ⟨k, hk⟩, ⟨k', hk'⟩, hg, hst⟩ := h
 have ht0 := Int.emod_nonneg r hs
 have ht1 := Int.emod_lt r hs
 have hrs := Int.emod_add_mul_ediv r s
 have hc : ∃ k, r % s = (u - r / s * n) * a + k * b := by
  refine ⟨k - r / s * k', ?_⟩
  have : r % s = r - s * (r / s) := by omega
  rw [this]
  generalize r / s = q
  subst hk hk'
  grind
 have hP : 0 < s → (u - r / s * n).natAbs * s.natAbs + n.natAbs * (r % s).natAbs ≤ 3 * b.natAbs → (u - r / s * n).natAbs ≤ 3 * b.natAbs := fun hs0 hp => by
  have := Nat.le_mul_of_pos_right (u - r / s * n).natAbs (show 0 < s.natAbs by omega)
  omega
 rcases hst with ⟨rfl, rfl, rfl, rfl⟩ | ⟨rfl, rfl, rfl, hs0, hs1⟩ | ⟨hr0, hs0, hp⟩
 ·refine ⟨h2, by rw [Int.mul_zero]; omega, ⟨k', hk'⟩, hc, by rw [QbJ], .inr (.inl ⟨rfl, by rw [Int.mul_zero]; rfl, rfl, ht0, ht1⟩)⟩
 ·have hp : (0 - r / s * 1).natAbs * s.natAbs + (1 : Int).natAbs * (r % s).natAbs ≤ 3 * r.natAbs := by
   rw [← Int.natAbs_mul, show (0 - r / s * 1) * s = -(s * (r / s)) by grind, Int.natAbs_neg]
   have : s * (r / s) = r - r % s := by omega
   rw [this, show (1 : Int).natAbs = 1 from rfl, Nat.one_mul]
   omega
  refine ⟨h2, hP (by omega) hp, ⟨k', hk'⟩, hc, by rw [QbJ]; exact hg, .inr (.inr ⟨by omega, ht0, hp⟩)⟩
 ·have hq : 0 ≤ r / s := Int.ediv_nonneg (by omega) hs0
  have hp2 : (u - r / s * n).natAbs * s.natAbs + n.natAbs * (r % s).natAbs ≤ 3 * b.natAbs := by
   have e1 : (u - r / s * n).natAbs ≤ u.natAbs + (r / s).natAbs * n.natAbs := by
    have := Int.natAbs_sub_le u (r / s * n)
    rwa [Int.natAbs_mul] at this
   have e2 : r.natAbs = (r % s).natAbs + s.natAbs * (r / s).natAbs := by
    rw [← Int.natAbs_mul]
    have h0 : 0 ≤ s * (r / s) := Int.mul_nonneg hs0 hq
    omega
   rw [e2] at hp
   have e3 := Nat.mul_le_mul_right s.natAbs e1
   generalize (u - r / s * n).natAbs = w at *
   generalize (r / s).natAbs = q at *
   generalize (r % s).natAbs = t at *
   generalize s.natAbs = S at *
   generalize n.natAbs = N at *
   generalize u.natAbs = V at *
   have e4 : (V + q * N) * S + N * t = N * (t + S * q) + V * S := by grind
   omega
  exact ⟨h2, hP (by omega) hp2, ⟨k', hk'⟩, hc, by rw [QbJ]; exact hg, .inr (.inr ⟨by omega, ht0, hp2⟩)⟩
theorem XS.last {a b u r : Int} {n : Int} (h : XS a b u n r 0) : ∃ k, (if r < 0 then -r else r) = (Int.gcd a b : Int) ∧ (Int.gcd a b : Int) = (if r < 0 then -u else u) * a + k * b := by
 obtain ⟨h1, h2, ⟨k, hk⟩, -, hg, -⟩ := h
 rw [Int.gcd_zero_right] at hg
 by_cases hr : r < 0
 ·refine ⟨-k, ?_, ?_⟩
  ·rw [if_pos hr]; omega
  ·rw [if_pos hr, ← hg]
   have : (r.natAbs : Int) = -r := by omega
   rw [this, hk]; grind
 ·refine ⟨k, ?_, ?_⟩
  ·rw [if_neg hr]; omega
  ·rw [if_neg hr, ← hg]
   have : (r.natAbs : Int) = r := by omega
   rw [this]; exact hk
end Go.Proofs.YtjfkodlddladhaaGreat

/- Walks of bigint: the extended Euclidean algorithm. -/
namespace Go.Proofs.YtjfkodlddladhaaGreat
open Go.Hp
variable {G : World} {U : UH} {M : MH}
end Go.Proofs.YtjfkodlddladhaaGreat

/- Walks of the reference of layer 1: greatest common divisors, quotients. -/
namespace Go.Proofs.YtjfkodlddladhaaGreat
open Go.Hp
variable {G : World} {U : UH} {M : MH}
theorem YV {x y : IV} {z u : Int} (hx : x.rep U M z) (hn : x.n ≤ 274877906944) (hy : y.rep U M u) (hn' : y.n ≤ 274877906944) (hu : u ≠ 0) :
  Ct Tryz.prog 127 [x.v, y.v] G U M fun v U' D => ∃ r : IV, v = r.v ∧ r.own D (z / u) ∧ U = U' := by
 have hUc := ULe.refl U
 refine Qf Tryz.func127 rfl rfl rfl rfl ?_
 repeat (first|refine Qb ?_|refine Qa fun _=>?_|refine w_al fun _=>?_)
 refine Qd rfl rfl rfl rfl rfl rfl (fun _ => yL (hx.up hUc sb) hn (hy.up hUc sb) hn' hu) ?_
 rintro v U' D hU ⟨xq, xr, Dq, Dr, rfl, rfl, q, r, rfl⟩
 rw [List.append_assoc]
 refine Qh ?_ ((List.Perm.append_left Dr (perm3 (D := Dq))).trans (perm3 (D := Dr)))
 repeat (first|refine Qb ?_|refine Qa fun _=>?_|refine w_al fun _=>?_)
 exact Qe Dq sym rfl (.cons (.cell 2 rfl rfl rfl) .nil) hUc (.cons _ (.cons _ (.cons _ (.cons _ (.cons _ (Jw (List.Sublist.refl _))))))) (.inl rfl) ⟨xq, rfl, q, rfl⟩
theorem QgE {x y : IV} {z w : Int} (hx : x.rep U M z) (hn : x.n ≤ 137438953472) (hy : y.rep U M w) (hn' : y.n ≤ 137438953472) :
  Ct Tryz.prog 167 [x.v, y.v] G U M fun v U' D => ∃ r : IV, v = r.v ∧ r.own D (Int.gcd z w : Int) ∧ U = U' := by
 have hUc := ULe.refl U
 have sz := hx.sz (Nat.le_refl _)
 have sw := hy.sz (Nat.le_refl _)
 refine Qf Tryz.func167 rfl rfl rfl rfl ?_
 repeat (first|refine Qb ?_|refine Qa fun _=>?_|refine w_al fun _=>?_)
 rename_i b2 b3 b4
 refine Qt [0, 2, 1, 3, 4, 5, 6, 7] sym (by kernel_rfl) ?_
 repeat (first|refine Qb ?_|refine Qa fun _=>?_|refine w_al fun _=>?_)
 refine Qd rfl rfl rfl rfl rfl rfl (fun _ => vB (hx.up hUc sb) (Nat.le_trans hn (by decide))) ?_
 rintro v U' Dh1 hU ⟨xh1, rfl, h1, rfl⟩
 refine Qh ?_ (perm3 (D := Dh1))
 repeat (first|refine Qb ?_|refine Qa fun _=>?_|refine w_al fun _=>?_)
 refine Qd rfl rfl rfl rfl rfl rfl (fun _ => vB (hy.up hUc sb) (Nat.le_trans hn' (by decide))) ?_
 rintro v U' Dh2 hU ⟨xh2, rfl, h2, rfl⟩
 refine Qh ?_ (perm3 (D := Dh2))
 repeat (first|refine JF ?_|refine Qa fun _=>?_|refine w_al fun _=>?_)
 rename_i b5 b6
 refine Qr (fun E U' M' => E = [(6, .pointer (some ⟨b6, 0, none⟩)), (5, .pointer (some ⟨b5, 0, none⟩)), (4, .pointer (some ⟨b4, 0, none⟩)), (3, .pointer (some ⟨b3, 0, none⟩)), (2, .pointer (some ⟨b2, 0, none⟩))] ∧ U = U' ∧ M' = (b6, .var xh2.v, 43) :: (b5, .var xh1.v, 43) :: (b4, .var (.agg #[.bool false, .slice none 0 0]), 43) :: (b3, .var y.v, 43) :: (b2, .var x.v, 43) :: (Dh2 ++ (Dh1 ++ M))) ?_ ?_
 ·try refine Qc ?_
  refine Qv rfl rfl (fun h3 => ?_) (fun h3 => ?_)
  ·try refine Qc ?_
   refine Qj rfl (fun h4 => ?_) (fun h4 => ?_)
   ·obtain ⟨l1, hd1, -, hv1, -⟩ := h1.at (M := (b6, .var xh2.v, 43) :: (b5, .var xh1.v, 43) :: (b4, .var (.agg #[.bool false, .slice none 0 0]), 43) :: (b3, .var y.v, 43) :: (b2, .var x.v, 43) :: (Dh2 ++ (Dh1 ++ M))) (U := U) sb
    obtain ⟨l2, hd2, -, hv2, -⟩ := h2.at (M := (b6, .var xh2.v, 43) :: (b5, .var xh1.v, 43) :: (b4, .var (.agg #[.bool false, .slice none 0 0]), 43) :: (b3, .var y.v, 43) :: (b2, .var x.v, 43) :: (Dh2 ++ (Dh1 ++ M))) (U := U) sb
    have w1 := jQ hd1 (by omega)
    have w2 := jQ hd2 (by omega)
    rw [hv1, Int.natAbs_natCast] at w1
    rw [hv2, Int.natAbs_natCast] at w2
    try refine Qc ?_
    refine Qt [0, 1, 3, 4, 2, 5, 6, 7] sym (by kernel_rfl) ?_
    repeat (first|refine Qb ?_|refine Qa fun _=>?_|refine w_al fun _=>?_)
    refine Qd rfl rfl rfl rfl rfl rfl (fun _ => Ve (hd1.app _) (by omega)) ?_
    rintro v U' D hU ⟨rfl, rfl, rfl⟩
    repeat (first|refine Qb ?_|refine Qa fun _=>?_|refine w_al fun _=>?_)
    refine Qd rfl rfl rfl rfl rfl rfl (fun _ => Ve (hd2.app _) (by omega)) ?_
    rintro v U' D hU ⟨rfl, rfl, rfl⟩
    repeat (first|refine Qb ?_|refine Qa fun _=>?_|refine w_al fun _=>?_)
    rw [hv1, hv2, Int.natAbs_natCast, Int.natAbs_natCast]
    try refine Jd ?_
    refine Ql (fun m E U' M' => ∃ p q : Nat, Nat.gcd p q = Int.gcd z w ∧ p < 18446744073709551616 ∧ q < 18446744073709551616 ∧ E = (7, .int .u64 (p : Int)) :: (8, .int .u64 (q : Int)) :: [(6, .pointer (some ⟨b6, 0, none⟩)), (5, .pointer (some ⟨b5, 0, none⟩)), (4, .pointer (some ⟨b4, 0, none⟩)), (3, .pointer (some ⟨b3, 0, none⟩)), (2, .pointer (some ⟨b2, 0, none⟩))] ∧ U = U' ∧ M' = (b6, .var xh2.v, 43) :: (b5, .var xh1.v, 43) :: (b4, .var (.agg #[.bool false, .slice none 0 0]), 43) :: (b3, .var y.v, 43) :: (b2, .var x.v, 43) :: (Dh2 ++ (Dh1 ++ M)) ∧ q = m) (n0 := w.natAbs)
     (E0 := (7, .int .u64 (z.natAbs : Int)) :: (8, .int .u64 (w.natAbs : Int)) :: [(6, .pointer (some ⟨b6, 0, none⟩)), (5, .pointer (some ⟨b5, 0, none⟩)), (4, .pointer (some ⟨b4, 0, none⟩)), (3, .pointer (some ⟨b3, 0, none⟩)), (2, .pointer (some ⟨b2, 0, none⟩))]) ⟨rfl, rfl, rfl, rfl, rfl, rfl, rfl, trivial⟩ ⟨_, _, rfl, w1, w2, rfl, rfl, rfl, rfl⟩ ?_
    rintro m E U' M' ⟨p, q, e1, e2, e3, rfl, rfl, rfl, rfl⟩
    try refine Qc ?_
    refine Qj rfl (fun h5 => ?_) (fun h5 => ?_)
    ·have hlt : p % q < q := Nat.mod_lt _ (by omega)
     try refine Qc ?_
     refine Qt [0, 1, 2, 3, 4, 5] sym (by kernel_rfl) ?_
     try refine Qc ?_
     refine sl_y (YW (m := p) (n := q) rfl rfl rfl rfl rfl (by simp only [kmax]; omega) (by omega) rfl) rfl rfl rfl rfl ?_
     try refine Qc ?_
     refine Qi (E' := (7, .int .u64 (q : Int)) :: (8, .int .u64 ((p % q : Nat) : Int)) :: [(6, .pointer (some ⟨b6, 0, none⟩)), (5, .pointer (some ⟨b5, 0, none⟩)), (4, .pointer (some ⟨b4, 0, none⟩)), (3, .pointer (some ⟨b3, 0, none⟩)), (2, .pointer (some ⟨b2, 0, none⟩))]) (m := p % q) ⟨rfl, rfl, rfl, rfl, rfl, rfl, rfl, trivial⟩ hlt ⟨q, p % q, ?_, e3, by omega, rfl, rfl, rfl, rfl⟩
     rw [← e1, Nat.gcd_comm q, ← Nat.gcd_rec, Nat.gcd_comm]
    ·have hq : q = 0 := by omega
     subst hq
     rw [Nat.gcd_zero_right] at e1
     subst e1
     repeat (first|refine Qb ?_|refine Qa fun _=>?_|refine w_al fun _=>?_)
     refine Qd rfl rfl rfl rfl rfl rfl (fun _ => js e2) ?_
     rintro v U' D hU ⟨q, k, cc, lg, rfl, ho, cg, hvg, rfl⟩
     refine Qh ?_ (perm5 (D := D))
     have hk : k ≤ 1099511627776 := by
      have e4 : k ≤ 2 := IV.own.len_le (x := ⟨false, q, k, cc⟩) (z := (val lg : Int)) (D := D) ⟨lg, ho, cg, by rw [Int.natAbs_natCast], (decide_eq_false (by omega)).symm⟩ (by rw [Int.natAbs_natCast]; omega)
      omega
     repeat (first|refine Qb ?_|refine Qa fun _=>?_|refine w_al fun _=>?_)
     refine Qd rfl rfl rfl rfl rfl rfl (fun _ => QY (neg := false) ((ho.dig (U := U) (M := [])).up hUc (by rw [List.append_nil]; exact sb)) hk) ?_
     rintro v U' D2 hU ⟨xr, rfl, hr, rfl⟩
     refine Qh ?_ (perm5 (D := D2))
     repeat (first|refine Qb ?_|refine Qa fun _=>?_|refine w_al fun _=>?_)
     rw [hvg] at hr
     exact Qe D2 sym rfl (.cons (.cell 2 rfl rfl rfl) .nil) hUc (.cons _ (.cons _ (.cons _ (.cons _ (.cons _ (List.Sublist.append (List.Sublist.refl D2) (Jw (Jw (Jw (List.Sublist.refl M)))))))))) (.inl rfl) ⟨xr, rfl, hr, rfl⟩
   ·try refine Qc ?_
    exact Qq (E' := [(6, .pointer (some ⟨b6, 0, none⟩)), (5, .pointer (some ⟨b5, 0, none⟩)), (4, .pointer (some ⟨b4, 0, none⟩)), (3, .pointer (some ⟨b3, 0, none⟩)), (2, .pointer (some ⟨b2, 0, none⟩))]) ⟨rfl, rfl, rfl, rfl, rfl, trivial⟩ ⟨rfl, rfl, rfl⟩
  ·try refine Qc ?_
   exact Qq (E' := [(6, .pointer (some ⟨b6, 0, none⟩)), (5, .pointer (some ⟨b5, 0, none⟩)), (4, .pointer (some ⟨b4, 0, none⟩)), (3, .pointer (some ⟨b3, 0, none⟩)), (2, .pointer (some ⟨b2, 0, none⟩))]) ⟨rfl, rfl, rfl, rfl, rfl, trivial⟩ ⟨rfl, rfl, rfl⟩
 ·rintro E U' M' ⟨rfl, rfl, rfl⟩
  repeat (first|refine Qb ?_|refine Qa fun _=>?_|refine w_al fun _=>?_)
  refine Ql (fun m E U' M' => ∃ (xa xb : IV) (p q : Nat) (Da Db T : MH), xa.own Da (p : Int) ∧ xb.own Db (q : Int) ∧ Nat.gcd p q = Int.gcd z w ∧ Sz (p : Int) (x.n + y.n) ∧ Sz (q : Int) (x.n + y.n) ∧ E = [(6, .pointer (some ⟨b6, 0, none⟩)), (5, .pointer (some ⟨b5, 0, none⟩)), (4, .pointer (some ⟨b4, 0, none⟩)), (3, .pointer (some ⟨b3, 0, none⟩)), (2, .pointer (some ⟨b2, 0, none⟩))] ∧ U = U' ∧ M' = (b6, .var xb.v, 43) :: (b5, .var xa.v, 43) :: (b4, .var (.agg #[.bool false, .slice none 0 0]), 43) :: (b3, .var y.v, 43) :: (b2, .var x.v, 43) :: T ∧ (Da ++ M).Sublist T ∧ (Db ++ M).Sublist T ∧ q = m) (n0 := w.natAbs)
   (E0 := [(6, .pointer (some ⟨b6, 0, none⟩)), (5, .pointer (some ⟨b5, 0, none⟩)), (4, .pointer (some ⟨b4, 0, none⟩)), (3, .pointer (some ⟨b3, 0, none⟩)), (2, .pointer (some ⟨b2, 0, none⟩))]) ⟨rfl, rfl, rfl, rfl, rfl, trivial⟩ ⟨xh1, xh2, z.natAbs, w.natAbs, Dh1, Dh2, Dh2 ++ (Dh1 ++ M), h1, h2, rfl, sz.abs.mono (by omega), sw.abs.mono (by omega), rfl, rfl, rfl, sb, sb, rfl⟩ ?_
  rintro m E U' M' ⟨xa, xb, p, q, Da, Db, T, ha, hb, hg, sa, sb', rfl, rfl, rfl, hTa, hTb, rfl⟩
  have hM : M.Sublist T := (List.sublist_append_right Da M).trans hTa
  have hTa1 : Da.Sublist T := (List.sublist_append_left Da M).trans hTa
  have hTb1 : Db.Sublist T := (List.sublist_append_left Db M).trans hTb
  try refine Qc ?_
  refine Qj rfl (fun h5 => ?_) (fun h5 => ?_)
  ·have hq : q ≠ 0 := fun e => by
    have := hb.len0.2 (by omega)
    omega
   have hlt : p % q < q := Nat.mod_lt _ (by omega)
   repeat (first|refine Qb ?_|refine Qa fun _=>?_|refine w_al fun _=>?_)
   refine Qd rfl rfl rfl rfl rfl rfl (fun _ => yL (ha.at (hTa1.trans sb)).rep (ha.le sa (by omega)) (hb.at (hTb1.trans sb)).rep (hb.le sb' (by omega)) (by omega)) ?_
   rintro v U' D hU ⟨xs, xt, Ds, Dt, rfl, rfl, s, t, rfl⟩
   rw [List.append_assoc]
   refine Qh ?_ ((List.Perm.append_left Dt (perm5 (D := Ds))).trans (perm5 (D := Dt)))
   repeat (first|refine Qb ?_|refine Qa fun _=>?_|refine w_al fun _=>?_)
   rw [← Int.natCast_emod] at t
   have st := sb'.mod (by omega) (p : Int)
   rw [← Int.natCast_emod] at st
   refine Js (perm5 (D := [_, _])) ?_
   refine Qi (E' := [(6, .pointer (some ⟨b6, 0, none⟩)), (5, .pointer (some ⟨b5, 0, none⟩)), (4, .pointer (some ⟨b4, 0, none⟩)), (3, .pointer (some ⟨b3, 0, none⟩)), (2, .pointer (some ⟨b2, 0, none⟩))]) (m := p % q) ⟨rfl, rfl, rfl, rfl, rfl, trivial⟩ hlt ⟨xb, xt, q, p % q, Db, Dt, _, hb, t, ?_, sb', st, rfl, rfl, rfl, hTb.trans sb, (List.Sublist.append (List.Sublist.refl Dt) (Jw hM)).trans sb, rfl⟩
   rw [← hg, Nat.gcd_comm q, ← Nat.gcd_rec, Nat.gcd_comm]
  ·have hq : q = 0 := by
    have := hb.len0.1 (by omega)
    omega
   subst hq
   rw [Nat.gcd_zero_right] at hg
   subst hg
   repeat (first|refine Qb ?_|refine Qa fun _=>?_|refine w_al fun _=>?_)
   exact Qe Da sym rfl (.cons (.cell 2 rfl rfl rfl) .nil) hUc (.cons _ (.cons _ (.cons _ (.cons _ (.cons _ hTa))))) (.inl rfl) ⟨xa, rfl, ha, rfl⟩
end Go.Proofs.YtjfkodlddladhaaGreat
