/- Texts of this seat's own, merged: each begins with its own remark. -/
import Derived.Test.YtlnmhjkagnfnaaaM1
import Derived.Test.YtlnmhjkagnfnaaaM9
import Derived.Test.YtlnmhjkagnfnaaaB38
/- A region that draws its order, of which several pairs of operations may come up in either order without being exchangeable: a tree of walks. Program in general; no condition. -/
namespace Go.Hp
variable {P : Program} {T : TT} {K : Kont} {N : Nat} {G : World} {E : Env} {U : UH} {M : MH} {L : List Oper}

inductive DT where
  | leaf (ord : List Nat)
  | node (x y : Nat) (l r : DT)

def pairC (T : TT) (N : Nat) (L : List Oper) (c : List (Nat × Nat)) (p q : Ent) : Bool :=
  pairB T N L p q || c.any fun e => (Nat.beq p.2.1 e.1 || reachB L p.2.1 (L.length + 1) e.1) && (Nat.beq q.2.1 e.2 || reachB L e.2 (L.length + 1) q.2.1)
def pairsC (T : TT) (N : Nat) (L : List Oper) (c : List (Nat × Nat)) : List Ent → Bool
  | [] => true
  | p :: r => r.all (pairC T N L c p) && pairsC T N L c r
theorem pairsC_spec {c : List (Nat × Nat)} : ∀ {l : List Ent}, pairsC T N L c l = true → l.Pairwise fun p q => pairC T N L c p q = true
  | [], _ => List.Pairwise.nil
  | p :: r, h => by
    simp only [pairsC, Bool.and_eq_true, List.all_eq_true] at h
    exact List.pairwise_cons.2 ⟨h.1, pairsC_spec h.2⟩

def okT (T : TT) (N : Nat) (L : List Oper) : List (Nat × Nat) → DT → Bool
  | c, .leaf ord => Nat.beq ord.length L.length && ord.all (fun i => Nat.blt i L.length) && nodupB ord && coverB ord L.length && pairsC T N L c (pick L ord)
  | c, .node x y l r => Nat.blt x L.length && Nat.blt y L.length && !Nat.beq x y && okT T N L ((x, y) :: c) l && okT T N L ((y, x) :: c) r

def slT (P : Program) (T : TT) (L : List Oper) (K : Kont) (N : Nat) (G : World) (E : Env) (U : UH) (M : MH) : DT → Prop
  | .leaf ord => SL P T L K N G (pick L ord) E U M
  | .node _ _ l r => slT P T L K N G E U M l ∧ slT P T L K N G E U M r

theorem slT_leaf {ord : List Nat} (h : SL P T L K N G (pick L ord) E U M) : slT P T L K N G E U M (.leaf ord) := h
theorem slT_node {x y : Nat} {l r : DT} (h1 : slT P T L K N G E U M l) (h2 : slT P T L K N G E U M r) : slT P T L K N G E U M (.node x y l r) := ⟨h1, h2⟩

theorem slT_ord (hS : Sym P T) {σ : List Nat} (hσ : σ.Perm (List.range L.length))
    (hall : ∀ q ∈ σ, ∀ o, L[q]? = some o → ∀ e ∈ o.after, Region.binds .any e = true → σ.idxOf e.on < σ.idxOf q) {a : Act} {w : World} (ha : Has a N E) (hm : Mem G U M w) :
    ∀ (t : DT) (c : List (Nat × Nat)), (∀ e ∈ c, σ.idxOf e.1 < σ.idxOf e.2) → okT T N L c t = true → slT P T L K N G E U M t → wpOps P L.toArray K σ a w
  | .leaf ord, c, hc, ht, h => by
    simp only [okT, Bool.and_eq_true, List.all_eq_true] at ht
    obtain ⟨⟨⟨⟨h1, h2⟩, h3⟩, h6⟩, h5⟩ := ht
    have e1 := Nat.eq_of_beq_eq_true h1
    have h2' : ∀ i ∈ ord, i < L.length := fun i hi => Nat.le_of_ble_eq_true (h2 i hi)
    have hmap := pick_map h2'
    have hnd := nodupB_spec h3
    have hσn : σ.Nodup := hσ.nodup_iff.2 List.nodup_range
    refine sl_fix hS σ (pick L ord) E U M a w ?_ hσn pick_ok ?_ h ha hm
    · rw [hmap]
      refine List.Perm.trans ?_ hσ.symm
      refine (List.perm_ext_iff_of_nodup hnd List.nodup_range).2 fun i => ?_
      rw [List.mem_range]
      exact ⟨h2' i, coverB_spec h6 i⟩
    · refine (pairsC_spec h5).imp_of_mem ?_
      intro p q hp hq hpq
      have hqm : q.2.1 ∈ σ := by
        rw [hσ.mem_iff, List.mem_range]
        exact (List.getElem?_eq_some_iff.1 (pick_ok _ hq).2).1
      simp only [pairC, pairB, Bool.or_eq_true, List.any_eq_true, Bool.and_eq_true] at hpq
      rcases hpq with (h | h) | ⟨e, he, h, h'⟩
      · exact .inl h
      · exact .inr (reach_idx hall _ _ hqm h)
      · have hx := hc e he
        have k1 : σ.idxOf p.2.1 ≤ σ.idxOf e.1 := by
          rcases h with h | h
          · rw [Nat.eq_of_beq_eq_true h]; exact Nat.le_refl _
          · exact Nat.le_of_lt (reach_idx hall _ _ (List.idxOf_lt_length_iff.1 (Nat.lt_of_lt_of_le hx (List.idxOf_le_length ..))) h)
        have k2 : σ.idxOf e.2 ≤ σ.idxOf q.2.1 := by
          rcases h' with h | h
          · rw [Nat.eq_of_beq_eq_true h]; exact Nat.le_refl _
          · exact Nat.le_of_lt (reach_idx hall _ _ hqm h)
        refine .inr ?_
        omega
  | .node x y l r, c, hc, ht, h => by
    simp only [okT, Bool.and_eq_true, Bool.not_eq_true'] at ht
    obtain ⟨⟨⟨⟨hx, hy⟩, hne⟩, hl⟩, hr⟩ := ht
    have hx := Nat.le_of_ble_eq_true hx
    have hy := Nat.le_of_ble_eq_true hy
    have hne : x ≠ y := fun e => by subst e; simp at hne
    have hxm : x ∈ σ := hσ.mem_iff.2 (List.mem_range.2 hx)
    have hym : y ∈ σ := hσ.mem_iff.2 (List.mem_range.2 hy)
    have hine : σ.idxOf x ≠ σ.idxOf y := fun e => by
      have e1 := List.getElem_idxOf (List.idxOf_lt_length_iff.2 hxm)
      have e2 := List.getElem_idxOf (List.idxOf_lt_length_iff.2 hym)
      simp only [e] at e1
      exact hne (e1.symm.trans e2)
    rcases Nat.lt_or_gt_of_ne hine with h' | h'
    · refine slT_ord hS hσ hall ha hm l ((x, y) :: c) (fun e he => ?_) hl h.1
      rcases List.mem_cons.1 he with rfl | he
      · exact h'
      · exact hc e he
    · refine slT_ord hS hσ hall ha hm r ((y, x) :: c) (fun e he => ?_) hr h.2
      rcases List.mem_cons.1 he with rfl | he
      · exact h'
      · exact hc e he

/-- A region that draws its order: walked along a tree of orders, it is walked in all. -/
theorem st_drawT {id : Nat} (t : DT) (hS : Sym P T) (hd : downB 0 L = true) (ht : okT T N L [] t = true) (h : slT P T L K N G E U M t) : St P K N G (.region id L.toArray true) E U M := by
  refine ⟨fun a w ha hm => wp_region_draw fun n => ?_⟩
  simp only [Region.schedule, hS.mixed, Bool.true_or, if_true, Region.linearise, List.size_toArray]
  obtain ⟨hp, hall⟩ := lin_spec (L := L) (fun i o hi e he hb => by have := downB_spec hd i o hi e he hb; omega) L.length n (List.range L.length) (Array.replicate L.length false) (by simp) List.nodup_range (by simp)
    (fun i hi => List.mem_range.1 hi) (fun i hi => by simp [hi])
  generalize Region.linearise.go .any L.toArray L.length n (Array.replicate L.length false) [] = σ at *
  refine slT_ord hS hp (fun q hq o ho e he hb => ?_) ha (hm.drawn _) t [] (fun e he => by cases he) ht h
  rcases hall q (hp.mem_iff.1 hq) o ho e he hb with h | h
  · simp [Array.getD_eq_getD_getElem?, Array.getElem?_replicate] at h
    split at h <;> simp at h
  · exact h

end Go.Hp

/- The plain law of the extended Euclidean algorithm. -/
namespace Go.Proofs.Ytlnmhjkagnfnaaa
open Go.Hp

def XS (a b u n r s : Int) : Prop := u.natAbs ≤ 3 * b.natAbs ∧ n.natAbs ≤ 3 * b.natAbs ∧ (∃ k, r = u * a + k * b) ∧ (∃ k, s = n * a + k * b) ∧ Int.gcd r s = Int.gcd a b ∧
  ((u = 1 ∧ n = 0 ∧ r = a ∧ s = b) ∨ (u = 0 ∧ n = 1 ∧ r = b ∧ 0 ≤ s ∧ s < b.natAbs) ∨ (0 < r ∧ 0 ≤ s ∧ n.natAbs * r.natAbs + u.natAbs * s.natAbs ≤ 3 * b.natAbs))

theorem XS.start {a b : Int} (hb : b ≠ 0) : XS a b 1 0 a b :=
  ⟨by omega, by omega, ⟨0, by omega⟩, ⟨1, by omega⟩, rfl, .inl ⟨rfl, rfl, rfl, rfl⟩⟩

theorem xs_gcd (r s : Int) : Int.gcd s (r % s) = Int.gcd r s := by
  refine Nat.dvd_antisymm (Int.dvd_gcd ?_ (Int.gcd_dvd_left ..)) (Int.dvd_gcd (Int.gcd_dvd_right ..) ?_)
  · have h := Int.emod_add_mul_ediv r s
    have h2 := Int.dvd_add (Int.gcd_dvd_right s (r % s)) (Int.dvd_trans (Int.gcd_dvd_left s (r % s)) (Int.dvd_mul_right s (r / s)))
    rwa [h] at h2
  · rw [Int.emod_def]
    exact Int.dvd_sub (Int.gcd_dvd_left ..) (Int.dvd_trans (Int.gcd_dvd_right ..) (Int.dvd_mul_right ..))
theorem XS.step {a b u n r s : Int} (h : XS a b u n r s) (hb : b ≠ 0) (hs : s ≠ 0) : XS a b n (u - r / s * n) s (r % s) := by
  obtain ⟨h1, h2, ⟨k, hk⟩, ⟨k', hk'⟩, hg, hst⟩ := h
  have ht0 := Int.emod_nonneg r hs
  have ht1 := Int.emod_lt r hs
  have hrs := Int.emod_add_mul_ediv r s
  have hc : ∃ k, r % s = (u - r / s * n) * a + k * b := by
    refine ⟨k - r / s * k', ?_⟩
    have : r % s = r - s * (r / s) := by omega
    rw [this]
    generalize r / s = q
    subst hk hk'
    grind
  have hP : 0 < s → (u - r / s * n).natAbs * s.natAbs + n.natAbs * (r % s).natAbs ≤ 3 * b.natAbs → (u - r / s * n).natAbs ≤ 3 * b.natAbs := fun hs0 hp => by
    have := Nat.le_mul_of_pos_right (u - r / s * n).natAbs (show 0 < s.natAbs by omega)
    omega
  rcases hst with ⟨rfl, rfl, rfl, rfl⟩ | ⟨rfl, rfl, rfl, hs0, hs1⟩ | ⟨hr0, hs0, hp⟩
  · refine ⟨h2, by rw [Int.mul_zero]; omega, ⟨k', hk'⟩, hc, by rw [xs_gcd], .inr (.inl ⟨rfl, by rw [Int.mul_zero]; rfl, rfl, ht0, ht1⟩)⟩
  · have hp : (0 - r / s * 1).natAbs * s.natAbs + (1 : Int).natAbs * (r % s).natAbs ≤ 3 * r.natAbs := by
      rw [← Int.natAbs_mul, show (0 - r / s * 1) * s = -(s * (r / s)) by grind, Int.natAbs_neg]
      have : s * (r / s) = r - r % s := by omega
      rw [this, show (1 : Int).natAbs = 1 from rfl, Nat.one_mul]
      omega
    refine ⟨h2, hP (by omega) hp, ⟨k', hk'⟩, hc, by rw [xs_gcd]; exact hg, .inr (.inr ⟨by omega, ht0, hp⟩)⟩
  · have hq : 0 ≤ r / s := Int.ediv_nonneg (by omega) hs0
    have hp2 : (u - r / s * n).natAbs * s.natAbs + n.natAbs * (r % s).natAbs ≤ 3 * b.natAbs := by
      have e1 : (u - r / s * n).natAbs ≤ u.natAbs + (r / s).natAbs * n.natAbs := by
        have := Int.natAbs_sub_le u (r / s * n)
        rwa [Int.natAbs_mul] at this
      have e2 : r.natAbs = (r % s).natAbs + s.natAbs * (r / s).natAbs := by
        rw [← Int.natAbs_mul]
        have h0 : 0 ≤ s * (r / s) := Int.mul_nonneg hs0 hq
        omega
      rw [e2] at hp
      have e3 := Nat.mul_le_mul_right s.natAbs e1
      generalize (u - r / s * n).natAbs = w at *
      generalize (r / s).natAbs = q at *
      generalize (r % s).natAbs = t at *
      generalize s.natAbs = S at *
      generalize n.natAbs = N at *
      generalize u.natAbs = V at *
      have e4 : (V + q * N) * S + N * t = N * (t + S * q) + V * S := by grind
      omega
    exact ⟨h2, hP (by omega) hp2, ⟨k', hk'⟩, hc, by rw [xs_gcd]; exact hg, .inr (.inr ⟨by omega, ht0, hp2⟩)⟩

theorem XS.last {a b u r : Int} {n : Int} (h : XS a b u n r 0) : ∃ k, (if r < 0 then -r else r) = (Int.gcd a b : Int) ∧ (Int.gcd a b : Int) = (if r < 0 then -u else u) * a + k * b := by
  obtain ⟨h1, h2, ⟨k, hk⟩, -, hg, -⟩ := h
  rw [Int.gcd_zero_right] at hg
  by_cases hr : r < 0
  · refine ⟨-k, ?_, ?_⟩
    · rw [if_pos hr]; omega
    · rw [if_pos hr, ← hg]
      have : (r.natAbs : Int) = -r := by omega
      rw [this, hk]; grind
  · refine ⟨k, ?_, ?_⟩
    · rw [if_neg hr]; omega
    · rw [if_neg hr, ← hg]
      have : (r.natAbs : Int) = r := by omega
      rw [this]; exact hk

theorem xs_end {a b u k g : Int} (hb : b ≠ 0) (hg0 : g ≠ 0) (hga : g ∣ a) (hgb : g ∣ b) (h : g = u * a + k * b) : b % g = 0 ∧ b / g ≠ 0 ∧ (g - u % (b / g) * a) % b = 0 ∧ u % (b / g) * a + (g - u % (b / g) * a) / b * b = g := by
  obtain ⟨a', rfl⟩ := hga
  obtain ⟨b', rfl⟩ := hgb
  have e1 : g * b' / g = b' := Int.mul_ediv_cancel_left _ hg0
  have hb' : b' ≠ 0 := fun e => by subst e; simp at hb
  rw [e1]
  have e2 := Int.emod_add_mul_ediv u b'
  have e3 : g - u % b' * (g * a') = g * b' * (k + a' * (u / b')) := by
    generalize u / b' = m at *
    generalize hw : u % b' = w at *
    have : u = w + b' * m := e2.symm
    subst this
    grind
  refine ⟨Int.mul_emod_right .., hb', ?_, ?_⟩
  · rw [e3]; exact Int.mul_emod_right ..
  · have e4 : (g - u % b' * (g * a')) / (g * b') * (g * b') = g - u % b' * (g * a') := by
      rw [e3, Int.mul_ediv_cancel_left _ hb, Int.mul_comm]
    omega

end Go.Proofs.Ytlnmhjkagnfnaaa

/- Walks of bigint: the extended Euclidean algorithm. -/
namespace Go.Proofs.Ytlnmhjkagnfnaaa
open Go.Hp
variable {G : World} {U : UH} {M : MH}

theorem natAbs_sign_sz {z : Int} : -9223372036854775808 ≤ z.sign ∧ z.sign ≤ 9223372036854775807 := by
  rcases Int.lt_trichotomy z 0 with h | h | h
  · rw [Int.sign_eq_neg_one_of_neg h]; decide
  · rw [h]; decide
  · rw [Int.sign_eq_one_of_pos h]; decide

theorem sz_three {b u : Int} {k : Nat} (hb : Sz b k) (hu : u.natAbs ≤ 3 * b.natAbs) : Sz u (k + 1) := by
  unfold Sz at *
  rw [Nat.pow_succ]
  omega

theorem Xgcd_ct {x y : IV} {z w : Int} (hx : x.rep U M z) (hn : x.n ≤ 274877906944) (hy : y.rep U M w) (hn' : y.n ≤ 274877906944) :
    Ct Try.prog 64 [x.v, y.v] G U M fun v U' D => ∃ (g u t : IV) (zu zt : Int) (Dg Du Dt : MH), v = .tuple #[g.v, u.v, t.v] ∧ D = Dt ++ (Du ++ Dg) ∧ g.own Dg (Int.gcd z w : Int) ∧ u.own Du zu ∧ t.own Dt zt ∧
      (w = 0 → zu = z.sign ∧ zt = 0 ∧ t = zeroIV) ∧ (w ≠ 0 → zu * z + zt * w = (Int.gcd z w : Int) ∧ ∃ k, zu = k % (w / (Int.gcd z w : Int))) ∧ ULe U U' := by
  have hUc := ULe.refl U
  have sz := hx.sz (Nat.le_refl _)
  have sw := hy.sz (Nat.le_refl _)
  refine ct_of_st Try.func64 rfl rfl rfl rfl ?_
  repeat (first | refine run_S ?_ | refine w_box (fun _ => ?_) | refine w_al (fun _ => ?_))
  rename_i b2 b3 b4 b5 b6
  refine sl_call rfl rfl rfl rfl rfl rfl (fun _ => Sign_ct (hy.up hUc sb) (Nat.le_trans hn' (by decide))) ?_
  rintro v U' D hU ⟨rfl, rfl, rfl⟩
  repeat (first | refine run_S ?_ | refine w_box (fun _ => ?_) | refine w_al (fun _ => ?_))
  by_cases hw : w = 0
  · refine st_eq rfl (fun _ => ?_) (fun h => absurd (by rw [hw]; rfl) h)
    repeat (first | refine run_S ?_ | refine w_box (fun _ => ?_) | refine w_al (fun _ => ?_))
    refine st_drawT (.node 5 6 (.leaf [0, 2, 5, 1, 3, 4, 6, 7, 8]) (.node 5 7 (.leaf [0, 2, 1, 3, 4, 6, 5, 7, 8]) (.leaf [0, 2, 1, 3, 4, 6, 7, 5, 8]))) sym (by kernel_rfl) (by kernel_rfl) (slT_node (slT_leaf ?_) (slT_node (slT_leaf ?_) (slT_leaf ?_)))
    all_goals
      repeat (first | refine run_S ?_ | refine w_box (fun _ => ?_) | refine w_al (fun _ => ?_))
      refine sl_call rfl rfl rfl rfl rfl rfl (fun _ => Abs_ct (hx.up hUc sb) (Nat.le_trans hn (by decide))) ?_
      rintro v U' Dh1 hU ⟨xh1, rfl, h1, rfl⟩
      refine sl_perm ?_ (perm5 (D := Dh1))
      repeat (first | refine run_S ?_ | refine w_box (fun _ => ?_) | refine w_al (fun _ => ?_))
      refine sl_call rfl rfl rfl rfl rfl rfl (fun _ => Sign_ct (hx.up hUc sb) (Nat.le_trans hn (by decide))) ?_
      rintro v U' D hU ⟨rfl, rfl, rfl⟩
      repeat (first | refine run_S ?_ | refine w_box (fun _ => ?_) | refine w_al (fun _ => ?_))
      refine sl_call rfl rfl rfl rfl rfl rfl (fun _ => Of_ct (z := z.sign) natAbs_sign_sz.1 natAbs_sign_sz.2) ?_
      rintro v U' Dh2 hU ⟨xh2, rfl, h2, rfl⟩
      refine sl_perm ?_ (perm5 (D := Dh2))
      repeat (first | refine run_S ?_ | refine w_box (fun _ => ?_) | refine w_al (fun _ => ?_))
      exact sk_ret (Dh2 ++ Dh1) sym rfl (.cons (.cell 2 rfl rfl rfl) (.cons (.cell 1 rfl rfl rfl) (.cons (.cell 0 rfl rfl rfl) .nil))) hUc (by rw [List.append_assoc]; exact sb) (.inl rfl)
        ⟨xh1, xh2, zeroIV, z.sign, 0, Dh1, Dh2, [], rfl, rfl, by rw [hw, Int.gcd_zero_right]; exact h1, h2, own_zero, fun _ => ⟨rfl, rfl, rfl⟩, fun h => absurd hw h, hUc⟩
  · refine st_eq rfl (fun h => absurd (Int.sign_eq_zero_iff_zero.1 h) hw) (fun _ => ?_)
    repeat (first | refine run_S ?_ | refine w_box (fun _ => ?_) | refine w_al (fun _ => ?_))
    refine st_draw [0, 2, 1, 3, 4, 5, 6, 7] sym (by kernel_rfl) ?_
    repeat (first | refine run_S ?_ | refine w_box (fun _ => ?_) | refine w_al (fun _ => ?_))
    refine sl_call rfl rfl rfl rfl rfl rfl (fun _ => Normal_ct (hx.up hUc sb) (Nat.le_trans hn (by decide))) ?_
    rintro v U' Dhr hU ⟨xhr, rfl, hr, rfl⟩
    refine sl_perm ?_ (perm5 (D := Dhr))
    repeat (first | refine run_S ?_ | refine w_box (fun _ => ?_) | refine w_al (fun _ => ?_))
    refine sl_call rfl rfl rfl rfl rfl rfl (fun _ => Normal_ct (hy.up hUc sb) (Nat.le_trans hn' (by decide))) ?_
    rintro v U' Dhs hU ⟨xhs, rfl, hs, rfl⟩
    refine sl_perm ?_ (perm5 (D := Dhs))
    repeat (first | refine run_S ?_ | refine w_box (fun _ => ?_) | refine w_al (fun _ => ?_))
    rename_i b7 b8
    refine sl_call rfl rfl rfl rfl rfl rfl (fun _ => Of_ct (z := 1) (by decide) (by decide)) ?_
    rintro v U' Dhu hU ⟨xhu, rfl, hu, rfl⟩
    refine sl_perm ?_ (perm7 (D := Dhu))
    repeat (first | refine run_S ?_ | refine w_box (fun _ => ?_) | refine w_al (fun _ => ?_))
    refine sl_call rfl rfl rfl rfl rfl rfl (fun _ => Of_ct (z := 0) (by decide) (by decide)) ?_
    rintro v U' Dhn0 hU ⟨xhn0, rfl, hn0, rfl⟩
    refine sl_perm ?_ (perm7 (D := Dhn0))
    repeat (first | refine run_S ?_ | refine w_box (fun _ => ?_) | refine w_al (fun _ => ?_))
    rename_i b9
    refine st_loop (fun m E U' M' => ∃ (xr xs xu xn : IV) (r s u nn : Int) (Dr Ds Du Dn T : MH), xr.own Dr r ∧ xs.own Ds s ∧ xu.own Du u ∧ xn.own Dn nn ∧ XS z w u nn r s ∧ Sz r (x.n + y.n) ∧ Sz s (x.n + y.n) ∧ E = [(9, .pointer (some ⟨b9, 0, none⟩)), (8, .pointer (some ⟨b8, 0, none⟩)), (7, .pointer (some ⟨b7, 0, none⟩)), (6, .pointer (some ⟨b6, 0, none⟩)), (5, .pointer (some ⟨b5, 0, none⟩)), (4, .pointer (some ⟨b4, 0, none⟩)), (3, .pointer (some ⟨b3, 0, none⟩)), (2, .pointer (some ⟨b2, 0, none⟩))] ∧ ULe U U' ∧
        M' = (b9, .var xn.v, 24) :: (b8, .var xs.v, 24) :: (b7, .var xr.v, 24) :: (b6, .var (.agg #[.bool false, .slice none 0 0]), 24) :: (b5, .var xu.v, 24) :: (b4, .var (.agg #[.bool false, .slice none 0 0]), 24) :: (b3, .var y.v, 24) :: (b2, .var x.v, 24) :: T ∧ (Dr ++ M).Sublist T ∧ (Ds ++ M).Sublist T ∧ Du.Sublist T ∧ Dn.Sublist T ∧ s.natAbs = m) (n0 := w.natAbs)
      (E0 := [(9, .pointer (some ⟨b9, 0, none⟩)), (8, .pointer (some ⟨b8, 0, none⟩)), (7, .pointer (some ⟨b7, 0, none⟩)), (6, .pointer (some ⟨b6, 0, none⟩)), (5, .pointer (some ⟨b5, 0, none⟩)), (4, .pointer (some ⟨b4, 0, none⟩)), (3, .pointer (some ⟨b3, 0, none⟩)), (2, .pointer (some ⟨b2, 0, none⟩))]) ⟨rfl, rfl, rfl, rfl, rfl, rfl, rfl, rfl, trivial⟩
      ⟨xhr, xhs, xhu, xhn0, z, w, 1, 0, Dhr, Dhs, Dhu, Dhn0, Dhn0 ++ (Dhu ++ (Dhs ++ (Dhr ++ M))), hr, hs, hu, hn0, XS.start hw, sz.mono (by omega), sw.mono (by omega), rfl, hUc, rfl, sb, sb, sb, sb, rfl⟩ ?_
    clear hUc hr hs hu hn0
    rintro m E U' M' ⟨xr, xs, xu, xn, r, s, u, nn, Dr, Ds, Du, Dn, T, hr, hs, hu, hn0, hX, sr, ss, rfl, hUc, rfl, hTr, hTs, hTu, hTn, rfl⟩
    have hM : M.Sublist T := (List.sublist_append_right Dr M).trans hTr
    have hTr1 : Dr.Sublist T := (List.sublist_append_left Dr M).trans hTr
    have hTs1 : Ds.Sublist T := (List.sublist_append_left Ds M).trans hTs
    have sn : Sz nn (y.n + 1) := sz_three sw hX.2.1
    have su : Sz u (y.n + 1) := sz_three sw hX.1
    try refine run_s ?_
    refine st_dec rfl (fun h5 => ?_) (fun h5 => ?_)
    · have hs0 : s ≠ 0 := fun e => by have := hs.len0.2 e; omega
      have hlt : (r % s).natAbs < s.natAbs := by
        have := Int.emod_nonneg r hs0
        have := Int.emod_lt r hs0
        omega
      have hX' := hX.step hw hs0
      have st := ss.mod hs0 r
      have sq := sr.div s
      repeat (first | refine run_S ?_ | refine w_box (fun _ => ?_) | refine w_al (fun _ => ?_))
      refine sl_call rfl rfl rfl rfl rfl rfl (fun _ => DivMod_ct (hr.at (hTr1.trans sb)).rep (hr.le sr (by omega)) (hs.at (hTs1.trans sb)).rep (hs.le ss (by omega))) ?_
      rintro v Ut D hU ⟨xq, xt, ev, Dq, Dt, rfl, rfl, hdm, -, -⟩
      obtain ⟨rfl, q, t⟩ := hdm hs0
      replace hUc := hUc.trans hU
      rw [List.append_assoc]
      refine sl_perm ?_ ((List.Perm.append_left Dt (perm8 (D := Dq))).trans (perm8 (D := Dt)))
      repeat (first | refine run_S ?_ | refine w_box (fun _ => ?_) | refine w_al (fun _ => ?_))
      rename_i b10 b11
      have hq : M.Sublist (Dq ++ T) := sub_r hM
      refine st_draw2 1 2 [0, 1, 2, 3] [0, 2, 1, 3] sym (by kernel_rfl) (by kernel_rfl) (by kernel_rfl) ?_ ?_
      all_goals
        repeat (first | refine run_S ?_ | refine w_box (fun _ => ?_) | refine w_al (fun _ => ?_))
        refine st_draw [0, 1, 2, 3, 4, 5, 6, 7] sym (by kernel_rfl) ?_
        repeat (first | refine run_S ?_ | refine w_box (fun _ => ?_) | refine w_al (fun _ => ?_))
        refine sl_call rfl rfl rfl rfl rfl rfl (fun _ => Mul_ct (q.at sb).rep (q.le sq (by omega)) (hn0.at (hTn.trans sb)).rep (hn0.le sn (by omega))) ?_
        rintro v U' Dh7 hU ⟨xh7, rfl, h7, rfl⟩
        refine sl_perm ?_ (perm10 (D := Dh7))
        repeat (first | refine run_S ?_ | refine w_box (fun _ => ?_) | refine w_al (fun _ => ?_))
        refine sl_call rfl rfl rfl rfl rfl rfl (fun _ => Sub_ct (hu.at (hTu.trans sb)).rep (hu.le su (by omega)) (h7.at sb).rep (h7.le (sq.mul sn) (by omega))) ?_
        rintro v U' Dh8 hU ⟨xh8, rfl, h8, rfl⟩
        refine sl_perm ?_ (perm10 (D := Dh8))
        repeat (first | refine run_S ?_ | refine w_box (fun _ => ?_) | refine w_al (fun _ => ?_))
        refine sk_perm (perm8 (D := [_, _])) ?_
        exact sk_again (E' := [(9, .pointer (some ⟨b9, 0, none⟩)), (8, .pointer (some ⟨b8, 0, none⟩)), (7, .pointer (some ⟨b7, 0, none⟩)), (6, .pointer (some ⟨b6, 0, none⟩)), (5, .pointer (some ⟨b5, 0, none⟩)), (4, .pointer (some ⟨b4, 0, none⟩)), (3, .pointer (some ⟨b3, 0, none⟩)), (2, .pointer (some ⟨b2, 0, none⟩))]) (m := (r % s).natAbs) ⟨rfl, rfl, rfl, rfl, rfl, rfl, rfl, rfl, trivial⟩ hlt
          ⟨xs, xt, xn, xh8, s, r % s, nn, u - r / s * nn, Ds, Dt, Dn, Dh8, _, hs, t, hn0, h8, hX', ss, st, rfl, hUc, rfl, hTs.trans sb, (List.Sublist.append (List.Sublist.refl Dt) hq).trans sb, hTn.trans sb, sb, rfl⟩
    · have hs0 : s = 0 := hs.len0.1 (by omega)
      subst hs0
      obtain ⟨k, hk1, hk2⟩ := hX.last
      have hg0 : (Int.gcd z w : Int) ≠ 0 := fun e => hw (Int.gcd_eq_zero_iff.1 (Int.ofNat_eq_zero.1 e)).2
      have sg : Sz (Int.gcd z w : Int) (x.n + y.n) := (sz.mono (by omega)).gcd (sw.mono (by omega))
      obtain ⟨e1, e2, e3, e4⟩ := xs_end hw hg0 (Int.gcd_dvd_left z w) (Int.gcd_dvd_right z w) hk2
      try refine run_o ?_
      refine st_seq_cut (fun E U2 M2 => ∃ (xg xv : IV) (Dg Dv T2 : MH), xg.own Dg (Int.gcd z w : Int) ∧ xv.own Dv (if r < 0 then -u else u) ∧ E = [(9, .pointer (some ⟨b9, 0, none⟩)), (8, .pointer (some ⟨b8, 0, none⟩)), (7, .pointer (some ⟨b7, 0, none⟩)), (6, .pointer (some ⟨b6, 0, none⟩)), (5, .pointer (some ⟨b5, 0, none⟩)), (4, .pointer (some ⟨b4, 0, none⟩)), (3, .pointer (some ⟨b3, 0, none⟩)), (2, .pointer (some ⟨b2, 0, none⟩))] ∧ U' = U2 ∧ M2 = (b9, .var xn.v, 24) :: (b8, .var xs.v, 24) :: (b7, .var xg.v, 24) :: (b6, .var (.agg #[.bool false, .slice none 0 0]), 24) :: (b5, .var xv.v, 24) :: (b4, .var (.agg #[.bool false, .slice none 0 0]), 24) :: (b3, .var y.v, 24) :: (b2, .var x.v, 24) :: T2 ∧ (Dg ++ M).Sublist T2 ∧ Dv.Sublist T2) ?_ ?_
      · have hneg : xr.neg = decide (r < 0) := by
          obtain ⟨l, _, _, _, h4⟩ := hr
          exact h4
        by_cases hr0 : r < 0
        · rw [if_pos hr0] at hk1 hk2
          try refine run_s ?_
          rw [hneg, decide_eq_true hr0]
          try refine run_s ?_
          refine st_draw [0, 2, 1, 3, 4, 5] sym (by kernel_rfl) ?_
          repeat (first | refine run_S ?_ | refine w_box (fun _ => ?_) | refine w_al (fun _ => ?_))
          refine sl_call rfl rfl rfl rfl rfl rfl (fun _ => Neg_ct (hr.at (hTr1.trans sb)).rep (hr.le sr (by omega))) ?_
          rintro v U' Dh1 hU ⟨xh1, rfl, h1, rfl⟩
          refine sl_perm ?_ (perm8 (D := Dh1))
          repeat (first | refine run_S ?_ | refine w_box (fun _ => ?_) | refine w_al (fun _ => ?_))
          refine sl_call rfl rfl rfl rfl rfl rfl (fun _ => Neg_ct (hu.at (hTu.trans sb)).rep (hu.le su (by omega))) ?_
          rintro v U' Dh2 hU ⟨xh2, rfl, h2, rfl⟩
          refine sl_perm ?_ (perm8 (D := Dh2))
          repeat (first | refine run_S ?_ | refine w_box (fun _ => ?_) | refine w_al (fun _ => ?_))
          rw [hk1] at h1
          exact sk_cut (E' := [(9, .pointer (some ⟨b9, 0, none⟩)), (8, .pointer (some ⟨b8, 0, none⟩)), (7, .pointer (some ⟨b7, 0, none⟩)), (6, .pointer (some ⟨b6, 0, none⟩)), (5, .pointer (some ⟨b5, 0, none⟩)), (4, .pointer (some ⟨b4, 0, none⟩)), (3, .pointer (some ⟨b3, 0, none⟩)), (2, .pointer (some ⟨b2, 0, none⟩))]) ⟨rfl, rfl, rfl, rfl, rfl, rfl, rfl, rfl, trivial⟩ ⟨xh1, xh2, Dh1, Dh2, Dh2 ++ (Dh1 ++ T), h1, by rw [if_pos hr0]; exact h2, rfl, rfl, rfl, sub_r (List.Sublist.append (List.Sublist.refl _) hM), sb⟩
        · rw [if_neg hr0] at hk1 hk2
          try refine run_s ?_
          rw [hneg, decide_eq_false hr0]
          try refine run_s ?_
          rw [hk1] at hr
          exact sk_cut (E' := [(9, .pointer (some ⟨b9, 0, none⟩)), (8, .pointer (some ⟨b8, 0, none⟩)), (7, .pointer (some ⟨b7, 0, none⟩)), (6, .pointer (some ⟨b6, 0, none⟩)), (5, .pointer (some ⟨b5, 0, none⟩)), (4, .pointer (some ⟨b4, 0, none⟩)), (3, .pointer (some ⟨b3, 0, none⟩)), (2, .pointer (some ⟨b2, 0, none⟩))]) ⟨rfl, rfl, rfl, rfl, rfl, rfl, rfl, rfl, trivial⟩ ⟨xr, xu, Dr, Du, T, hr, by rw [if_neg hr0]; exact hu, rfl, rfl, rfl, hTr, hTu⟩
      · rintro E U2 M2 ⟨xg, xv, Dg, Dv, T2, hg, hv, rfl, rfl, rfl, hTg, hTv⟩
        have hM2 : M.Sublist T2 := (List.sublist_append_right Dg M).trans hTg
        have hTg1 : Dg.Sublist T2 := (List.sublist_append_left Dg M).trans hTg
        have sv : Sz (if r < 0 then -u else u) (y.n + 1) := by
          split
          · exact su.neg
          · exact su
        generalize (if r < 0 then -u else u) = u2 at *
        generalize (Int.gcd z w : Int) = g at *
        repeat (first | refine run_S ?_ | refine w_box (fun _ => ?_) | refine w_al (fun _ => ?_))
        refine sl_call rfl rfl rfl rfl rfl rfl (fun _ => Exact_ct (hy.up hUc (hM2.trans sb)) (by omega) (hg.at (hTg1.trans sb)).rep (hg.le sg (by omega))) ?_
        rintro v U3 Dp hU ⟨xp, ev, rfl, -, -, hp, -⟩
        obtain ⟨rfl, hp1⟩ := hp hg0 e1
        replace hUc := hUc.trans hU
        refine sl_perm ?_ (perm8 (D := Dp))
        repeat (first | refine run_S ?_ | refine w_box (fun _ => ?_) | refine w_al (fun _ => ?_))
        rename_i b13
        refine sl_call rfl rfl rfl rfl rfl rfl (fun _ => DivMod_ct (hv.at (hTv.trans sb)).rep (hv.le sv (by omega)) (hp1.at sb).rep (hp1.le (sw.div g) (by omega))) ?_
        rintro v Ut D hU ⟨xq, xt, ev, Dq, Dt, rfl, rfl, hdm, -, -⟩
        obtain ⟨rfl, q, t⟩ := hdm e2
        replace hUc := hUc.trans hU
        rw [List.append_assoc]
        refine sl_perm ?_ ((List.Perm.append_left Dt (perm9 (D := Dq))).trans (perm9 (D := Dt)))
        repeat (first | refine run_S ?_ | refine w_box (fun _ => ?_) | refine w_al (fun _ => ?_))
        refine st_draw [0, 1, 2, 5, 3, 4, 6, 7, 8, 9, 10] sym (by kernel_rfl) ?_
        repeat (first | refine run_S ?_ | refine w_box (fun _ => ?_) | refine w_al (fun _ => ?_))
        have st := (sw.div g).mod e2 u2
        refine sl_call rfl rfl rfl rfl rfl rfl (fun _ => Mul_ct (t.at sb).rep (t.le st (by omega)) (hx.up hUc (hM2.trans sb)) (by omega)) ?_
        rintro v U' Dh3 hU ⟨xh3, rfl, h3, rfl⟩
        refine sl_perm ?_ (perm9 (D := Dh3))
        repeat (first | refine run_S ?_ | refine w_box (fun _ => ?_) | refine w_al (fun _ => ?_))
        refine sl_call rfl rfl rfl rfl rfl rfl (fun _ => Sub_ct (hg.at (hTg1.trans sb)).rep (hg.le sg (by omega)) (h3.at sb).rep (h3.le (st.mul sz) (by omega))) ?_
        rintro v U' Dh4 hU ⟨xh4, rfl, h4, rfl⟩
        refine sl_perm ?_ (perm9 (D := Dh4))
        repeat (first | refine run_S ?_ | refine w_box (fun _ => ?_) | refine w_al (fun _ => ?_))
        have s4 := sg.sub ((st.mul sz).mono (Nat.le_of_eq (Nat.add_comm ..)))
        refine sl_call rfl rfl rfl rfl rfl rfl (fun _ => Exact_ct (h4.at sb).rep (h4.le s4 (by omega)) (hy.up hUc (hM2.trans sb)) (by omega)) ?_
        rintro v U4 De hU ⟨xe, ev, rfl, -, -, he, -⟩
        obtain ⟨rfl, he1⟩ := he hw e3
        replace hUc := hUc.trans hU
        refine sl_perm ?_ (perm9 (D := De))
        repeat (first | refine run_S ?_ | refine w_box (fun _ => ?_) | refine w_al (fun _ => ?_))
        have hD1 : (Dt ++ (Dg ++ M)).Sublist (Dh4 ++ (Dh3 ++ (Dt ++ (Dq ++ (Dp ++ T2))))) := sub_r (sub_r (List.Sublist.append (List.Sublist.refl _) (sub_r (sub_r hTg))))
        have hD : (De ++ (Dt ++ Dg) ++ M).Sublist (De ++ (Dh4 ++ (Dh3 ++ (Dt ++ (Dq ++ (Dp ++ T2)))))) := by
          rw [List.append_assoc, List.append_assoc]
          exact List.Sublist.append (List.Sublist.refl _) hD1
        refine st_drawT (.node 1 3 (.node 2 3 (.leaf [0, 1, 2, 3, 4, 5]) (.node 2 4 (.leaf [0, 1, 3, 2, 4, 5]) (.leaf [0, 1, 3, 4, 2, 5]))) (.node 2 3 (.leaf [0, 2, 3, 1, 4, 5]) (.node 2 4 (.leaf [0, 3, 1, 2, 4, 5]) (.leaf [0, 3, 1, 4, 2, 5])))) sym (by kernel_rfl) (by kernel_rfl) (slT_node (slT_node (slT_leaf ?_) (slT_node (slT_leaf ?_) (slT_leaf ?_))) (slT_node (slT_leaf ?_) (slT_node (slT_leaf ?_) (slT_leaf ?_))))
        all_goals
          repeat (first | refine run_S ?_ | refine w_box (fun _ => ?_) | refine w_al (fun _ => ?_))
          exact sk_ret (De ++ (Dt ++ Dg)) sym rfl (.cons (.cell 6 rfl rfl rfl) (.cons (.cell 5 rfl rfl rfl) (.cons (.cell 4 rfl rfl rfl) .nil))) hUc (hD.trans sb) (.inl rfl)
            ⟨xg, xt, xe, _, _, Dg, Dt, De, rfl, rfl, hg, t, he1, fun h => absurd h hw, fun _ => ⟨e4, u2, rfl⟩, hUc⟩

end Go.Proofs.Ytlnmhjkagnfnaaa

/- Walks of the reference of layer 1: greatest common divisors, quotients. -/
namespace Go.Proofs.Ytlnmhjkagnfnaaa
open Go.Hp
variable {G : World} {U : UH} {M : MH}

theorem rDivided_ct {x y : IV} {z u : Int} (hx : x.rep U M z) (hn : x.n ≤ 274877906944) (hy : y.rep U M u) (hn' : y.n ≤ 274877906944) (hu : u ≠ 0) :
    Ct Try.prog 15 [x.v, y.v] G U M fun v U' D => ∃ r : IV, v = r.v ∧ r.own D (z / u) ∧ U = U' := by
  have hUc := ULe.refl U
  refine ct_of_st Try.func15 rfl rfl rfl rfl ?_
  repeat (first | refine run_S ?_ | refine w_box (fun _ => ?_) | refine w_al (fun _ => ?_))
  refine sl_call rfl rfl rfl rfl rfl rfl (fun _ => rEuclid_ct (hx.up hUc sb) hn (hy.up hUc sb) hn' hu) ?_
  rintro v U' D hU ⟨xq, xr, Dq, Dr, rfl, rfl, q, r, rfl⟩
  rw [List.append_assoc]
  refine sl_perm ?_ ((List.Perm.append_left Dr (perm3 (D := Dq))).trans (perm3 (D := Dr)))
  repeat (first | refine run_S ?_ | refine w_box (fun _ => ?_) | refine w_al (fun _ => ?_))
  exact sk_ret Dq sym rfl (.cons (.cell 2 rfl rfl rfl) .nil) hUc (.cons _ (.cons _ (.cons _ (.cons _ (.cons _ (sub_r (List.Sublist.refl _))))))) (.inl rfl) ⟨xq, rfl, q, rfl⟩

theorem rGcd_ct {x y : IV} {z w : Int} (hx : x.rep U M z) (hn : x.n ≤ 137438953472) (hy : y.rep U M w) (hn' : y.n ≤ 137438953472) :
    Ct Try.prog 11 [x.v, y.v] G U M fun v U' D => ∃ r : IV, v = r.v ∧ r.own D (Int.gcd z w : Int) ∧ U = U' := by
  have hUc := ULe.refl U
  have sz := hx.sz (Nat.le_refl _)
  have sw := hy.sz (Nat.le_refl _)
  refine ct_of_st Try.func11 rfl rfl rfl rfl ?_
  repeat (first | refine run_S ?_ | refine w_box (fun _ => ?_) | refine w_al (fun _ => ?_))
  rename_i b2 b3 b4
  refine st_draw [0, 2, 1, 3, 4, 5, 6, 7] sym (by kernel_rfl) ?_
  repeat (first | refine run_S ?_ | refine w_box (fun _ => ?_) | refine w_al (fun _ => ?_))
  refine sl_call rfl rfl rfl rfl rfl rfl (fun _ => rAbs_ct (hx.up hUc sb) (Nat.le_trans hn (by decide))) ?_
  rintro v U' Dh1 hU ⟨xh1, rfl, h1, rfl⟩
  refine sl_perm ?_ (perm3 (D := Dh1))
  repeat (first | refine run_S ?_ | refine w_box (fun _ => ?_) | refine w_al (fun _ => ?_))
  refine sl_call rfl rfl rfl rfl rfl rfl (fun _ => rAbs_ct (hy.up hUc sb) (Nat.le_trans hn' (by decide))) ?_
  rintro v U' Dh2 hU ⟨xh2, rfl, h2, rfl⟩
  refine sl_perm ?_ (perm3 (D := Dh2))
  repeat (first | refine run_O ?_ | refine w_box (fun _ => ?_) | refine w_al (fun _ => ?_))
  rename_i b5 b6
  refine st_seq_cut (fun E U' M' => E = [(6, .pointer (some ⟨b6, 0, none⟩)), (5, .pointer (some ⟨b5, 0, none⟩)), (4, .pointer (some ⟨b4, 0, none⟩)), (3, .pointer (some ⟨b3, 0, none⟩)), (2, .pointer (some ⟨b2, 0, none⟩))] ∧ U = U' ∧ M' = (b6, .var xh2.v, 24) :: (b5, .var xh1.v, 24) :: (b4, .var (.agg #[.bool false, .slice none 0 0]), 24) :: (b3, .var y.v, 24) :: (b2, .var x.v, 24) :: (Dh2 ++ (Dh1 ++ M))) ?_ ?_
  · try refine run_s ?_
    refine sl_gdec rfl rfl (fun h3 => ?_) (fun h3 => ?_)
    · try refine run_s ?_
      refine st_dec rfl (fun h4 => ?_) (fun h4 => ?_)
      · obtain ⟨l1, hd1, -, hv1, -⟩ := h1.at (M := (b6, .var xh2.v, 24) :: (b5, .var xh1.v, 24) :: (b4, .var (.agg #[.bool false, .slice none 0 0]), 24) :: (b3, .var y.v, 24) :: (b2, .var x.v, 24) :: (Dh2 ++ (Dh1 ++ M))) (U := U) sb
        obtain ⟨l2, hd2, -, hv2, -⟩ := h2.at (M := (b6, .var xh2.v, 24) :: (b5, .var xh1.v, 24) :: (b4, .var (.agg #[.bool false, .slice none 0 0]), 24) :: (b3, .var y.v, 24) :: (b2, .var x.v, 24) :: (Dh2 ++ (Dh1 ++ M))) (U := U) sb
        have w1 := word_lt hd1 (by omega)
        have w2 := word_lt hd2 (by omega)
        rw [hv1, Int.natAbs_natCast] at w1
        rw [hv2, Int.natAbs_natCast] at w2
        try refine run_s ?_
        refine st_draw [0, 1, 3, 4, 2, 5, 6, 7] sym (by kernel_rfl) ?_
        repeat (first | refine run_S ?_ | refine w_box (fun _ => ?_) | refine w_al (fun _ => ?_))
        refine sl_call rfl rfl rfl rfl rfl rfl (fun _ => rword_ct (hd1.app _) (by omega)) ?_
        rintro v U' D hU ⟨rfl, rfl, rfl⟩
        repeat (first | refine run_S ?_ | refine w_box (fun _ => ?_) | refine w_al (fun _ => ?_))
        refine sl_call rfl rfl rfl rfl rfl rfl (fun _ => rword_ct (hd2.app _) (by omega)) ?_
        rintro v U' D hU ⟨rfl, rfl, rfl⟩
        repeat (first | refine run_S ?_ | refine w_box (fun _ => ?_) | refine w_al (fun _ => ?_))
        rw [hv1, hv2, Int.natAbs_natCast, Int.natAbs_natCast]
        try refine run_o ?_
        refine st_loop (fun m E U' M' => ∃ p q : Nat, Nat.gcd p q = Int.gcd z w ∧ p < 18446744073709551616 ∧ q < 18446744073709551616 ∧ E = (7, .int .u64 (p : Int)) :: (8, .int .u64 (q : Int)) :: [(6, .pointer (some ⟨b6, 0, none⟩)), (5, .pointer (some ⟨b5, 0, none⟩)), (4, .pointer (some ⟨b4, 0, none⟩)), (3, .pointer (some ⟨b3, 0, none⟩)), (2, .pointer (some ⟨b2, 0, none⟩))] ∧ U = U' ∧ M' = (b6, .var xh2.v, 24) :: (b5, .var xh1.v, 24) :: (b4, .var (.agg #[.bool false, .slice none 0 0]), 24) :: (b3, .var y.v, 24) :: (b2, .var x.v, 24) :: (Dh2 ++ (Dh1 ++ M)) ∧ q = m) (n0 := w.natAbs)
          (E0 := (7, .int .u64 (z.natAbs : Int)) :: (8, .int .u64 (w.natAbs : Int)) :: [(6, .pointer (some ⟨b6, 0, none⟩)), (5, .pointer (some ⟨b5, 0, none⟩)), (4, .pointer (some ⟨b4, 0, none⟩)), (3, .pointer (some ⟨b3, 0, none⟩)), (2, .pointer (some ⟨b2, 0, none⟩))]) ⟨rfl, rfl, rfl, rfl, rfl, rfl, rfl, trivial⟩ ⟨_, _, rfl, w1, w2, rfl, rfl, rfl, rfl⟩ ?_
        rintro m E U' M' ⟨p, q, e1, e2, e3, rfl, rfl, rfl, rfl⟩
        try refine run_s ?_
        refine st_dec rfl (fun h5 => ?_) (fun h5 => ?_)
        · have hlt : p % q < q := Nat.mod_lt _ (by omega)
          try refine run_s ?_
          refine st_draw [0, 1, 2, 3, 4, 5] sym (by kernel_rfl) ?_
          try refine run_s ?_
          refine sl_y (yl_remN (m := p) (n := q) rfl rfl rfl rfl rfl (by simp only [kmax]; omega) (by omega) rfl) rfl rfl rfl rfl ?_
          try refine run_s ?_
          refine sk_again (E' := (7, .int .u64 (q : Int)) :: (8, .int .u64 ((p % q : Nat) : Int)) :: [(6, .pointer (some ⟨b6, 0, none⟩)), (5, .pointer (some ⟨b5, 0, none⟩)), (4, .pointer (some ⟨b4, 0, none⟩)), (3, .pointer (some ⟨b3, 0, none⟩)), (2, .pointer (some ⟨b2, 0, none⟩))]) (m := p % q) ⟨rfl, rfl, rfl, rfl, rfl, rfl, rfl, trivial⟩ hlt ⟨q, p % q, ?_, e3, by omega, rfl, rfl, rfl, rfl⟩
          rw [← e1, Nat.gcd_comm q, ← Nat.gcd_rec, Nat.gcd_comm]
        · have hq : q = 0 := by omega
          subst hq
          rw [Nat.gcd_zero_right] at e1
          subst e1
          repeat (first | refine run_S ?_ | refine w_box (fun _ => ?_) | refine w_al (fun _ => ?_))
          refine sl_call rfl rfl rfl rfl rfl rfl (fun _ => rsplit_ct e2) ?_
          rintro v U' D hU ⟨q, k, cc, lg, rfl, ho, cg, hvg, rfl⟩
          refine sl_perm ?_ (perm5 (D := D))
          have hk : k ≤ 1099511627776 := by
            have e4 : k ≤ 2 := IV.own.len_le (x := ⟨false, q, k, cc⟩) (z := (val lg : Int)) (D := D) ⟨lg, ho, cg, by rw [Int.natAbs_natCast], (decide_eq_false (by omega)).symm⟩ (by rw [Int.natAbs_natCast]; omega)
            omega
          repeat (first | refine run_S ?_ | refine w_box (fun _ => ?_) | refine w_al (fun _ => ?_))
          refine sl_call rfl rfl rfl rfl rfl rfl (fun _ => rsigned_ct (neg := false) ((ho.dig (U := U) (M := [])).up hUc (by rw [List.append_nil]; exact sb)) hk) ?_
          rintro v U' D2 hU ⟨xr, rfl, hr, rfl⟩
          refine sl_perm ?_ (perm5 (D := D2))
          repeat (first | refine run_S ?_ | refine w_box (fun _ => ?_) | refine w_al (fun _ => ?_))
          rw [hvg] at hr
          exact sk_ret D2 sym rfl (.cons (.cell 2 rfl rfl rfl) .nil) hUc (.cons _ (.cons _ (.cons _ (.cons _ (.cons _ (List.Sublist.append (List.Sublist.refl D2) (sub_r (sub_r (sub_r (List.Sublist.refl M)))))))))) (.inl rfl) ⟨xr, rfl, hr, rfl⟩
      · try refine run_s ?_
        exact sk_cut (E' := [(6, .pointer (some ⟨b6, 0, none⟩)), (5, .pointer (some ⟨b5, 0, none⟩)), (4, .pointer (some ⟨b4, 0, none⟩)), (3, .pointer (some ⟨b3, 0, none⟩)), (2, .pointer (some ⟨b2, 0, none⟩))]) ⟨rfl, rfl, rfl, rfl, rfl, trivial⟩ ⟨rfl, rfl, rfl⟩
    · try refine run_s ?_
      exact sk_cut (E' := [(6, .pointer (some ⟨b6, 0, none⟩)), (5, .pointer (some ⟨b5, 0, none⟩)), (4, .pointer (some ⟨b4, 0, none⟩)), (3, .pointer (some ⟨b3, 0, none⟩)), (2, .pointer (some ⟨b2, 0, none⟩))]) ⟨rfl, rfl, rfl, rfl, rfl, trivial⟩ ⟨rfl, rfl, rfl⟩
  · rintro E U' M' ⟨rfl, rfl, rfl⟩
    repeat (first | refine run_S ?_ | refine w_box (fun _ => ?_) | refine w_al (fun _ => ?_))
    refine st_loop (fun m E U' M' => ∃ (xa xb : IV) (p q : Nat) (Da Db T : MH), xa.own Da (p : Int) ∧ xb.own Db (q : Int) ∧ Nat.gcd p q = Int.gcd z w ∧ Sz (p : Int) (x.n + y.n) ∧ Sz (q : Int) (x.n + y.n) ∧ E = [(6, .pointer (some ⟨b6, 0, none⟩)), (5, .pointer (some ⟨b5, 0, none⟩)), (4, .pointer (some ⟨b4, 0, none⟩)), (3, .pointer (some ⟨b3, 0, none⟩)), (2, .pointer (some ⟨b2, 0, none⟩))] ∧ U = U' ∧ M' = (b6, .var xb.v, 24) :: (b5, .var xa.v, 24) :: (b4, .var (.agg #[.bool false, .slice none 0 0]), 24) :: (b3, .var y.v, 24) :: (b2, .var x.v, 24) :: T ∧ (Da ++ M).Sublist T ∧ (Db ++ M).Sublist T ∧ q = m) (n0 := w.natAbs)
      (E0 := [(6, .pointer (some ⟨b6, 0, none⟩)), (5, .pointer (some ⟨b5, 0, none⟩)), (4, .pointer (some ⟨b4, 0, none⟩)), (3, .pointer (some ⟨b3, 0, none⟩)), (2, .pointer (some ⟨b2, 0, none⟩))]) ⟨rfl, rfl, rfl, rfl, rfl, trivial⟩ ⟨xh1, xh2, z.natAbs, w.natAbs, Dh1, Dh2, Dh2 ++ (Dh1 ++ M), h1, h2, rfl, sz.abs.mono (by omega), sw.abs.mono (by omega), rfl, rfl, rfl, sb, sb, rfl⟩ ?_
    rintro m E U' M' ⟨xa, xb, p, q, Da, Db, T, ha, hb, hg, sa, sb', rfl, rfl, rfl, hTa, hTb, rfl⟩
    have hM : M.Sublist T := (List.sublist_append_right Da M).trans hTa
    have hTa1 : Da.Sublist T := (List.sublist_append_left Da M).trans hTa
    have hTb1 : Db.Sublist T := (List.sublist_append_left Db M).trans hTb
    try refine run_s ?_
    refine st_dec rfl (fun h5 => ?_) (fun h5 => ?_)
    · have hq : q ≠ 0 := fun e => by
        have := hb.len0.2 (by omega)
        omega
      have hlt : p % q < q := Nat.mod_lt _ (by omega)
      repeat (first | refine run_S ?_ | refine w_box (fun _ => ?_) | refine w_al (fun _ => ?_))
      refine sl_call rfl rfl rfl rfl rfl rfl (fun _ => rEuclid_ct (ha.at (hTa1.trans sb)).rep (ha.le sa (by omega)) (hb.at (hTb1.trans sb)).rep (hb.le sb' (by omega)) (by omega)) ?_
      rintro v U' D hU ⟨xs, xt, Ds, Dt, rfl, rfl, s, t, rfl⟩
      rw [List.append_assoc]
      refine sl_perm ?_ ((List.Perm.append_left Dt (perm5 (D := Ds))).trans (perm5 (D := Dt)))
      repeat (first | refine run_S ?_ | refine w_box (fun _ => ?_) | refine w_al (fun _ => ?_))
      rw [← Int.natCast_emod] at t
      have st := sb'.mod (by omega) (p : Int)
      rw [← Int.natCast_emod] at st
      refine sk_perm (perm5 (D := [_, _])) ?_
      refine sk_again (E' := [(6, .pointer (some ⟨b6, 0, none⟩)), (5, .pointer (some ⟨b5, 0, none⟩)), (4, .pointer (some ⟨b4, 0, none⟩)), (3, .pointer (some ⟨b3, 0, none⟩)), (2, .pointer (some ⟨b2, 0, none⟩))]) (m := p % q) ⟨rfl, rfl, rfl, rfl, rfl, trivial⟩ hlt ⟨xb, xt, q, p % q, Db, Dt, _, hb, t, ?_, sb', st, rfl, rfl, rfl, hTb.trans sb, (List.Sublist.append (List.Sublist.refl Dt) (sub_r hM)).trans sb, rfl⟩
      rw [← hg, Nat.gcd_comm q, ← Nat.gcd_rec, Nat.gcd_comm]
    · have hq : q = 0 := by
        have := hb.len0.1 (by omega)
        omega
      subst hq
      rw [Nat.gcd_zero_right] at hg
      subst hg
      repeat (first | refine run_S ?_ | refine w_box (fun _ => ?_) | refine w_al (fun _ => ?_))
      exact sk_ret Da sym rfl (.cons (.cell 2 rfl rfl rfl) .nil) hUc (.cons _ (.cons _ (.cons _ (.cons _ (.cons _ hTa))))) (.inl rfl) ⟨xa, rfl, ha, rfl⟩

end Go.Proofs.Ytlnmhjkagnfnaaa
