/- Texts of this seat's own, merged: each begins with its own remark. -/
import Derived.Test.YtlnmhjkagnfnaaaM4
import Derived.Test.YtlnmhjkagnfnaaaM5
import Derived.Test.YtlnmhjkagnfnaaaM2
import Derived.Test.YtlnmhjkagnfnaaaM3
import Derived.Test.YtlnmhjkagnfnaaaM1
/- Walks: integers as machine integers; the reference's number of binary digits. -/
namespace Go.Proofs.Ytlnmhjkagnfnaaa
open Go.Hp
variable {G : World} {U : UH} {M : MH}

/-- The machine integer that is equal to z, or 0; whether there is one. -/
def smv (z : Int) : Int := if -9223372036854775808 ≤ z ∧ z ≤ 9223372036854775807 then z else 0
def smb (z : Int) : Bool := decide (-9223372036854775808 ≤ z ∧ z ≤ 9223372036854775807)
theorem blen_half {n : Nat} (h : n ≠ 0) : blen (n / 2) + 1 = blen n := by
  have h1 := blen_lt n
  have h2 := blen_le h
  have h3 := blen_pos h
  obtain ⟨k, hk⟩ : ∃ k, blen n = k + 1 := ⟨blen n - 1, by omega⟩
  rw [hk] at h1 h2 ⊢
  rw [Nat.add_sub_cancel] at h2
  congr 1
  rcases Nat.eq_zero_or_pos k with h0 | h0
  · subst h0
    rw [show n / 2 = 0 by omega]; rfl
  · obtain ⟨j, rfl⟩ : ∃ j, k = j + 1 := ⟨k - 1, by omega⟩
    refine blen_of ?_ ?_
    · rw [Nat.pow_succ] at h2; omega
    · rw [Nat.pow_succ] at h1; omega

theorem rBits_ct {x : IV} {z : Int} (hx : x.rep U M z) (hn : x.n ≤ 1099511627776) :
    Ct Try.prog 56 [x.v] G U M fun v U' D => v = .int .i64 (blen z.natAbs : Int) ∧ U = U' ∧ D = [] := by
  obtain ⟨neg, p, n, c⟩ := x
  obtain ⟨l, hd, rfl⟩ := hx
  simp only at hd hn
  rw [sg_natAbs, ← val_tl l]
  have hc := cn_tl hd.bd
  have hle : (tl l).length ≤ n := by have := tl_length_le l; have := hd.len; omega
  refine ct_of_st Try.func56 rfl rfl rfl rfl ?_
  repeat (first | refine run_S ?_ | refine w_box (fun _ => ?_) | refine w_al (fun _ => ?_))
  rename_i b1
  refine sl_call rfl rfl rfl rfl rfl rfl (fun _ => trim_ct (hd.up (ULe.refl _) sb) hn) ?_
  rintro v U' D1 hU ⟨q, k, cc, rfl, o, hk, rfl⟩
  generalize tl l = a at *
  repeat (first | refine run_S ?_ | refine w_box (fun _ => ?_) | refine w_al (fun _ => ?_))
  refine st_eq rfl (fun h0 => ?_) (fun h0 => ?_)
  · have ha : a = [] := List.eq_nil_of_length_eq_zero (by omega)
    repeat (first | refine run_S ?_ | refine w_box (fun _ => ?_) | refine w_al (fun _ => ?_))
    refine sk_ret [] sym rfl (.cons (.tmp rfl) .nil) (ULe.refl _) sb (.inl rfl) ⟨?_, rfl, rfl⟩
    rw [ha]; rfl
  · rcases snoc_cases a with rfl | ⟨r, d, rfl⟩
    · exact absurd (by rw [hk]; rfl) h0
    have hd0 := hc.last
    have hbl := blen_val (r := r) (d := d) (fun x hx => hc.bd x (List.mem_append_left _ hx)) hd0
    have hlen : (r ++ [d]).length = r.length + 1 := by simp
    have hdg : Dig U (D1 ++ (b1, .var (IV.mk neg p n c).v, 24) :: M) q k cc (r ++ [d]) := o.dig
    obtain ⟨d', hx, hbx, hp, hcx⟩ := hdg.get (k := r.length) (by omega)
    rw [List.getElem?_append_right (Nat.le_refl _), Nat.sub_self] at hx
    cases hx
    rw [hbl]
    have hk1 : (k : Int) - 1 = ((r.length : Nat) : Int) := by omega
    repeat (first | refine run_S ?_ | refine w_box (fun _ => ?_) | refine w_al (fun _ => ?_))
    refine sl_y (yl_index1 sym rfl rfl rfl rfl rfl (hk1) (by first | omega | assumption) hp) rfl rfl rfl rfl ?_; refine sl_y (yl_loadD sym rfl rfl rfl rfl hcx) rfl rfl rfl rfl ?_
    repeat (first | refine run_S ?_ | refine w_box (fun _ => ?_) | refine w_al (fun _ => ?_))
    rw [show (32 : Int) * ((k : Int) - 1) = ((32 * r.length : Nat) : Int) by omega]
    refine st_loop (fun m E U' M' => ∃ (k' w : Nat), w < 4294967296 ∧ k' + blen w = 32 * r.length + blen d ∧ E = [(5, .int .u32 (w : Int)), (4, .int .i64 (k' : Int))] ∧ U = U' ∧ M' = (D1 ++ (b1, .var (IV.mk neg p n c).v, 24) :: M) ∧ w = m) (n0 := d)
      (E0 := [(5, .int .u32 (d : Int)), (4, .int .i64 ((32 * r.length : Nat) : Int))]) ⟨rfl, rfl, trivial⟩
      ⟨32 * r.length, d, hbx, rfl, rfl, rfl, rfl, rfl⟩ ?_
    rintro m E U' M' ⟨k', w, hw, hkw, rfl, rfl, rfl, rfl⟩
    try refine run_s ?_
    refine st_dec rfl (fun h5 => ?_) (fun h5 => ?_)
    · have hb32 : blen w ≤ 32 := blen_le_of (k := 32) (by omega)
      have hb2 := blen_half (n := w) (by omega)
      have hd32 : blen d ≤ 32 := blen_le_of (k := 32) (by omega)
      rw [hlen] at hle
      try refine run_s ?_
      have e10 : IntKind.u32.wrap ((w : Int).tdiv 2) = ((w / 2 : Nat) : Int) := by
        rw [Int.tdiv_eq_ediv_of_nonneg (by omega), wrap_in (by omega) (by simp only [kmax]; omega)]; omega
      rw [e10]
      exact sk_again (E' := [(5, .int .u32 ((w / 2 : Nat) : Int)), (4, .int .i64 ((k' : Int) + 1))]) (m := w / 2) ⟨rfl, rfl, trivial⟩ (by omega) ⟨k' + 1, w / 2, by omega, by omega, rfl, rfl, rfl, rfl⟩
    · have hw0 : w = 0 := by omega
      subst hw0
      try refine run_s ?_
      refine sk_ret [] sym rfl (.cons (.tmp rfl) .nil) (ULe.refl _) sb (.inl rfl) ⟨?_, rfl, rfl⟩
      rw [← hkw, blen_zero]; rfl

end Go.Proofs.Ytlnmhjkagnfnaaa

/- Walks of the reference of layer 1: words, shifts. -/
namespace Go.Proofs.Ytlnmhjkagnfnaaa
open Go.Hp
variable {G : World} {U : UH} {M : MH}

theorem rword_ct {p : Option Addr} {n c : Nat} {l : List Nat} (h : Dig U M p n c l) (hn : n ≤ 2) :
    Ct Try.prog 29 [.slice p n c] G U M fun v U' D => v = .int .u64 (val l : Int) ∧ U = U' ∧ D = [] := by
  have hl := h.len
  refine ct_of_st Try.func29 rfl rfl rfl rfl ?_
  repeat (first | refine run_S ?_ | refine w_box (fun _ => ?_) | refine w_al (fun _ => ?_))
  refine st_loop (fun m E U' M' => ∃ (k w : Nat), k ≤ n ∧ w = val (l.drop k) ∧ E = [(4, .int .i64 ((k : Int) - 1)), (3, .int .u64 (w : Int)), (0, .slice p n c)] ∧ U = U' ∧ M = M' ∧ k = m) (n0 := n)
    (E0 := [(4, .int .i64 ((n : Int) - 1)), (3, .int .u64 ((0 : Nat) : Int)), (0, .slice p n c)]) ⟨rfl, rfl, rfl, trivial⟩
    ⟨n, 0, Nat.le_refl _, by rw [List.drop_of_length_le (by omega)]; rfl, rfl, rfl, rfl, rfl⟩ ?_
  rintro m E U' M' ⟨k, w, hk, hw, rfl, rfl, rfl, rfl⟩
  try refine run_s ?_
  refine st_dec rfl (fun h5 => ?_) (fun h5 => ?_)
  · have hk1 : (k : Int) - 1 = ((k - 1 : Nat) : Int) := by omega
    obtain ⟨d, hdd, hbd, hp1, hcx⟩ := h.get (k := k - 1) (by omega)
    have hdr : val (l.drop (k - 1)) = d + 4294967296 * w := by
      obtain ⟨hl', he⟩ := List.getElem?_eq_some_iff.1 hdd
      rw [List.drop_eq_getElem_cons hl', he, show k - 1 + 1 = k by omega, hw]; rfl
    have hwb : w < 4294967296 := by
      have h1 := val_lt (bd_drop h.bd k)
      rw [List.length_drop] at h1
      have h2 : 4294967296 ^ (l.length - k) ≤ 4294967296 ^ 1 := Nat.pow_le_pow_right (by decide) (by omega)
      omega
    try refine run_s ?_
    refine sl_y (yl_index1 sym rfl rfl rfl rfl rfl (hk1) (by first | omega | assumption) hp1) rfl rfl rfl rfl ?_; refine sl_y (yl_loadD sym rfl rfl rfl rfl hcx) rfl rfl rfl rfl ?_
    try refine run_s ?_
    have e : IntKind.u64.wrap (IntKind.u64.wrap ((w : Int) * 2 ^ 32) + (d : Int)) = ((d + 4294967296 * w : Nat) : Int) := by
      rw [IntKind.wrap_u64, IntKind.wrap_u64]; omega
    rw [e, hk1]
    exact sk_again (E' := [(4, .int .i64 (((k - 1 : Nat) : Int) - 1)), (3, .int .u64 ((d + 4294967296 * w : Nat) : Int)), (0, .slice p n c)]) (m := k - 1) ⟨rfl, rfl, rfl, trivial⟩ (by omega)
      ⟨k - 1, d + 4294967296 * w, by omega, hdr.symm, rfl, rfl, rfl, rfl⟩
  · have hk0 : k = 0 := by omega
    subst hk0
    rw [List.drop_zero] at hw
    subst hw
    repeat (first | refine run_S ?_ | refine w_box (fun _ => ?_) | refine w_al (fun _ => ?_))
    exact sk_ret [] sym rfl (.cons (.tmp rfl) .nil) (ULe.refl _) sb (.inl rfl) ⟨rfl, rfl, rfl⟩

theorem rsplit_ct {n : Nat} (hn : n < 18446744073709551616) :
    Ct Try.prog 30 [.int .u64 (n : Int)] G U M fun v U' D => ∃ q k cc l, v = .slice q k cc ∧ Own D q k cc l ∧ Cn l ∧ val l = n ∧ U = U' := by
  refine ct_of_st Try.func30 rfl rfl rfl rfl ?_
  repeat (first | refine run_S ?_ | refine w_box (fun _ => ?_) | refine w_al (fun _ => ?_))
  have e1 : (n : Int) % 4294967296 = ((n % 4294967296 : Nat) : Int) := by omega
  have e2 : (n : Int) / 2 ^ 32 = ((n / 4294967296 : Nat) : Int) := by omega
  rw [e1, e2]
  refine sl_bslice (vs := [n % 4294967296, n / 4294967296].map dg) sym rfl rfl rfl rfl rfl rfl (dg_size _) rfl rfl rfl rfl rfl rfl (fun bo => ?_)
  have hb : Bd [n % 4294967296, n / 4294967296] := by
    intro d hd; simp only [List.mem_cons, List.not_mem_nil, or_false] at hd; omega
  have hrow : Own [(bo, .arr ([n % 4294967296, n / 4294967296].map dg), TU32)] (some ⟨bo, 0, none⟩) 2 2 [n % 4294967296, n / 4294967296] := Own.row (b := bo) (r := [n % 4294967296, n / 4294967296]) (Nat.le_refl 2) rfl (by omega) hb
  repeat (first | refine run_S ?_ | refine w_box (fun _ => ?_) | refine w_al (fun _ => ?_))
  refine sl_call rfl rfl rfl rfl rfl rfl (fun _ => trim_ct ((hrow.dig (M := M)).app _) (by decide)) ?_
  rintro v U' D hU ⟨q, k, cc, rfl, o, hk, rfl⟩
  repeat (first | refine run_S ?_ | refine w_box (fun _ => ?_) | refine w_al (fun _ => ?_))
  refine sk_ret D sym rfl (.cons (.tmp rfl) .nil) (ULe.refl _) sb (.inl rfl) ⟨q, k, cc, _, rfl, o, cn_tl hb, ?_, rfl⟩
  rw [val_tl, val_two]; omega

theorem shr_arith (A V Bq P w d x y la : Nat) (h : V + Bq * P * la = Bq * A * w) (hx : y + 4294967296 * x = d * w + la) : V + Bq * P * y + Bq * (P * 4294967296) * x = Bq * (A + P * d) * w := by grind

theorem rshifted_ct {p : Option Addr} {n c s : Nat} {a : List Nat} (ha : Dig U M p n c a) (hn : n ≤ 274877906944) (hs : s ≤ 17592186044416) :
    Ct Try.prog 79 [.slice p n c, .int .i64 (s : Int)] G U M fun v U' D => ∃ q k cc l, v = .slice q k cc ∧ Own D q k cc l ∧ Cn l ∧ val l = val a * 2 ^ s ∧ U = U' := by
  have hla := ha.len
  have hcap := ha.cap; have hcm := ha.capm
  obtain ⟨Q, e, hQ, he, hse⟩ : ∃ Q e, s / 32 = Q ∧ s % 32 = e ∧ s = 32 * Q + e := ⟨_, _, rfl, rfl, by omega⟩
  have he32 : e < 32 := by omega
  have e1 : IntKind.i64.wrap ((s : Int).tdiv 32) = ((Q : Nat) : Int) := by
    rw [Int.tdiv_eq_ediv_of_nonneg (by omega), wrap_in (by omega) (by simp only [kmax]; omega)]; omega
  have e2 : IntKind.u64.wrap ((s : Int).tmod 32) = ((e : Nat) : Int) := by
    rw [Int.tmod_eq_emod_of_nonneg (by omega), wrap_in (by omega) (by simp only [kmax]; omega)]; omega
  obtain ⟨w, w', hw, hww, hw0, hw0', hw31⟩ := pow_facts he32
  refine ct_of_st Try.func79 rfl rfl rfl rfl ?_
  repeat (first | refine run_S ?_ | refine w_box (fun _ => ?_) | refine w_al (fun _ => ?_))
  refine sl_make (m := Q) (n := Q) sym rfl rfl rfl rfl rfl e1 e1 rfl rfl (Nat.le_refl _) (by omega) (by omega) rfl rfl rfl rfl (fun bo => ?_)
  rw [dg_rep, e1]
  repeat (first | refine run_S ?_ | refine w_box (fun _ => ?_) | refine w_al (fun _ => ?_))
  have hrow : Own [(bo, .arr ((List.replicate Q 0).map dg), TU32)] (some ⟨bo, 0, none⟩) Q Q (List.replicate Q 0) := by
    have := Own.row (b := bo) (n := Q) (c := Q) (r := List.replicate Q 0) (Nat.le_refl Q) (by simp) (by omega) (bd_rep _)
    rwa [take_all (by simp)] at this
  refine st_loop (fun m E U' M' => ∃ (i la : Nat) (r : List Nat) (q : Option Addr) (cc : Nat) (D X : MH), i ≤ n ∧ la < w ∧ Own D q (Q + i) cc r ∧ val r + 4294967296 ^ Q * 4294967296 ^ i * la = 4294967296 ^ Q * val (a.take i) * w ∧
      E = [(7, .int .i64 (i : Int)), (5, .slice q ((Q + i : Nat)) cc), (6, .int .u64 (la : Int)), (0, .slice p n c), (1, .int .i64 (s : Int))] ∧ U = U' ∧ M' = D ++ X ∧ M.Sublist X ∧ m = n - i) (n0 := n)
    (E0 := [(7, .int .i64 ((0 : Nat) : Int)), (5, .slice (some ⟨bo, 0, none⟩) Q Q), (6, .int .u64 ((0 : Nat) : Int)), (0, .slice p n c), (1, .int .i64 (s : Int))]) ⟨rfl, rfl, rfl, rfl, rfl, trivial⟩
    ⟨0, 0, _, _, _, _, M, by omega, hw0, hrow, by rw [val_replicate]; simp [val], rfl, rfl, rfl, List.Sublist.refl _, rfl⟩ ?_
  rintro m E U' M' ⟨i, la, r, q, cc, D, X, hi, hla', ho, hv, rfl, rfl, rfl, hX, rfl⟩
  try refine run_s ?_
  refine st_dec rfl (fun h0 => ?_) (fun h0 => ?_)
  · obtain ⟨x, hx, hbx, hpx, hcx⟩ := (ha.up (U' := U) (M' := D ++ X) (ULe.refl _) (hX.trans (List.sublist_append_right ..))).get (k := i) (by omega)
    obtain ⟨Y, hY⟩ : ∃ Y, x * 2 ^ e = Y := ⟨_, rfl⟩
    have hYb : Y ≤ 4294967295 * 2147483648 := by
      rw [← hY, ← hw]; exact Nat.mul_le_mul (by omega) hw31
    try refine run_s ?_
    refine sl_y (yl_index1 sym rfl rfl rfl rfl rfl rfl (by omega) hpx) rfl rfl rfl rfl ?_; refine sl_y (yl_loadD sym rfl rfl rfl rfl hcx) rfl rfl rfl rfl ?_
    try refine run_s ?_
    rw [e2]
    refine sl_y (yl_shlN rfl rfl rfl rfl rfl (by omega) hY (by omega)) rfl rfl rfl rfl ?_
    try refine run_s ?_
    have e3 : ((Y : Int) + (la : Int)) % 4294967296 = (((Y + la) % 4294967296 : Nat) : Int) := by omega
    rw [e3]
    have hd32 : (Y + la) % 4294967296 < 4294967296 := Nat.mod_lt _ (by decide)
    have hde := Nat.mod_add_div (Y + la) 4294967296
    have hlw : (Y + la) / 4294967296 < w := by
      refine Nat.div_lt_of_lt_mul ?_
      have h1 : (x + 1) * w ≤ 4294967296 * w := Nat.mul_le_mul_right _ hbx
      rw [Nat.add_mul, Nat.one_mul] at h1
      rw [hw] at h1 hla' ⊢
      omega
    generalize (Y + la) % 4294967296 = d at *
    refine sl_bslice (vs := [dg d]) sym rfl rfl rfl rfl rfl rfl (dg_size [d]) rfl rfl rfl rfl rfl rfl (fun b2 => ?_)
    refine sl_perm ?_ (perm1 (D := D)).symm
    have hq2 : Dig U (D ++ (b2, .arr [dg d], TU32) :: X) (some ⟨b2, 0, none⟩) 1 1 [d] :=
      ((Own.row (b := b2) (r := [d]) (Nat.le_refl 1) rfl (by omega) (by intro y hy; simp at hy; omega)).dig (M := X)).app D
    refine sl_appendD (D := D) (X := (b2, .arr [dg d], TU32) :: X) (m := 1) sym rfl rfl rfl rfl rfl ho rfl hq2 (by omega) rfl rfl rfl rfl (fun q2 cc2 D2 ho2 => ?_)
    try refine run_s ?_
    have e4 : ((Y : Int) + (la : Int)) / 2 ^ 32 = (((Y + la) / 4294967296 : Nat) : Int) := by omega
    rw [e4]
    refine sk_again (E' := [(7, .int .i64 ((i : Int) + 1)), (5, .slice q2 (Q + i + 1) cc2), (6, .int .u64 (((Y + la) / 4294967296 : Nat) : Int)), (0, .slice p n c), (1, .int .i64 (s : Int))]) (m := n - (i + 1)) ⟨rfl, rfl, rfl, rfl, rfl, trivial⟩ (by omega)
      ⟨i + 1, (Y + la) / 4294967296, r ++ [d], q2, cc2, D2, (b2, .arr [dg d], TU32) :: X, by omega, hlw, ho2, ?_, rfl, rfl, rfl, hX.cons _, rfl⟩
    rw [val_snoc, ho.len.1, val_take_succ hx, Nat.pow_add, Nat.pow_succ]
    rw [← hY, ← hw] at hde
    rw [← hY, ← hw]
    exact shr_arith _ _ _ _ _ _ _ _ _ hv hde
  · have hi' : i = n := by omega
    subst hi'
    repeat (first | refine run_S ?_ | refine w_box (fun _ => ?_) | refine w_al (fun _ => ?_))
    have e3 : (la : Int) % 4294967296 = (la : Int) := by omega
    try rw [e3]
    refine sl_bslice (vs := [dg la]) sym rfl rfl rfl rfl rfl rfl (dg_size [la]) rfl rfl rfl rfl rfl rfl (fun b2 => ?_)
    refine sl_perm ?_ (perm1 (D := D)).symm
    have hq2 : Dig U (D ++ (b2, .arr [dg la], TU32) :: X) (some ⟨b2, 0, none⟩) 1 1 [la] :=
      ((Own.row (b := b2) (r := [la]) (Nat.le_refl 1) rfl (by omega) (by intro y hy; simp at hy; omega)).dig (M := X)).app D
    refine sl_appendD (D := D) (X := (b2, .arr [dg la], TU32) :: X) (m := 1) sym rfl rfl rfl rfl rfl ho rfl hq2 (by omega) rfl rfl rfl rfl (fun q2 cc2 D2 ho2 => ?_)
    repeat (first | refine run_S ?_ | refine w_box (fun _ => ?_) | refine w_al (fun _ => ?_))
    refine sl_call rfl rfl rfl rfl rfl rfl (fun _ => trim_ct ((ho2.dig (M := (b2, .arr [dg la], TU32) :: X)).app _) (by omega)) ?_
    rintro v U' D3 hU ⟨q3, k3, cc3, rfl, o3, hk3, rfl⟩
    repeat (first | refine run_S ?_ | refine w_box (fun _ => ?_) | refine w_al (fun _ => ?_))
    have hb2 := (ho2.dig (U := U) (M := [])).bd
    refine sk_ret D3 sym rfl (.cons (.tmp rfl) .nil) (ULe.refl _) (List.Sublist.append (List.Sublist.refl D3) (sub_r (.cons _ hX))) (.inl rfl) ⟨q3, k3, cc3, _, rfl, o3, cn_tl hb2, ?_, rfl⟩
    rw [val_tl, val_snoc, ho.len.1, Nat.pow_add, hv, take_all (by omega), hse, Nat.pow_add, Nat.pow_mul, ← hw]
    show 4294967296 ^ Q * val a * w = val a * (4294967296 ^ Q * w)
    rw [Nat.mul_comm (4294967296 ^ Q) (val a), Nat.mul_assoc]

end Go.Proofs.Ytlnmhjkagnfnaaa

/- Walks of the reference of layer 1: division of digits, binary digit by binary digit. -/
namespace Go.Proofs.Ytlnmhjkagnfnaaa
open Go.Hp
variable {G : World} {U : UH} {M : MH}

theorem val_set {l : List Nat} {i d x : Nat} (h : l[i]? = some d) : val (l.set i (d + x)) = val l + 4294967296 ^ i * x := by
  obtain ⟨hl, he⟩ := List.getElem?_eq_some_iff.1 h
  have h1 := val_split l i (by omega)
  rw [List.drop_eq_getElem_cons hl, he] at h1
  rw [List.set_eq_take_append_cons_drop, if_pos hl, val_append, List.length_take, Nat.min_eq_left (by omega), h1]
  simp only [val]
  grind

/-- A digit below which all are 0. -/
theorem digit_free {l : List Nat} {i d e : Nat} (hb : Bd l) (h : l[i]? = some d) (he : e < 32) (hd : 2 ^ (32 * i + e + 1) ∣ val l) : d + 2 ^ e < 4294967296 := by
  obtain ⟨hl, hx⟩ := List.getElem?_eq_some_iff.1 h
  have h1 := val_split l i (by omega)
  rw [List.drop_eq_getElem_cons hl, hx] at h1
  simp only [val] at h1
  have h2 := val_lt (bd_take hb i)
  rw [List.length_take, Nat.min_eq_left (by omega)] at h2
  have hdb := hb d (List.mem_of_getElem? h)
  have ep : 2 ^ (32 * i + e + 1) = 4294967296 ^ i * 2 ^ (e + 1) := by
    rw [Nat.add_assoc, Nat.pow_add, Nat.pow_mul]
  obtain ⟨q, hq⟩ := hd
  rw [ep] at hq
  have hB : 0 < 4294967296 ^ i := Nat.pow_pos (by decide)
  have h3 : val (l.take i) = 0 := by
    have h4 : 4294967296 ^ i ∣ val (l.take i) := by
      have h5 : 4294967296 ^ i ∣ val (l.take i) + 4294967296 ^ i * (d + 4294967296 * val (l.drop (i + 1))) := by
        rw [← h1, hq, Nat.mul_assoc]; exact Nat.dvd_mul_right ..
      exact (Nat.dvd_add_left (Nat.dvd_mul_right ..)).1 h5
    exact Nat.eq_zero_of_dvd_of_lt h4 h2
  rw [h3, Nat.zero_add, hq, Nat.mul_assoc] at h1
  have h6 := Nat.eq_of_mul_eq_mul_left hB h1
  have h7 : 2 ^ (e + 1) ∣ d := by
    have h8 : (4294967296 : Nat) = 2 ^ (e + 1) * 2 ^ (31 - e) := by
      rw [← Nat.pow_add, show e + 1 + (31 - e) = 32 by omega]
    have h9 : 2 ^ (e + 1) ∣ 4294967296 * val (l.drop (i + 1)) := by
      rw [h8, Nat.mul_assoc]; exact Nat.dvd_mul_right ..
    have h10 : 2 ^ (e + 1) ∣ d + 4294967296 * val (l.drop (i + 1)) := ⟨q, h6.symm⟩
    exact (Nat.dvd_add_left h9).1 h10
  obtain ⟨t, ht⟩ := h7
  have h8 : (4294967296 : Nat) = 2 ^ (e + 1) * 2 ^ (31 - e) := by
    rw [← Nat.pow_add, show e + 1 + (31 - e) = 32 by omega]
  have hP : 0 < 2 ^ (e + 1) := Nat.pow_pos (by decide)
  have h9 : t < 2 ^ (31 - e) := by
    rw [ht, h8] at hdb
    exact Nat.lt_of_mul_lt_mul_left hdb
  have h10 : 2 ^ (e + 1) * (t + 1) ≤ 2 ^ (e + 1) * 2 ^ (31 - e) := Nat.mul_le_mul_left _ h9
  rw [← h8, Nat.mul_add, ← ht, Nat.pow_succ] at h10
  have : 0 < 2 ^ e := Nat.pow_pos (by decide)
  omega

theorem bd_set {l : List Nat} {i d : Nat} (h : Bd l) (hd : d < 4294967296) : Bd (l.set i d) := fun y hy => by
  rcases List.mem_or_eq_of_mem_set hy with h1 | h1
  · exact h y h1
  · rw [h1]; exact hd

theorem bits_less {x y : Nat} (h : blen x < blen y) : x < y := by
  have h1 := blen_lt x
  have h2 := blen_le (n := y) (fun e => by subst e; rw [blen_zero] at h; omega)
  have h3 : 2 ^ blen x ≤ 2 ^ (blen y - 1) := Nat.pow_le_pow_right (by decide) (by omega)
  omega
theorem bits_diff {x y s : Nat} (hy : y ≠ 0) (h : blen x = blen y + s) : x < y * 2 ^ (s + 1) := by
  have h1 := blen_lt x
  have h2 := blen_le hy
  have h3 := blen_pos hy
  rw [h, show blen y + s = (blen y - 1) + (s + 1) by omega, Nat.pow_add] at h1
  exact Nat.lt_of_lt_of_le h1 (Nat.mul_le_mul_right _ h2)

theorem blen_val_le {l : List Nat} (hb : Bd l) : blen (val l) ≤ 32 * l.length := by
  refine blen_le_of ?_
  have := val_lt hb
  rw [Nat.pow_mul]
  exact this

/-- A list of digits: the call's own, or an argument as it came. -/
def OwnOr (D : MH) (q : Option Addr) (k cc : Nat) (lr : List Nat) (p : Option Addr) (n c : Nat) (a : List Nat) : Prop :=
  Own D q k cc lr ∨ (D = [] ∧ q = p ∧ k = n ∧ cc = c ∧ lr = a)
theorem OwnOr.dig {D X : MH} {q p : Option Addr} {k cc n c : Nat} {lr a : List Nat} (h : OwnOr D q k cc lr p n c a) (ha : Dig U M p n c a) (hX : M.Sublist X) : Dig U (D ++ X) q k cc lr := by
  rcases h with h | ⟨rfl, rfl, rfl, rfl, rfl⟩
  · exact h.dig
  · exact ha.up (ULe.refl _) hX

theorem divided_ct {p p' : Option Addr} {n c n' c' : Nat} {a b : List Nat} (ha : Dig U M p n c a) (hb : Dig U M p' n' c' b) (ca : Cn a) (cb : Cn b) (hb0 : 0 < n') (hn : n ≤ 274877906944) (hn' : n' ≤ 274877906944) :
    Ct Try.prog 55 [.slice p n c, .slice p' n' c'] G U M fun v U' D => ∃ q k cc lq q2 k2 cc2 lr Dq Dr, v = .tuple #[.slice q k cc, .slice q2 k2 cc2] ∧ D = Dr ++ Dq ∧ Own Dq q k cc lq ∧ OwnOr Dr q2 k2 cc2 lr p n c a ∧
      val lq = val a / val b ∧ val lr = val a % val b ∧ k ≤ n + 2 ∧ k2 ≤ n + 2 ∧ U = U' := by
  have hla := ha.len; have hlb := hb.len
  have hvb : val b ≠ 0 := fun h => by have := cb.zero.1 h; subst this; simp at hlb; omega
  refine ct_of_st Try.func55 rfl rfl rfl rfl ?_
  refine st_seq ?_
  try refine run_o ?_
  refine st_seq_cut (fun E U' M' => E = [(0, .slice p n c), (1, .slice p' n' c')] ∧ U = U' ∧ M = M') ?_ ?_
  · try refine run_s ?_
    refine sl_gdec rfl rfl (fun h0 => ?_) (fun h0 => ?_)
    · try refine run_s ?_
      refine st_dec rfl (fun h1 => ?_) (fun h1 => ?_)
      · have hA : val a < 18446744073709551616 := by
          have h1 := val_lt ca.bd
          have h2 : 4294967296 ^ a.length ≤ 4294967296 ^ 2 := Nat.pow_le_pow_right (by decide) (by omega)
          omega
        repeat (first | refine run_S ?_ | refine w_box (fun _ => ?_) | refine w_al (fun _ => ?_))
        refine sl_call rfl rfl rfl rfl rfl rfl (fun _ => rword_ct (ha.app _) (by omega)) ?_
        rintro v U' D hU ⟨rfl, rfl, rfl⟩
        repeat (first | refine run_S ?_ | refine w_box (fun _ => ?_) | refine w_al (fun _ => ?_))
        refine sl_call rfl rfl rfl rfl rfl rfl (fun _ => rword_ct (hb.app _) (by omega)) ?_
        rintro v U' D hU ⟨rfl, rfl, rfl⟩
        repeat (first | refine run_S ?_ | refine w_box (fun _ => ?_) | refine w_al (fun _ => ?_))
        refine sl_y (yl_quoN (k := .u64) (m := val a) (n := val b) rfl rfl rfl rfl rfl (by simp only [kmax]; omega) (by omega) rfl) rfl rfl rfl rfl ?_
        repeat (first | refine run_S ?_ | refine w_box (fun _ => ?_) | refine w_al (fun _ => ?_))
        have hq : val a / val b < 18446744073709551616 := Nat.lt_of_le_of_lt (Nat.div_le_self ..) hA
        have hr : val a % val b < 18446744073709551616 := Nat.lt_of_le_of_lt (Nat.mod_le ..) hA
        refine sl_call rfl rfl rfl rfl rfl rfl (fun _ => rsplit_ct hq) ?_
        rintro v U' D1 hU ⟨q1, k1, cc1, l1, rfl, o1, c1, hv1, rfl⟩
        repeat (first | refine run_S ?_ | refine w_box (fun _ => ?_) | refine w_al (fun _ => ?_))
        refine sl_call rfl rfl rfl rfl rfl rfl (fun _ => rword_ct (ha.up (ULe.refl _) sb) (by omega)) ?_
        rintro v U' D hU ⟨rfl, rfl, rfl⟩
        repeat (first | refine run_S ?_ | refine w_box (fun _ => ?_) | refine w_al (fun _ => ?_))
        refine sl_call rfl rfl rfl rfl rfl rfl (fun _ => rword_ct (hb.up (ULe.refl _) sb) (by omega)) ?_
        rintro v U' D hU ⟨rfl, rfl, rfl⟩
        repeat (first | refine run_S ?_ | refine w_box (fun _ => ?_) | refine w_al (fun _ => ?_))
        refine sl_y (yl_remN (k := .u64) (m := val a) (n := val b) rfl rfl rfl rfl rfl (by simp only [kmax]; omega) (by omega) rfl) rfl rfl rfl rfl ?_
        repeat (first | refine run_S ?_ | refine w_box (fun _ => ?_) | refine w_al (fun _ => ?_))
        refine sl_call rfl rfl rfl rfl rfl rfl (fun _ => rsplit_ct hr) ?_
        rintro v U' D2 hU ⟨q2, k2, cc2, l2, rfl, o2, c2, hv2, rfl⟩
        repeat (first | refine run_S ?_ | refine w_box (fun _ => ?_) | refine w_al (fun _ => ?_))
        refine sk_ret (D2 ++ D1) sym rfl (.cons (.tmp rfl) (.cons (.tmp rfl) .nil)) (ULe.refl _) (by rw [List.append_assoc]; exact List.Sublist.refl _) (.inl rfl) ⟨q1, k1, cc1, l1, q2, k2, cc2, l2, D1, D2, rfl, rfl, o1, .inl o2, hv1, hv2, ?_, ?_, rfl⟩
        · have := c1.len_le ca.bd (by rw [hv1]; exact Nat.div_le_self ..)
          have := o1.len; omega
        · have := c2.len_le ca.bd (by rw [hv2]; exact Nat.mod_le ..)
          have := o2.len; omega
      · repeat (first | refine run_S ?_ | refine w_box (fun _ => ?_) | refine w_al (fun _ => ?_))
        exact sk_cut (E' := [(0, .slice p n c), (1, .slice p' n' c')]) ⟨rfl, rfl, trivial⟩ ⟨rfl, rfl, rfl⟩
    · repeat (first | refine run_S ?_ | refine w_box (fun _ => ?_) | refine w_al (fun _ => ?_))
      exact sk_cut (E' := [(0, .slice p n c), (1, .slice p' n' c')]) ⟨rfl, rfl, trivial⟩ ⟨rfl, rfl, rfl⟩
  rintro E U' M' ⟨rfl, rfl, rfl⟩
  have hBa : blen ((val a : Int)).natAbs ≤ 32 * n := by rw [Int.natAbs_natCast, ← hla]; exact blen_val_le ca.bd
  have hBb : blen ((val b : Int)).natAbs ≤ 32 * n' := by rw [Int.natAbs_natCast, ← hlb]; exact blen_val_le cb.bd
  repeat (first | refine run_S ?_ | refine w_box (fun _ => ?_) | refine w_al (fun _ => ?_))
  refine sl_call rfl rfl rfl rfl rfl rfl (fun _ => rBits_ct (x := ⟨false, p, n, c⟩) (z := (val a : Int)) ⟨a, ha.app _, rfl⟩ (Nat.le_trans hn (by decide))) ?_
  rintro v U' D hU ⟨rfl, rfl, rfl⟩
  repeat (first | refine run_S ?_ | refine w_box (fun _ => ?_) | refine w_al (fun _ => ?_))
  refine sl_call rfl rfl rfl rfl rfl rfl (fun _ => rBits_ct (x := ⟨false, p', n', c'⟩) (z := (val b : Int)) ⟨b, hb.app _, rfl⟩ (Nat.le_trans hn' (by decide))) ?_
  rintro v U' D hU ⟨rfl, rfl, rfl⟩
  repeat (first | refine run_S ?_ | refine w_box (fun _ => ?_) | refine w_al (fun _ => ?_))
  refine st_dec rfl (fun h0 => ?_) (fun h0 => ?_)
  · have hlt : val a < val b := bits_less (by rw [Int.natAbs_natCast, Int.natAbs_natCast] at h0; omega)
    repeat (first | refine run_S ?_ | refine w_box (fun _ => ?_) | refine w_al (fun _ => ?_))
    exact sk_ret [] sym rfl (.cons (.tmp rfl) (.cons (.tmp rfl) .nil)) (ULe.refl _) sb (.inl rfl)
      ⟨none, 0, 0, [], p, n, c, a, [], [], rfl, rfl, Own.nil, .inr ⟨rfl, rfl, rfl, rfl, rfl⟩, (Nat.div_eq_of_lt hlt).symm, (Nat.mod_eq_of_lt hlt).symm, by omega, by omega, rfl⟩
  obtain ⟨S, hS⟩ : ∃ S : Nat, (blen ((val a : Int)).natAbs : Int) - (blen ((val b : Int)).natAbs : Int) = (S : Int) := ⟨blen ((val a : Int)).natAbs - blen ((val b : Int)).natAbs, by omega⟩
  have hS32 : S ≤ 32 * n := by omega
  have hSb : blen (val a) = blen (val b) + S := by rw [Int.natAbs_natCast, Int.natAbs_natCast] at hS; omega
  rw [hS]
  have e1 : IntKind.i64.wrap (IntKind.i64.wrap ((S : Int).tdiv 32) + 1) = ((S / 32 + 1 : Nat) : Int) := by
    rw [Int.tdiv_eq_ediv_of_nonneg (by omega), wrap_in (k := .i64) (n := (S : Int) / 32) (by omega) (by simp only [kmax]; omega), wrap_in (by omega) (by simp only [kmax]; omega)]; omega
  repeat (first | refine run_S ?_ | refine w_box (fun _ => ?_) | refine w_al (fun _ => ?_))
  refine sl_make (m := S / 32 + 1) (n := S / 32 + 1) sym rfl rfl rfl rfl rfl e1 e1 rfl rfl (Nat.le_refl _) (by omega) (by omega) rfl rfl rfl rfl (fun bo => ?_)
  rw [dg_rep]
  repeat (first | refine run_S ?_ | refine w_box (fun _ => ?_) | refine w_al (fun _ => ?_))
  refine st_loop (fun m E U' M' => ∃ (j : Nat) (lq : List Nat) (pr : Option Addr) (nr cr : Nat) (lr : List Nat) (Dr X : MH), j ≤ S + 1 ∧ lq.length = S / 32 + 1 ∧ Bd lq ∧ Cn lr ∧ OwnOr Dr pr nr cr lr p n c a ∧ nr ≤ n ∧ val b * val lq + val lr = val a ∧ val lr < val b * 2 ^ j ∧ 2 ^ j ∣ val lq ∧
      E = [(9, .int .i64 ((j : Int) - 1)), (6, .slice pr nr cr), (8, .slice (some ⟨bo, 0, none⟩) (S / 32 + 1) (S / 32 + 1)), (0, .slice p n c), (1, .slice p' n' c')] ∧ U = U' ∧ M' = (bo, .arr (lq.map dg), TU32) :: (Dr ++ X) ∧ M.Sublist X ∧ j = m) (n0 := S + 1)
    (E0 := [(9, .int .i64 (((S + 1 : Nat) : Int) - 1)), (6, .slice p n c), (8, .slice (some ⟨bo, 0, none⟩) (S / 32 + 1) (S / 32 + 1)), (0, .slice p n c), (1, .slice p' n' c')])
    ⟨by rw [show ((S + 1 : Nat) : Int) - 1 = (S : Int) by omega]; rfl, rfl, rfl, rfl, rfl, trivial⟩
    ⟨S + 1, List.replicate (S / 32 + 1) 0, p, n, c, a, [], M, Nat.le_refl _, by simp, bd_rep _, ca, .inr ⟨rfl, rfl, rfl, rfl, rfl⟩, Nat.le_refl _, by rw [val_replicate]; omega, bits_diff hvb hSb, by rw [val_replicate]; exact Nat.dvd_zero _, rfl, rfl, rfl, List.Sublist.refl _, rfl⟩ ?_
  rintro m E U' M' ⟨j, lq, pr, nr, cr, lr, Dr, X, hj, hlq, hbq, clr, hor, hnr, hv, hlt, hdv, rfl, rfl, rfl, hX, rfl⟩
  try refine run_s ?_
  refine st_dec rfl (fun h1 => ?_) (fun h1 => ?_)
  · obtain ⟨k, rfl⟩ : ∃ k, j = k + 1 := ⟨j - 1, by omega⟩
    rw [show ((k + 1 : Nat) : Int) - 1 = (k : Int) by omega]
    repeat (first | refine run_S ?_ | refine w_box (fun _ => ?_) | refine w_al (fun _ => ?_))
    refine sl_call rfl rfl rfl rfl rfl rfl (fun _ => rshifted_ct (hb.up (ULe.refl _) (sub_r (.cons _ (sub_r hX)))) hn' (by omega)) ?_
    rintro v U' D1 hU ⟨qt, kt, ct, lt, rfl, ot, clt, hvt, rfl⟩
    refine sl_perm ?_ (perm1 (D := D1))
    have hdr : Dig U ((bo, .arr (lq.map dg), TU32) :: (D1 ++ (Dr ++ X))) pr nr cr lr := (hor.dig ha hX).up (ULe.refl _) (.cons _ (sub_r (List.Sublist.refl _)))
    have hdt : Dig U ((bo, .arr (lq.map dg), TU32) :: (D1 ++ (Dr ++ X))) qt kt ct lt := (ot.dig (M := Dr ++ X)).up (ULe.refl _) (.cons _ (List.Sublist.refl _))
    repeat (first | refine run_S ?_ | refine w_box (fun _ => ?_) | refine w_al (fun _ => ?_))
    refine sl_call rfl rfl rfl rfl rfl rfl (fun _ => below_ct (hdr.app _) (hdt.app _) clr clt) ?_
    rintro v U' D hU ⟨rfl, rfl, rfl⟩
    rw [Nat.pow_succ] at hlt hdv
    by_cases hb1 : val lr < val lt
    · rw [dec_true hb1]
      repeat (first | refine run_S ?_ | refine w_box (fun _ => ?_) | refine w_al (fun _ => ?_))
      refine sk_perm (M' := (bo, .arr (lq.map dg), TU32) :: (Dr ++ (D1 ++ X))) (List.Perm.cons _ (List.perm_append_comm_assoc ..)) ?_
      exact sk_again (E' := [(9, .int .i64 ((k : Int) - 1)), (6, .slice pr nr cr), (8, .slice (some ⟨bo, 0, none⟩) (S / 32 + 1) (S / 32 + 1)), (0, .slice p n c), (1, .slice p' n' c')]) (m := k) ⟨rfl, rfl, rfl, rfl, rfl, trivial⟩ (by omega)
        ⟨k, lq, pr, nr, cr, lr, Dr, D1 ++ X, by omega, hlq, hbq, clr, hor, hnr, hv, by rw [hvt] at hb1; exact hb1, Nat.dvd_trans (Nat.dvd_mul_right ..) hdv, rfl, rfl, rfl, sub_r hX, rfl⟩
    · rw [dec_false hb1]
      have hkl := clt.len_le clr.bd (by omega)
      have hl1 := ot.len; have hl2 := hdr.len
      repeat (first | refine run_S ?_ | refine w_box (fun _ => ?_) | refine w_al (fun _ => ?_))
      refine sl_call rfl rfl rfl rfl rfl rfl (fun _ => rminus_ct (hdr.app _) (hdt.app _) (by omega) (by omega) (by omega)) ?_
      rintro v U' D2 hU ⟨q2, k2, cc2, l2, rfl, o2, hv2, hk2, rfl⟩
      refine sl_perm ?_ (perm1 (D := D2))
      repeat (first | refine run_S ?_ | refine w_box (fun _ => ?_) | refine w_al (fun _ => ?_))
      refine sl_call rfl rfl rfl rfl rfl rfl (fun _ => trim_ct ((o2.dig (M := D1 ++ (Dr ++ X))).up (ULe.refl _) (sub_r (.cons _ (List.Sublist.refl _)))) (by omega)) ?_
      rintro v U' D3 hU ⟨q3, k3, cc3, rfl, o3, hk3, rfl⟩
      refine sl_perm ?_ (perm1 (D := D3))
      have hb2 := (o2.dig (U := U) (M := [])).bd
      have hl3 := tl_length_le l2
      have hl4 := o2.len
      have hK : k / 32 < lq.length := by omega
      have hg : lq[k / 32]? = some (lq[k / 32]) := List.getElem?_eq_getElem hK
      have hfree := digit_free (e := k % 32) hbq hg (by omega) (by rw [show 32 * (k / 32) + k % 32 + 1 = k + 1 by omega, Nat.pow_succ]; exact hdv)
      have hdb := hbq _ (List.mem_of_getElem? hg)
      generalize lq[k / 32] = d at *
      have i1 : IntKind.i64.wrap ((k : Int).tdiv 32) = ((k / 32 : Nat) : Int) := by
        rw [Int.tdiv_eq_ediv_of_nonneg (by omega), wrap_in (by omega) (by simp only [kmax]; omega)]; omega
      have i2 : IntKind.u64.wrap ((k : Int).tmod 32) = ((k % 32 : Nat) : Int) := by
        rw [Int.tmod_eq_emod_of_nonneg (by omega), wrap_in (by omega) (by simp only [kmax]; omega)]; omega
      repeat (first | refine run_S ?_ | refine w_box (fun _ => ?_) | refine w_al (fun _ => ?_))
      refine sl_y (yl_indexM (j := k / 32) sym rfl rfl rfl rfl rfl i1 (by omega)) rfl rfl rfl rfl ?_
      refine sl_y (yl_loadMD 0 sym rfl rfl rfl rfl rfl (j := k / 32) (by omega) hg) rfl rfl rfl rfl ?_
      repeat (first | refine run_S ?_ | refine w_box (fun _ => ?_) | refine w_al (fun _ => ?_))
      refine sl_y (yl_shl (n := k % 32) rfl rfl rfl i2 (by simp only [IntKind.bits]; omega)) rfl rfl rfl rfl ?_
      repeat (first | refine run_S ?_ | refine w_box (fun _ => ?_) | refine w_al (fun _ => ?_))
      refine sl_y (yl_indexM (j := k / 32) sym rfl rfl rfl rfl rfl i1 (by omega)) rfl rfl rfl rfl ?_
      have i3 : IntKind.u32.wrap ((d : Int) + IntKind.u32.wrap (1 * 2 ^ (k % 32))) = ((d + 2 ^ (k % 32) : Nat) : Int) := by
        obtain ⟨W, hW⟩ : ∃ W, 2 ^ (k % 32) = W := ⟨_, rfl⟩
        have h5 : (1 : Int) * 2 ^ (k % 32) = (W : Int) := by rw [← hW]; simp
        rw [hW] at hfree
        rw [h5, hW]
        rw [wrap_in (k := .u32) (n := (W : Int)) (by omega) (by simp only [kmax]; omega), wrap_in (by omega) (by simp only [kmax]; omega)]
        omega
      refine sl_storeD 0 sym rfl rfl rfl (v := d + 2 ^ (k % 32)) i3 rfl rfl rfl (j := k / 32) (by omega) hK rfl rfl rfl ?_
      repeat (first | refine run_S ?_ | refine w_box (fun _ => ?_) | refine w_al (fun _ => ?_))
      have hpw : 4294967296 ^ (k / 32) * 2 ^ (k % 32) = 2 ^ k := by
        have : (4294967296 : Nat) = 2 ^ 32 := by decide
        rw [this, ← Nat.pow_mul, ← Nat.pow_add]; congr 1; omega
      have hvs : val (lq.set (k / 32) (d + 2 ^ (k % 32))) = val lq + 2 ^ k := by rw [val_set hg, hpw]
      refine sk_perm (M' := (bo, .arr ((lq.set (k / 32) (d + 2 ^ (k % 32))).map dg), TU32) :: (D3 ++ (D2 ++ (D1 ++ (Dr ++ X))))) (List.Perm.refl _) ?_
      refine sk_again (E' := [(9, .int .i64 ((k : Int) - 1)), (6, .slice q3 k3 cc3), (8, .slice (some ⟨bo, 0, none⟩) (S / 32 + 1) (S / 32 + 1)), (0, .slice p n c), (1, .slice p' n' c')]) (m := k) ⟨rfl, rfl, rfl, rfl, rfl, trivial⟩ (by omega)
        ⟨k, lq.set (k / 32) (d + 2 ^ (k % 32)), q3, k3, cc3, tl l2, D3, D2 ++ (D1 ++ (Dr ++ X)), by omega, by rw [List.length_set]; exact hlq, bd_set hbq hfree, cn_tl hb2, .inl o3, by omega, ?_, ?_, ?_, rfl, rfl, rfl, sub_r (sub_r (sub_r hX)), rfl⟩
      · have hd1 : val b * (val lq + 2 ^ k) = val b * val lq + val lt := by rw [Nat.mul_add, hvt]
        rw [val_tl, hv2, hvs, hd1]
        generalize val b * val lq = Z at *
        omega
      · have hd2 : val b * (2 ^ k * 2) = val lt * 2 := by rw [hvt, Nat.mul_assoc]
        rw [val_tl, hv2, ← hvt]
        omega
      · rw [hvs]; exact Nat.dvd_add (Nat.dvd_trans (Nat.dvd_mul_right ..) hdv) (Nat.dvd_refl _)
  · have hj0 : j = 0 := by omega
    subst hj0
    rw [Nat.pow_zero, Nat.mul_one] at hlt
    obtain ⟨g1, g2⟩ := div_of (U := val a) (V := val b) (g := val lq) (R := val lr) (by rw [Nat.mul_comm]; exact hv) hlt
    repeat (first | refine run_S ?_ | refine w_box (fun _ => ?_) | refine w_al (fun _ => ?_))
    have ho := Own.row (b := bo) (n := S / 32 + 1) (c := S / 32 + 1) (r := lq) (Nat.le_refl _) hlq (by omega) hbq
    rw [take_all (by omega)] at ho
    refine sk_perm (M' := Dr ++ (bo, .arr (lq.map dg), TU32) :: X) (perm1 (D := Dr)).symm ?_
    exact sk_ret (Dr ++ [(bo, .arr (lq.map dg), TU32)]) sym rfl (.cons (.tmp rfl) (.cons (.tmp rfl) .nil)) (ULe.refl _) (by rw [List.append_assoc]; exact List.Sublist.append (List.Sublist.refl Dr) (List.Sublist.cons_cons _ hX)) (.inl rfl)
      ⟨_, _, _, lq, pr, nr, cr, lr, [_], Dr, rfl, rfl, ho, hor, g1.symm, g2.symm, by omega, by omega, rfl⟩

end Go.Proofs.Ytlnmhjkagnfnaaa

/- Walks of the reference of layer 1: Euclid's division of integers. -/
namespace Go.Proofs.Ytlnmhjkagnfnaaa
open Go.Hp
variable {G : World} {U : UH} {M : MH}

theorem IV.own.form {x : IV} {D : MH} {z : Int} (h : x.own D z) : ∃ l, Own D x.p x.n x.c l ∧ Cn l ∧ val l = z.natAbs ∧ z = sg x.neg (val l) := by
  obtain ⟨l, o, c, v, s⟩ := h
  refine ⟨l, o, c, v, ?_⟩
  rw [v, s]; unfold sg; by_cases h : z < 0 <;> simp [h] <;> omega

theorem rEuclid_ct {x y : IV} {z u : Int} (hx : x.rep U M z) (hn : x.n ≤ 274877906944) (hy : y.rep U M u) (hn' : y.n ≤ 274877906944) (hu : u ≠ 0) :
    Ct Try.prog 27 [x.v, y.v] G U M fun v U' D => ∃ (q r : IV) (Dq Dr : MH), v = .tuple #[q.v, r.v] ∧ D = Dr ++ Dq ∧ q.own Dq (z / u) ∧ r.own Dr (z % u) ∧ U = U' := by
  have hUc := ULe.refl U
  have sz := hx.sz (Nat.le_refl _)
  have su := hy.sz (Nat.le_refl _)
  refine ct_of_st Try.func27 rfl rfl rfl rfl ?_
  repeat (first | refine run_S ?_ | refine w_box (fun _ => ?_) | refine w_al (fun _ => ?_))
  rename_i b2 b3 b4 b5
  refine st_draw [0, 2, 1, 3, 4, 5, 6, 7] sym (by kernel_rfl) ?_
  repeat (first | refine run_S ?_ | refine w_box (fun _ => ?_) | refine w_al (fun _ => ?_))
  refine sl_call rfl rfl rfl rfl rfl rfl (fun _ => Norm_ct (hx.up hUc sb) (Nat.le_trans hn (by decide))) ?_
  rintro v U' D1 hU ⟨x1, rfl, h1, rfl⟩
  refine sl_perm ?_ (perm4 (D := D1))
  repeat (first | refine run_S ?_ | refine w_box (fun _ => ?_) | refine w_al (fun _ => ?_))
  refine sl_call rfl rfl rfl rfl rfl rfl (fun _ => Norm_ct (hy.up hUc sb) (Nat.le_trans hn' (by decide))) ?_
  rintro v U' D2 hU ⟨x2, rfl, h2, rfl⟩
  refine sl_perm ?_ (perm4 (D := D2))
  repeat (first | refine run_S ?_ | refine w_box (fun _ => ?_) | refine w_al (fun _ => ?_))
  rename_i b6 b7
  have hn1 := h1.le sz hn
  have hn2 := h2.le su hn'
  obtain ⟨l1, o1, c1, v1, s1⟩ := h1.form
  obtain ⟨l2, o2, c2, v2, s2⟩ := h2.form
  have hp2 : 0 < x2.n := by
    have := h2.len0
    omega
  have d1 : Dig U (D1 ++ M) x1.p x1.n x1.c l1 := o1.dig
  refine sl_call rfl rfl rfl rfl rfl rfl (fun _ => divided_ct (d1.up hUc sb) ((o2.dig (M := [])).up hUc (by rw [List.append_nil]; exact sb)) c1 c2 hp2 hn1 hn2) ?_
  rintro v U' D3 hU ⟨q, k, cc, lq, q2, k2, cc2, lr, Dq, Dr, rfl, rfl, oq, oor, hq, hr, hk, hk2, rfl⟩
  rw [List.append_assoc]
  refine sl_perm ?_ ((List.Perm.append_left Dr (perm6 (D := Dq))).trans (perm6 (D := Dr)))
  repeat (first | refine run_S ?_ | refine w_box (fun _ => ?_) | refine w_al (fun _ => ?_))
  have hub := val_lt c2.bd
  have hl2 : 0 < val l2 := by omega
  have hlr : val lr < val l2 := by rw [hr]; exact Nat.mod_lt _ hl2
  have hdm : val l1 = val lr + val l2 * val lq := by rw [hr, hq]; exact (Nat.mod_add_div ..).symm
  refine sl_call rfl rfl rfl rfl rfl rfl (fun _ => rsigned_ct (neg := false) ((oor.dig (X := Dq ++ (D2 ++ (D1 ++ M))) d1 sb).up hUc sb) (by omega)) ?_
  rintro v U' Dh3 hU ⟨xh3, rfl, h3, rfl⟩
  refine sl_perm ?_ (perm6 (D := Dh3))
  repeat (first | refine run_S ?_ | refine w_box (fun _ => ?_) | refine w_al (fun _ => ?_))
  rename_i b10
  rw [show sg false (val lr) = (val lr : Int) by simp [sg]] at h3
  have hz3 := h3.len0
  cases hneg : x1.neg
  · have h00 : x1.neg = true → val lr = 0 := fun h => by rw [hneg] at h; cases h
    repeat (first | refine run_S ?_ | refine w_box (fun _ => ?_) | refine w_al (fun _ => ?_))
    obtain ⟨g1, g2⟩ := div_plain (neg := x2.neg) (neg1 := x1.neg) hdm hlr h00
    rw [← s1, ← s2] at g1 g2
    refine st_draw2 7 8 [0, 1, 2, 3, 4, 5, 7, 6, 8, 9] [0, 1, 2, 3, 4, 5, 6, 8, 7, 9] sym (by kernel_rfl) (by kernel_rfl) (by kernel_rfl) ?_ ?_
    all_goals
      repeat (first | refine run_S ?_ | refine w_box (fun _ => ?_) | refine w_al (fun _ => ?_))
      refine sl_call rfl rfl rfl rfl rfl rfl (fun _ => rsigned_ct ((oq.dig (M := D2 ++ (D1 ++ M))).up hUc sb) (by omega)) ?_
      rintro v U' Dh4 hU ⟨xh4, rfl, h4, rfl⟩
      refine sl_perm ?_ (perm7 (D := Dh4))
      repeat (first | refine run_S ?_ | refine w_box (fun _ => ?_) | refine w_al (fun _ => ?_))
      refine sk_perm swp7 ?_
      exact sk_ret (Dh3 ++ Dh4) sym rfl (.cons (.cell 4 rfl rfl rfl) (.cons (.cell 3 rfl rfl rfl) .nil)) hUc (by rw [List.append_assoc]; exact sb) (.inl rfl) ⟨xh4, xh3, Dh4, Dh3, rfl, rfl, by rw [g1]; exact h4, by rw [g2]; exact h3, rfl⟩
  · repeat (first | refine run_S ?_ | refine w_box (fun _ => ?_) | refine w_al (fun _ => ?_))
    refine st_dec rfl (fun h0 => ?_) (fun h0 => ?_)
    · have hlr0 : 0 < val lr := by omega
      obtain ⟨g1, g2⟩ := div_up (neg := x2.neg) hdm hlr hlr0
      have s1' := s1
      rw [hneg] at s1'
      rw [← s1', ← s2] at g1 g2
      have sr : Sz (val lr : Int) y.n := by
        unfold Sz at su ⊢
        rw [Int.natAbs_natCast]
        omega
      repeat (first | refine run_S ?_ | refine w_box (fun _ => ?_) | refine w_al (fun _ => ?_))
      refine st_draw [0, 1, 2, 3, 7, 9, 4, 5, 6, 8, 10, 11, 12] sym (by kernel_rfl) ?_
      repeat (first | refine run_S ?_ | refine w_box (fun _ => ?_) | refine w_al (fun _ => ?_))
      refine sl_bslice (vs := [dg 1]) sym rfl rfl rfl rfl rfl rfl (dg_size [1]) rfl rfl rfl rfl rfl rfl (fun b11 => ?_)
      have hd1 : Dig U [(b11, .arr [dg 1], TU32)] (some ⟨b11, 0, none⟩) 1 1 [1] := (Own.row (b := b11) (r := [1]) (Nat.le_refl 1) rfl (by omega) (by intro y hy; simp at hy; omega)).dig (M := [])
      repeat (first | refine run_S ?_ | refine w_box (fun _ => ?_) | refine w_al (fun _ => ?_))
      refine sl_call rfl rfl rfl rfl rfl rfl (fun _ => rplus_ct ((oq.dig (M := D2 ++ (D1 ++ M))).up hUc sb) (hd1.up hUc sb) (by omega) (by decide)) ?_
      rintro v U' D5 hU ⟨q5, k5, cc5, l5, rfl, o5, hv5, hk5, rfl⟩
      refine sl_perm ?_ (perm8 (D := D5))
      repeat (first | refine run_S ?_ | refine w_box (fun _ => ?_) | refine w_al (fun _ => ?_))
      refine sl_call rfl rfl rfl rfl rfl rfl (fun _ => rsigned_ct ((o5.dig (M := [])).up hUc (by rw [List.append_nil]; exact sb)) (by omega)) ?_
      rintro v U' Dh6 hU ⟨xh6, rfl, h6, rfl⟩
      refine sl_perm ?_ (perm8 (D := Dh6))
      repeat (first | refine run_S ?_ | refine w_box (fun _ => ?_) | refine w_al (fun _ => ?_))
      refine sl_call rfl rfl rfl rfl rfl rfl (fun _ => rAbs_ct (h2.at sb).rep (Nat.le_trans hn2 (by decide))) ?_
      rintro v U' Dh7 hU ⟨xh7, rfl, h7, rfl⟩
      refine sl_perm ?_ (perm8 (D := Dh7))
      repeat (first | refine run_S ?_ | refine w_box (fun _ => ?_) | refine w_al (fun _ => ?_))
      refine sl_call rfl rfl rfl rfl rfl rfl (fun _ => rSub_ct (h7.at sb).rep (h7.le su.abs (Nat.le_trans hn' (by decide))) (h3.at sb).rep (h3.le sr (Nat.le_trans hn' (by decide)))) ?_
      rintro v U' Dh8 hU ⟨xh8, rfl, h8, rfl⟩
      refine sl_perm ?_ (perm8 (D := Dh8))
      repeat (first | refine run_S ?_ | refine w_box (fun _ => ?_) | refine w_al (fun _ => ?_))
      refine sk_ret (Dh8 ++ Dh6) sym rfl (.cons (.cell 5 rfl rfl rfl) (.cons (.cell 4 rfl rfl rfl) .nil)) hUc (by rw [List.append_assoc]; exact sb) (.inl rfl) ⟨xh6, xh8, Dh6, Dh8, rfl, rfl, ?_, ?_, rfl⟩
      · rw [g1]
        rw [hv5, val_single] at h6
        rwa [show (true != x2.neg) = !x2.neg by cases x2.neg <;> rfl]
      · rw [g2]
        rwa [show (u.natAbs : Int) - (val lr : Int) = ((val l2 - val lr : Nat) : Int) by omega] at h8
    · have h00 : x1.neg = true → val lr = 0 := fun _ => by omega
      repeat (first | refine run_S ?_ | refine w_box (fun _ => ?_) | refine w_al (fun _ => ?_))
      obtain ⟨g1, g2⟩ := div_plain (neg := x2.neg) (neg1 := x1.neg) hdm hlr h00
      rw [← s1, ← s2] at g1 g2
      refine st_draw2 7 8 [0, 1, 2, 3, 4, 5, 7, 6, 8, 9] [0, 1, 2, 3, 4, 5, 6, 8, 7, 9] sym (by kernel_rfl) (by kernel_rfl) (by kernel_rfl) ?_ ?_
      all_goals
        repeat (first | refine run_S ?_ | refine w_box (fun _ => ?_) | refine w_al (fun _ => ?_))
        refine sl_call rfl rfl rfl rfl rfl rfl (fun _ => rsigned_ct ((oq.dig (M := D2 ++ (D1 ++ M))).up hUc sb) (by omega)) ?_
        rintro v U' Dh4 hU ⟨xh4, rfl, h4, rfl⟩
        refine sl_perm ?_ (perm7 (D := Dh4))
        repeat (first | refine run_S ?_ | refine w_box (fun _ => ?_) | refine w_al (fun _ => ?_))
        refine sk_perm swp7 ?_
        exact sk_ret (Dh3 ++ Dh4) sym rfl (.cons (.cell 4 rfl rfl rfl) (.cons (.cell 3 rfl rfl rfl) .nil)) hUc (by rw [List.append_assoc]; exact sb) (.inl rfl) ⟨xh4, xh3, Dh4, Dh3, rfl, rfl, by rw [g1]; exact h4, by rw [g2]; exact h3, rfl⟩

end Go.Proofs.Ytlnmhjkagnfnaaa
