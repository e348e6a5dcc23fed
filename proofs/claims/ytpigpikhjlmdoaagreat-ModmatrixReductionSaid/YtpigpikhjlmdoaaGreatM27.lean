/- Texts of this seat's own, merged: each begins with its own remark. -/
import Derived.Test.YtpigpikhjlmdoaaGreatM37
import Derived.Test.YtpigpikhjlmdoaaGreatHk
import Derived.Test.YtpigpikhjlmdoaaGreatM23
import Derived.Test.YtpigpikhjlmdoaaGreatM26
/- Walks of reference 09: Add, Trace. -/
namespace Go.Proofs.YtpigpikhjlmdoaaGreat
open Go.Hp
variable {G : World} {U U' : UH} {M M' : MH}
theorem m9Add_ct {r c b : Nat} {va vb : Value} {A B : Nat → Nat → Rat} {xc : QV} {q : Rat} (ha : Vm (Wq b) r c U va A) (hq : xc.rep U [] q) (hql : xc.le b) (hv : Vm (Wq b) r c U vb B) (hb1 : 1 ≤ b) (hb : b ≤ 1000000000) (hr : r ≤ 1000) (hc : c ≤ 1000) :
    Ct Tryz.prog 100 [va, xc.v, vb] G U M fun v U' D => Vm Vq r c U' v (fun i j => A i j + q * B i j) ∧ D = [] := by
  have hrc : r * c ≤ 1000 * 1000 := Nat.mul_le_mul hr hc
  have sA : ∀ i j, i < r → j < c → Szq (A i j) b := fun i j hi hj => ha.sz hb1 hi hj
  have sB : ∀ i j, i < r → j < c → Szq (B i j) b := fun i j hi hj => hv.sz hb1 hi hj
  have sq := hq.sz hql hb1
  have ha2 := ha
  have hv2 := hv
  obtain ⟨_, rfl, pa, ca, aas, rfl, -⟩ := ha
  obtain ⟨_, rfl, pb, cb, bbs, rfl, -⟩ := hv
  refine ct_of_st Tryz.func100 rfl rfl rfl rfl ?_
  repeat (first | refine run_S ?_ | refine w_box (fun _ => ?_) | refine w_al (fun _ => ?_))
  rename_i b3 b4 b5 b6
  refine st_draw [0, 2, 1, 3, 4, 5] sym (by kernel_rfl) ?_
  try refine run_s ?_
  refine sl_call rfl rfl rfl rfl rfl rfl (fun _ => ct_setg (m9Rows_co (kept_m kept_w _ _ _ _ uc ha2) (by omega) (by omega) (by omega) (by omega))) ?_
  rintro v1 U1 D hU ⟨⟨pr, cr, rs, rfl, -, rr, er⟩, rfl⟩
  rw [List.nil_append]
  try refine run_s ?_
  refine sl_call rfl rfl rfl rfl rfl rfl (fun _ => ct_setg (m9Rows_co (kept_m kept_w _ _ _ _ uc hv2) (by omega) (by omega) (by omega) (by omega))) ?_
  rintro v2 U2 D hU ⟨⟨ps, cs, ss, rfl, -, rs2, es⟩, rfl⟩
  rw [List.nil_append]
  repeat (first | refine run_S ?_ | refine w_box (fun _ => ?_) | refine w_al (fun _ => ?_))
  refine st_loop (fun m E U' M' => ∃ (i : Nat) (P : Option Addr) (C : Nat) (vs : List Value) (D : MH), i ≤ r ∧ RowO TRs 1 D P i C vs ∧ El (Vr c) U' vs (fun i j => A i j + q * B i j) ∧ E = [(9, .slice P i C), (10, .int .i64 (i : Int)), (7, .slice pr r cr), (8, .slice ps r cs), (3, .pointer (some ⟨b3, 0, none⟩)), (4, .pointer (some ⟨b4, 0, none⟩)), (6, .pointer (some ⟨b6, 0, none⟩))] ∧ ULe U2 U' ∧
      M' = (b6, .var (.agg #[.int .i64 0, .int .i64 0, .slice none 0 0]), TM) :: (b5, .var (.agg #[.int .i64 (r : Int), .int .i64 (c : Int), .slice pb (r * c) cb]), TM) :: (b4, .var xc.v, TR) :: (b3, .var (.agg #[.int .i64 (r : Int), .int .i64 (c : Int), .slice pa (r * c) ca]), TM) :: (D ++ M) ∧ m = r - i) (n0 := r)
    (E0 := [(9, .slice none 0 0), (10, .int .i64 ((0 : Nat) : Int)), (7, .slice pr r cr), (8, .slice ps r cs), (3, .pointer (some ⟨b3, 0, none⟩)), (4, .pointer (some ⟨b4, 0, none⟩)), (6, .pointer (some ⟨b6, 0, none⟩))]) ⟨rfl, rfl, rfl, rfl, rfl, rfl, rfl, trivial⟩ ⟨0, none, 0, [], [], by omega, RowO.nil, El.nil, rfl, uc, rfl, rfl⟩ ?_
  rintro m E U3 M' ⟨i, P, C, vs, D, hi, hrow, hel, rfl, hU3, rfl, rfl⟩
  try refine run_s ?_
  refine st_dec rfl (fun h => ?_) (fun h => ?_)
  · have hir : i < r := by omega
    obtain ⟨v3, hv3⟩ := rr.at hir
    have e3 := er _ _ hv3
    obtain ⟨p3, c3, us, rfl, hc3, rw3, el3⟩ := id e3
    obtain ⟨v4, hv4⟩ := rs2.at hir
    have e4 := es _ _ hv4
    obtain ⟨p4, c4, ws, rfl, hc4, rw4, el4⟩ := id e4
    try refine run_s ?_
    refine st_drawM [10, 11, 12, 13] [0, 1, 2, 3, 4, 5, 6, 7, 8, 9, 10, 11, 12, 13] sym (by kernel_rfl) ?_
    try refine run_s ?_
    refine sl_y (yl_index sym rfl rfl rfl rfl rfl rfl ((rr.up uc sb).lt hv3) ((rr.up uc sb).get _ _ hv3).1) rfl rfl rfl rfl ?_; refine sl_y (yl_loadR1 sym rfl rfl rfl rfl (rr.up uc sb) hv3 rfl) rfl rfl rfl rfl ?_
    try refine run_s ?_
    refine sl_y (yl_index sym rfl rfl rfl rfl rfl rfl ((rs2.up uc sb).lt hv4) ((rs2.up uc sb).get _ _ hv4).1) rfl rfl rfl rfl ?_; refine sl_y (yl_loadR1 sym rfl rfl rfl rfl (rs2.up uc sb) hv4 rfl) rfl rfl rfl rfl ?_
    try refine run_s ?_
    refine sl_call rfl rfl rfl rfl rfl rfl (fun _ => (m9Combine_ct (b := b) (Ls.up (M' := _) (e3.toW fun j hj => sA i j hir hj) kept_w uc sb) (hq.up uc (List.nil_sublist _)) hql (Ls.up (M' := _) (e4.toW fun j hj => sB i j hir hj) kept_w uc sb) hb1 (by omega) (by omega)).setl kept_q) ?_
    rintro v U4 D2 hU ⟨⟨p, c', us, rfl, hc, hr', he⟩, rfl⟩
    rw [List.nil_append]
    repeat (first | refine run_S ?_ | refine w_box (fun _ => ?_) | refine w_al (fun _ => ?_))
    refine w_push hrow (perm4 (D := _)).symm (fun bhr2 phr2 chr2 Dhr2 hr2 => ?_)
    refine sl_perm ?_ (perm4 (D := Dhr2))
    repeat (first | refine run_S ?_ | refine w_box (fun _ => ?_) | refine w_al (fun _ => ?_))
    exact sk_again (E' := [(9, .slice phr2 (i + 1) chr2), (10, .int .i64 ((i : Int) + 1)), (7, .slice pr r cr), (8, .slice ps r cs), (3, .pointer (some ⟨b3, 0, none⟩)), (4, .pointer (some ⟨b4, 0, none⟩)), (6, .pointer (some ⟨b6, 0, none⟩))]) (m := r - (i + 1)) ⟨rfl, rfl, rfl, rfl, rfl, rfl, rfl, trivial⟩ (by omega)
      ⟨i + 1, phr2, chr2, _, Dhr2, by omega, hr2, snoc_ok hrow.len.1 (hel.up kept_r uc) ⟨p, c', us, rfl, hc, hr', he⟩, rfl, uc, rfl, rfl⟩
  · have e : i = r := by omega
    subst e
    repeat (first | refine run_S ?_ | refine w_box (fun _ => ?_) | refine w_al (fun _ => ?_))
    refine sl_call rfl rfl rfl rfl rfl rfl (fun _ => ct_setm (m9Of_ct (b := b + (b + b) + 1) (Ls.toWr ((Lo.at ⟨P, C, vs, rfl, hrow, hel⟩ sb).up kept_r uc sb) (fun a d ha hd => (sA a d ha hd).add (sq.mul (sB a d ha hd)))) (by omega) (by omega) (by omega) (by omega))) ?_
    rintro vh4 Uh4 D hU ⟨h4, rfl⟩
    rw [List.nil_append]
    repeat (first | refine run_S ?_ | refine w_box (fun _ => ?_) | refine w_al (fun _ => ?_))
    obtain ⟨_, rfl, pa, ca, va, rfl, h5⟩ := h4
    repeat (first | refine run_S ?_ | refine w_box (fun _ => ?_) | refine w_al (fun _ => ?_))
    exact sk_ret [] sym rfl (.cons (.cell 0 rfl rfl rfl) .nil) uc sb (.inl rfl) ⟨⟨_, rfl, pa, ca, va, rfl, h5⟩, rfl⟩
theorem m9Trace_ct {n b : Nat} {va : Value} {A : Nat → Nat → Rat} (ha : Vm (Wq b) n n U va A) (hb1 : 1 ≤ b) (hB : 1 + n * (b + 1) ≤ 10000000000) (hbb : b ≤ 10000000000) (hn : n ≤ 1000) :
    Ct Tryz.prog 99 [va] G U M fun v U' D => ∃ x : QV, v = x.v ∧ x.nrm U' [] (La.sm n fun i => A i i) ∧ D = [] := by
  have hnn : n * n ≤ 1000 * 1000 := Nat.mul_le_mul hn hn
  have sA : ∀ i j, i < n → j < n → Szq (A i j) b := fun i j hi hj => ha.sz hb1 hi hj
  have ha2 := ha
  obtain ⟨_, rfl, pa, cca, as1, rfl, -⟩ := ha
  refine ct_of_st Tryz.func99 rfl rfl rfl rfl ?_
  repeat (first | refine run_S ?_ | refine w_box (fun _ => ?_) | refine w_al (fun _ => ?_))
  rename_i b1 b2
  refine sl_call rfl rfl rfl rfl rfl rfl (fun _ => rqOf_ct (z := 0) (by decide) (by decide)) ?_
  rintro v Uh1 D hU ⟨xh1, rfl, h1, rfl⟩
  repeat (first | refine run_S ?_ | refine w_box (fun _ => ?_) | refine w_al (fun _ => ?_))
  rename_i b3
  refine st_loop (fun z E U' M' => ∃ (i : Nat) (xs : QV), i ≤ n ∧ xs.nrm U' [] (La.sm i fun k => A k k) ∧ E = [(4, .int .i64 (i : Int)), (3, .pointer (some ⟨b3, 0, none⟩)), (1, .pointer (some ⟨b1, 0, none⟩)), (2, .pointer (some ⟨b2, 0, none⟩))] ∧ ULe U U' ∧
      M' = (b3, .var xs.v, TR) :: (b2, .var zeroQV.v, TR) :: (b1, .var (.agg #[.int .i64 (n : Int), .int .i64 (n : Int), .slice pa (n * n) cca]), TM) :: M ∧ z = n - i) (n0 := n)
    (E0 := [(4, .int .i64 ((0 : Nat) : Int)), (3, .pointer (some ⟨b3, 0, none⟩)), (1, .pointer (some ⟨b1, 0, none⟩)), (2, .pointer (some ⟨b2, 0, none⟩))]) ⟨rfl, rfl, rfl, rfl, trivial⟩ ⟨0, xh1, by omega, h1, rfl, uc, rfl, rfl⟩ ?_
  rintro z E U1 M' ⟨i, xs, hi, hs, rfl, hU1, rfl, rfl⟩
  try refine run_s ?_
  refine st_dec rfl (fun h => ?_) (fun h => ?_)
  · have hin : i < n := by omega
    have hmul : i * (b + 1) ≤ n * (b + 1) := Nat.mul_le_mul_right _ (by omega)
    have sS : Szq (La.sm i fun k => A k k) (1 + i * (b + 1)) := szq_sm fun k hk => sA k k (by omega) (by omega)
    try refine run_s ?_
    refine st_drawM [5, 6] [0, 1, 2, 3, 4, 5, 6] sym (by kernel_rfl) ?_
    try refine run_s ?_
    refine sl_call rfl rfl rfl rfl rfl rfl (fun _ => m9At_ct (kept_m kept_w _ _ _ _ uc ha2) hin hin hbb (by omega)) ?_
    rintro v U3 D' hU ⟨⟨x3, rfl, h3⟩, rfl⟩
    rw [List.nil_append]
    try refine run_s ?_
    refine sl_call rfl rfl rfl rfl rfl rfl (fun _ => rqAdd_ct (hs.rep.up uc sb) (hs.le sS (by omega)) (h3.rep.up uc sb) (h3.le (sA i i hin hin) (by omega))) ?_
    rintro v Uh4 D hU ⟨xh4, rfl, h4, rfl⟩
    repeat (first | refine run_S ?_ | refine w_box (fun _ => ?_) | refine w_al (fun _ => ?_))
    try refine run_s ?_
    exact sk_again (E' := [(4, .int .i64 ((i : Int) + 1)), (3, .pointer (some ⟨b3, 0, none⟩)), (1, .pointer (some ⟨b1, 0, none⟩)), (2, .pointer (some ⟨b2, 0, none⟩))]) (m := n - (i + 1)) ⟨rfl, rfl, rfl, rfl, trivial⟩ (by omega)
      ⟨i + 1, xh4, by omega, h4, rfl, uc, rfl, rfl⟩
  · have e : i = n := by omega
    subst e
    repeat (first | refine run_S ?_ | refine w_box (fun _ => ?_) | refine w_al (fun _ => ?_))
    exact sk_ret [] sym rfl (.cons (.cell 1 rfl rfl rfl) .nil) uc sb (.inl rfl) ⟨xs, rfl, hs.up uc sb, rfl⟩
end Go.Proofs.YtpigpikhjlmdoaaGreat

/- Walks of matrix: sums, differences, multiples. -/
namespace Go.Proofs.YtpigpikhjlmdoaaGreat
open Go.Hp
variable {G : World} {U U' : UH} {M M' : MH}
end Go.Proofs.YtpigpikhjlmdoaaGreat

/- Walks of matrix: Transpose, Apply, Trace. -/
namespace Go.Proofs.YtpigpikhjlmdoaaGreat
open Go.Hp
variable {G : World} {U U' : UH} {M M' : MH}
end Go.Proofs.YtpigpikhjlmdoaaGreat

/- The law of layer 9 on operations. -/
namespace Go.Proofs.YtpigpikhjlmdoaaGreat
open Go.Hp
variable {G : World} {U U' : UH} {M M' : MH}
end Go.Proofs.YtpigpikhjlmdoaaGreat
