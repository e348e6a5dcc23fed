/- Texts of this seat's own, merged: each begins with its own remark. -/
import Derived.Test.YtocjmbilepbokaaGreatM31
import Derived.Test.YtocjmbilepbokaaGreatM27
import Derived.Test.YtocjmbilepbokaaGreatM28
import Derived.Test.YtocjmbilepbokaaGreatB103
/- Walks of subspace: sums, annihilators, intersections, images, preimages. -/
namespace Go.Proofs.YtocjmbilepbokaaGreat
open Go.Hp
variable {G : World} {U U' : UH} {M M' : MH}

theorem mTranspose_ctv {r c b : Nat} {va : Value} {A : Nat → Nat → Rat} (ha : Vm (Wq b) r c U va A) (hb : b ≤ 10000000000) (hr : r ≤ 1000) (hc : c ≤ 1000) :
    Ct Tryz.prog 95 [va] G U M fun v U' D => ∃ vC, v = .tuple #[vC, .int .i64 0] ∧ Vm Vq c r U' vC (La.tr A) ∧ D = [] :=
  (mTranspose_co ha hb hr hc).settle.mono fun _ _ _ _ ⟨h1, _, _, ⟨vC, h2, ⟨a, h3, h9⟩, _⟩, _, h7, h8⟩ =>
    ⟨vC, h2, ⟨a, h3, h9.sett kept_q h7 h8⟩, h1⟩

theorem sann_ct {r n b : Nat} {v : Value} {B : Nat → Nat → Rat} {q : Nat → Nat} (h : Sv (Wq b) r n U v B) (hE : La.Ech r n B q) (hb1 : 1 ≤ b) (hb : b ≤ 40000) (hn : n ≤ 6) :
    Ct Tryz.prog 61 [v] G U M fun v U' D => ∃ (s : Nat) (N : Nat → Nat → Rat) (p : Nat → Nat), Sv Vq s n U' v N ∧ La.KerOf n r s (La.tr B) N p ∧ D = [] := by
  have hr := Nat.le_trans hE.le_n hn
  have hrn : r * n ≤ 6 * 6 := Nat.mul_le_mul hr hn
  have hg := gro_six hb
  have hg2 := La.gro_le (k := b) hn
  have hg3 : n * La.gro b n ≤ 6 * 164000000 := Nat.mul_le_mul hn (by omega)
  have h0 := h
  obtain ⟨_, rfl, pb, cb, bs, rfl, -⟩ := id h
  refine ct_of_st Tryz.func61 rfl rfl rfl rfl ?_
  repeat (first | refine run_S ?_ | refine w_box (fun _ => ?_) | refine w_al (fun _ => ?_))
  refine sl_call rfl rfl rfl rfl rfl rfl (fun _ => mTranspose_ctv (kept_m kept_w _ _ _ _ uc h.vm) (by omega) (by omega) (by omega)) ?_
  rintro v1 U1 D1 hU1 ⟨_, rfl, h1, rfl⟩
  try rw [List.nil_append]
  obtain ⟨_, rfl, p1, c1, s1, rfl, -⟩ := id h1
  repeat (first | refine run_S ?_ | refine w_box (fun _ => ?_) | refine w_al (fun _ => ?_))
  refine sl_call rfl rfl rfl rfl rfl rfl (fun _ => mKernel_ctg (b := b) ((kept_m kept_q _ _ _ _ uc h1).w fun i j hi hj => h0.sz hb1 hj hi) hb1 (by omega) (by omega) (by omega) (by omega)) ?_
  rintro v2 U2 D2 hU2 ⟨s, N, p, _, rfl, h2, rfl, hk, -⟩
  try rw [List.nil_append]
  obtain ⟨_, rfl, p2, c2, s2, rfl, -⟩ := id h2
  repeat (first | refine run_S ?_ | refine w_box (fun _ => ?_) | refine w_al (fun _ => ?_))
  refine sl_call rfl rfl rfl rfl rfl rfl (fun _ => sspace_ct kept_q (kept_m kept_q _ _ _ _ uc h2)) ?_
  rintro v3 U3 D3 hU3 ⟨h3, rfl⟩
  try rw [List.nil_append]
  obtain ⟨_, rfl, p3, c3, s3, rfl, -⟩ := id h3
  repeat (first | refine run_S ?_ | refine w_box (fun _ => ?_) | refine w_al (fun _ => ?_))
  refine sk_ret [] sym rfl (.cons (.cell 2 rfl rfl rfl) .nil) uc sb (.inl rfl) ?_
  exact ⟨s, N, p, h3, hk, rfl⟩

theorem sSum_ok {ra rb n b : Nat} {va vb : Value} {A B : Nat → Nat → Rat} {qa qb : Nat → Nat} (ha : Sv (Wq b) ra n U va A) (hb : Sv (Wq b) rb n U vb B) (hA : La.Ech ra n A qa) (hB : La.Ech rb n B qb) (hb1 : 1 ≤ b) (hbb : b ≤ 40000) (hn : n ≤ 6) :
    Ct Tryz.prog 15 [va, vb] G U M fun v U' D => ∃ (vS : Value) (s : Nat) (S : Nat → Nat → Rat) (p : Nat → Nat), v = .tuple #[vS, .int .i64 0] ∧ Sv Vq s n U' vS S ∧ La.Ech s n S p ∧ La.Same s (ra + rb) n S (La.stack ra A B) ∧ D = [] := by
  have hra := Nat.le_trans hA.le_n hn
  have hrb := Nat.le_trans hB.le_n hn
  obtain ⟨_, rfl, pa, ca, as1, rfl, -⟩ := id ha
  obtain ⟨_, rfl, pb, cb, bs, rfl, -⟩ := id hb
  refine ct_of_st Tryz.func15 rfl rfl rfl rfl ?_
  repeat (first | refine run_S ?_ | refine w_box (fun _ => ?_) | refine w_al (fun _ => ?_))
  refine sl_call rfl rfl rfl rfl rfl rfl (fun _ => spair_ok (kept_s kept_w _ _ _ _ uc ha) (kept_s kept_w _ _ _ _ uc hb) hA hB hb1 hbb hb1 hbb hn) ?_
  rintro v1 U1 D1 hU1 ⟨rfl, rfl⟩
  try rw [List.nil_append]
  repeat (first | refine run_S ?_ | refine w_box (fun _ => ?_) | refine w_al (fun _ => ?_))
  refine st_ne rfl (fun h => absurd rfl h) (fun _ => ?_)
  repeat (first | refine run_S ?_ | refine w_box (fun _ => ?_) | refine w_al (fun _ => ?_))
  refine st_drawM [5, 6, 7] [0, 1, 2, 3, 4, 5, 6, 7] sym (by kernel_rfl) ?_
  repeat (first | refine run_S ?_ | refine w_box (fun _ => ?_) | refine w_al (fun _ => ?_))
  refine sl_call rfl rfl rfl rfl rfl rfl (fun _ => srowsOf_co (kept_s kept_w _ _ _ _ uc ha) (kept_s kept_w _ _ _ _ uc hb) hra hrb hn) ?_
  rintro v2 U2 D2 hU2 ⟨⟨P, C, vs, rfl, hrow, hel⟩, -⟩
  try rw [List.nil_append]
  refine sl_perm ?_ (perm3 (D := D2))
  repeat (first | refine run_S ?_ | refine w_box (fun _ => ?_) | refine w_al (fun _ => ?_))
  refine sl_call rfl rfl rfl rfl rfl rfl (fun _ => sreduced_ct (b := b) (⟨P, C, vs, rfl, hrow.len.2.1, hrow.at sb, hel⟩ : Ls (Wr b n) 1 (ra + rb) U2 _ _ _) hb1 hbb (by omega) hn) ?_
  rintro v3 U3 D3 hU3 ⟨s, S, p, hS, hE, hs, rfl⟩
  try rw [List.nil_append]
  obtain ⟨_, rfl, p3, c3, s3, rfl, -⟩ := id hS
  repeat (first | refine run_S ?_ | refine w_box (fun _ => ?_) | refine w_al (fun _ => ?_))
  refine sk_ret [] sym rfl (.cons (.cell 0 rfl rfl rfl) (.cons (.tmp rfl) .nil)) uc sb (.inl rfl) ?_
  exact ⟨_, s, S, p, rfl, hS, hE, hs, rfl⟩

theorem sIntersect_ok {ra rb n b w : Nat} {va vb : Value} {A B : Nat → Nat → Rat} {qa qb : Nat → Nat} (ha : Sv (Wq b) ra n U va A) (hb : Sv (Wq b) rb n U vb B) (hA : La.Ech ra n A qa) (hB : La.Ech rb n B qb) (wA : Hw w ra n A) (wB : Hw w rb n B) (hw : w ≤ 1400) (hb1 : 1 ≤ b) (hbb : b ≤ 40000) (hn : n ≤ 6) :
    Ct Tryz.prog 14 [va, vb] G U M fun v U' D => ∃ (vI : Value) (i : Nat) (I : Nat → Nat → Rat) (p : Nat → Nat), v = .tuple #[vI, .int .i64 0] ∧ Sv Vq i n U' vI I ∧ La.Ech i n I p ∧ (∀ x, La.Sp i n I x ↔ La.Sp ra n A x ∧ La.Sp rb n B x) ∧ Gw (6 * w + 1) i n I ∧ D = [] := by
  obtain ⟨_, rfl, pa, ca, as1, rfl, -⟩ := id ha
  obtain ⟨_, rfl, pb, cb, bs, rfl, -⟩ := id hb
  refine ct_of_st Tryz.func14 rfl rfl rfl rfl ?_
  repeat (first | refine run_S ?_ | refine w_box (fun _ => ?_) | refine w_al (fun _ => ?_))
  rename_i b2 b3 b4
  refine sl_call rfl rfl rfl rfl rfl rfl (fun _ => spair_ok (kept_s kept_w _ _ _ _ uc ha) (kept_s kept_w _ _ _ _ uc hb) hA hB hb1 hbb hb1 hbb hn) ?_
  rintro v1 U1 D1 hU1 ⟨rfl, rfl⟩
  try rw [List.nil_append]
  repeat (first | refine run_S ?_ | refine w_box (fun _ => ?_) | refine w_al (fun _ => ?_))
  refine st_ne rfl (fun h => absurd rfl h) (fun _ => ?_)
  repeat (first | refine run_S ?_ | refine w_box (fun _ => ?_) | refine w_al (fun _ => ?_))
  refine st_drawM [7, 8, 9, 10] [0, 1, 2, 4, 3, 5, 6, 7, 8, 9, 10] sym (by kernel_rfl) ?_
  repeat (first | refine run_S ?_ | refine w_box (fun _ => ?_) | refine w_al (fun _ => ?_))
  refine sl_call rfl rfl rfl rfl rfl rfl (fun _ => sann_ct (kept_s kept_w _ _ _ _ uc ha) hA hb1 hbb hn) ?_
  rintro v2 U2 D2 hU2 ⟨s1, N1, p1, h1, k1, rfl⟩
  try rw [List.nil_append]
  obtain ⟨_, rfl, p1', c1, t1, rfl, -⟩ := id h1
  repeat (first | refine run_S ?_ | refine w_box (fun _ => ?_) | refine w_al (fun _ => ?_))
  refine sl_call rfl rfl rfl rfl rfl rfl (fun _ => sann_ct (kept_s kept_w _ _ _ _ uc hb) hB hb1 hbb hn) ?_
  rintro v3 U3 D3 hU3 ⟨s2, N2, p2, h2, k2, rfl⟩
  try rw [List.nil_append]
  obtain ⟨_, rfl, p2', c2, t2, rfl, -⟩ := id h2
  have g1 := wA.perp hA k1
  have g2 := wB.perp hB k2
  have w1 := g1.hw k1.ech hn
  have w2 := g2.hw k2.ech hn
  repeat (first | refine run_S ?_ | refine w_box (fun _ => ?_) | refine w_al (fun _ => ?_))
  refine sl_call rfl rfl rfl rfl rfl rfl (fun _ => srowsOf_co (b := 6 * w + 1) ((kept_s kept_q _ _ _ _ uc h1).w fun i j hi hj => w1.szq (by omega) hi hj) ((kept_s kept_q _ _ _ _ uc h2).w fun i j hi hj => w2.szq (by omega) hi hj) (Nat.le_trans k1.ech.le_n hn) (Nat.le_trans k2.ech.le_n hn) hn) ?_
  rintro v4 U4 D4 hU4 ⟨⟨P, C, vs, rfl, hrow, hel⟩, -⟩
  try rw [List.nil_append]
  refine sl_perm ?_ (perm3 (D := D4))
  have hs1 := Nat.le_trans k1.ech.le_n hn
  have hs2 := Nat.le_trans k2.ech.le_n hn
  repeat (first | refine run_S ?_ | refine w_box (fun _ => ?_) | refine w_al (fun _ => ?_))
  refine sl_call rfl rfl rfl rfl rfl rfl (fun _ => sreduced_ct (b := 6 * w + 1) (⟨P, C, vs, rfl, hrow.len.2.1, hrow.at sb, hel⟩ : Ls (Wr (6 * w + 1) n) 1 (s1 + s2) U4 _ _ _) (by omega) (by omega) (by omega) hn) ?_
  rintro v5 U5 D5 hU5 ⟨s3, S, p3, h3, e3, m3, rfl⟩
  try rw [List.nil_append]
  obtain ⟨_, rfl, p3', c3, t3, rfl, -⟩ := id h3
  have w3 := (g1.sum g2 m3).hw e3 hn
  repeat (first | refine run_S ?_ | refine w_box (fun _ => ?_) | refine w_al (fun _ => ?_))
  refine sl_call rfl rfl rfl rfl rfl rfl (fun _ => sann_ct (b := 6 * w + 1) ((kept_s kept_q _ _ _ _ uc h3).w fun i j hi hj => w3.szq (by omega) hi hj) e3 (by omega) (by omega) hn) ?_
  rintro v6 U6 D6 hU6 ⟨s4, I, p4, h4, k4, rfl⟩
  try rw [List.nil_append]
  obtain ⟨_, rfl, p4', c4, t4, rfl, -⟩ := id h4
  repeat (first | refine run_S ?_ | refine w_box (fun _ => ?_) | refine w_al (fun _ => ?_))
  refine sk_ret [] sym rfl (.cons (.cell 0 rfl rfl rfl) (.cons (.tmp rfl) .nil)) uc sb (.inl rfl) ?_
  exact ⟨_, s4, I, p4, rfl, h4, k4.ech, La.sp_inter hA hB k1 k2 m3 k4, w3.perp e3 k4, rfl⟩

theorem sImage_ok {r n m b : Nat} {v vt : Value} {B T : Nat → Nat → Rat} {q : Nat → Nat} (h : Sv (Wq b) r n U v B) (hE : La.Ech r n B q) (ht : Vm (Wq b) n m U vt T) (hb1 : 1 ≤ b) (hb : b ≤ 3000) (hn : n ≤ 6) (hm : m ≤ 6) :
    Ct Tryz.prog 45 [v, vt] G U M fun v U' D => ∃ (vS : Value) (s : Nat) (P : Nat → Nat → Rat) (p : Nat → Nat), v = .tuple #[vS, .int .i64 0] ∧ Sv Vq s m U' vS P ∧ La.Ech s m P p ∧ La.Same s r m P (La.mm n B T) ∧ D = [] := by
  have hr := Nat.le_trans hE.le_n hn
  have hnm : n * (2 * b + 2) ≤ 6 * (2 * b + 2) := Nat.mul_le_mul_right _ hn
  have sM := mm_szq (B := B) (T := T) (fun i j hi hj => h.sz hb1 hi hj) (fun i j hi hj => ht.sz hb1 hi hj) hn (r := r) (m := m)
  obtain ⟨_, rfl, pb, cb, bs, rfl, -⟩ := id h
  obtain ⟨_, rfl, pt, ct1, ts, rfl, -⟩ := id ht
  refine ct_of_st Tryz.func45 rfl rfl rfl rfl ?_
  repeat (first | refine run_S ?_ | refine w_box (fun _ => ?_) | refine w_al (fun _ => ?_))
  refine sl_call rfl rfl rfl rfl rfl rfl (fun _ => sCheck_ok (kept_s kept_w _ _ _ _ uc h) hE hb1 (by omega) hn) ?_
  rintro v1 U1 D1 hU1 ⟨rfl, rfl⟩
  try rw [List.nil_append]
  repeat (first | refine run_S ?_ | refine w_box (fun _ => ?_) | refine w_al (fun _ => ?_))
  refine st_ne rfl (fun h => absurd rfl h) (fun _ => ?_)
  repeat (first | refine run_S ?_ | refine w_box (fun _ => ?_) | refine w_al (fun _ => ?_))
  refine sl_call rfl rfl rfl rfl rfl rfl (fun _ => mMul_ct (b := b) (kept_m kept_w _ _ _ _ uc h.vm) (kept_m kept_w _ _ _ _ uc ht) hb1 (by omega) (by omega) (by omega) (by omega)) ?_
  rintro v2 U2 D2 hU2 ⟨_, rfl, h2, rfl⟩
  try rw [List.nil_append]
  obtain ⟨_, rfl, p2, c2, s2, rfl, -⟩ := id h2
  repeat (first | refine run_S ?_ | refine w_box (fun _ => ?_) | refine w_al (fun _ => ?_))
  refine st_ne rfl (fun h => absurd rfl h) (fun _ => ?_)
  repeat (first | refine run_S ?_ | refine w_box (fun _ => ?_) | refine w_al (fun _ => ?_))
  refine sl_call rfl rfl rfl rfl rfl rfl (fun _ => sSpan_ct (b := 12 * b + 7) ((kept_m kept_q _ _ _ _ uc h2).w sM) (by omega) (by omega) (by omega) hm) ?_
  rintro v3 U3 D3 hU3 ⟨s, P, p, _, rfl, hS, hP, hs, rfl⟩
  try rw [List.nil_append]
  obtain ⟨_, rfl, p5, c5, s5, rfl, -⟩ := id hS
  repeat (first | refine run_S ?_ | refine w_box (fun _ => ?_) | refine w_al (fun _ => ?_))
  refine sk_ret [] sym rfl (.cons (.cell 1 rfl rfl rfl) (.cons (.tmp rfl) .nil)) uc sb (.inl rfl) ?_
  exact ⟨_, s, P, p, rfl, hS, hP, hs, rfl⟩

theorem sPreimage_ok {r n m w v : Nat} {vs vt : Value} {B T : Nat → Nat → Rat} {q : Nat → Nat} (h : Sv (Wq 1) r m U vs B) (hE : La.Ech r m B q) (hw : Hw w r m B) (ht : Vm (Wq 1) n m U vt T) (hv : Hw v n m T) (hw2 : w ≤ 40) (hv2 : v ≤ 40) (hn : n ≤ 6) (hm : m ≤ 6) :
    Ct Tryz.prog 46 [vs, vt] G U M fun v U' D => ∃ (vS : Value) (s c : Nat) (N Q : Nat → Nat → Rat) (p pn : Nat → Nat), v = .tuple #[vS, .int .i64 0] ∧ Sv Vq s n U' vS Q ∧ La.KerOf m r c (La.tr B) N pn ∧ La.KerOf n c s (La.mm m T (La.tr N)) Q p ∧ Gw 2000 s n Q ∧ D = [] := by
  have hr := Nat.le_trans hE.le_n hm
  have hnm : n * m ≤ 6 * 6 := Nat.mul_le_mul hn hm
  obtain ⟨_, rfl, pb, cb, bs, rfl, -⟩ := id h
  obtain ⟨_, rfl, pt, ct1, ts, rfl, -⟩ := id ht
  refine ct_of_st Tryz.func46 rfl rfl rfl rfl ?_
  repeat (first | refine run_S ?_ | refine w_box (fun _ => ?_) | refine w_al (fun _ => ?_))
  refine sl_call rfl rfl rfl rfl rfl rfl (fun _ => sCheck_ok (kept_s kept_w _ _ _ _ uc h) hE (by decide) (by decide) hm) ?_
  rintro v1 U1 D1 hU1 ⟨rfl, rfl⟩
  try rw [List.nil_append]
  repeat (first | refine run_S ?_ | refine w_box (fun _ => ?_) | refine w_al (fun _ => ?_))
  refine st_ne rfl (fun h => absurd rfl h) (fun _ => ?_)
  repeat (first | refine run_S ?_ | refine w_box (fun _ => ?_) | refine w_al (fun _ => ?_))
  refine sl_call rfl rfl rfl rfl rfl rfl (fun _ => mValid_ct (r := (n : Int)) (c := (m : Int)) (n := n * m) (p := pt) (cc := ct1) (by omega)) ?_
  rintro v U' D hU ⟨rfl, rfl, rfl⟩
  repeat (first | refine run_S ?_ | refine w_box (fun _ => ?_) | refine w_al (fun _ => ?_))
  rw [decide_eq_true (vld_of (by omega) (by omega))]
  repeat (first | refine run_S ?_ | refine w_box (fun _ => ?_) | refine w_al (fun _ => ?_))
  refine st_ne rfl (fun h => absurd rfl h) (fun _ => ?_)
  repeat (first | refine run_S ?_ | refine w_box (fun _ => ?_) | refine w_al (fun _ => ?_))
  refine sl_call rfl rfl rfl rfl rfl rfl (fun _ => sann_ct (kept_s kept_w _ _ _ _ uc h) hE (Nat.le_refl 1) (by omega) hm) ?_
  rintro v3 U3 D3 hU3 ⟨c, N, pn, h1, k1, rfl⟩
  try rw [List.nil_append]
  obtain ⟨_, rfl, p1, c1, t1, rfl, -⟩ := id h1
  have hc6 := Nat.le_trans k1.ech.le_n hm
  have w1 := ((hw.perp hE k1).hw k1.ech hm).mono (show 6 * w + 1 ≤ 241 by omega)
  have w2 := (hw_mm hv w1.tr hm).mono (show v + 241 + 1 ≤ 282 by omega)
  refine w_fld ?_
  repeat (first | refine run_S ?_ | refine w_box (fun _ => ?_) | refine w_al (fun _ => ?_))
  refine sl_call rfl rfl rfl rfl rfl rfl (fun _ => mTranspose_ctv (b := 241) ((kept_m kept_q _ _ _ _ uc h1.vm).w fun i j hi hj => w1.szq (by omega) hi hj) (by omega) (by omega) (by omega)) ?_
  rintro v4 U4 D4 hU4 ⟨_, rfl, h4, rfl⟩
  try rw [List.nil_append]
  obtain ⟨_, rfl, p4, c4, t4, rfl, -⟩ := id h4
  repeat (first | refine run_S ?_ | refine w_box (fun _ => ?_) | refine w_al (fun _ => ?_))
  refine sl_call rfl rfl rfl rfl rfl rfl (fun _ => mMul_ct (b := 241) (kept_m kept_w _ _ _ _ uc (ht.mono (by decide))) ((kept_m kept_q _ _ _ _ uc h4).w fun i j hi hj => w1.szq (by omega) hj hi) (by decide) (by omega) (by omega) (by omega) (by omega)) ?_
  rintro v5 U5 D5 hU5 ⟨_, rfl, h5, rfl⟩
  try rw [List.nil_append]
  obtain ⟨_, rfl, p5, c5, t5, rfl, -⟩ := id h5
  have hg := gro_six (b := 282) (by decide)
  have hg2 := La.gro_le (k := 282) hn
  have hg3 : n * La.gro 282 n ≤ 6 * 164000000 := Nat.mul_le_mul hn (by omega)
  repeat (first | refine run_S ?_ | refine w_box (fun _ => ?_) | refine w_al (fun _ => ?_))
  refine sl_call rfl rfl rfl rfl rfl rfl (fun _ => mKernel_ctg (b := 282) ((kept_m kept_q _ _ _ _ uc h5).w fun i j hi hj => w2.szq (by omega) hi hj) (by decide) (by omega) (by omega) (by omega) (by omega)) ?_
  rintro v6 U6 D6 hU6 ⟨s, Q, p, _, rfl, hQ, rfl, k4, -⟩
  try rw [List.nil_append]
  obtain ⟨_, rfl, p6, c6, t6, rfl, -⟩ := id hQ
  have g4 := (ker_gen k4 w2 (by decide) hn).mono (show 6 * 282 + 1 ≤ 2000 by decide)
  repeat (first | refine run_S ?_ | refine w_box (fun _ => ?_) | refine w_al (fun _ => ?_))
  refine sl_call rfl rfl rfl rfl rfl rfl (fun _ => sspace_ct kept_q (kept_m kept_q _ _ _ _ uc hQ)) ?_
  rintro v7 U7 D7 hU7 ⟨h7, rfl⟩
  try rw [List.nil_append]
  obtain ⟨_, rfl, p7, c7, t7, rfl, -⟩ := id h7
  repeat (first | refine run_S ?_ | refine w_box (fun _ => ?_) | refine w_al (fun _ => ?_))
  refine sk_ret [] sym rfl (.cons (.cell 3 rfl rfl rfl) (.cons (.tmp rfl) .nil)) uc sb (.inl rfl) ?_
  exact ⟨_, s, c, N, Q, p, pn, rfl, h7, k1, k4, g4, rfl⟩

end Go.Proofs.YtocjmbilepbokaaGreat

/- Walks of subspace: maps on invariant subspaces and on quotients, complements. -/
namespace Go.Proofs.YtocjmbilepbokaaGreat
open Go.Hp
variable {G : World} {U U' : UH} {M M' : MH}

theorem ssplit_ct {r n b bv : Nat} {v vv : Value} {B : Nat → Nat → Rat} {q : Nat → Nat} {f : Nat → Rat} (h : Sv (Wq b) r n U v B) (hE : La.Ech r n B q) (hv : Ls (Wq bv) 4 n U [] vv f) (hb1 : 1 ≤ b) (hb : b ≤ 1000000000) (hbv1 : 1 ≤ bv) (hbv : bv ≤ 1000000000) (hn : n ≤ 6) :
    Ct Tryz.prog 64 [v, vv] G U M fun v U' D => ∃ (vc vr : Value), v = .tuple #[vc, vr] ∧ Ls Vq 4 r U' [] vc (fun i => f (q i)) ∧ Ls Vq 4 n U' [] vr (La.prj r B q f) ∧ D = [] :=
  (ssplit_co h hE hv hb1 hb hbv1 hbv hn).settle.mono fun _ _ _ _ ⟨h1, _, _, ⟨vc, vr, _, _, h2, h3, h4, h5, _⟩, _, h7, h8⟩ =>
    ⟨vc, vr, h2, h4.sett kept_q h7 (h3 ▸ h8).right, h5.sett kept_q h7 (h3 ▸ h8).left, h1⟩

theorem sothers_ct {r n b : Nat} {v : Value} {B : Nat → Nat → Rat} {q : Nat → Nat} (h : Sv (Wq b) r n U v B) (hE : La.Ech r n B q) (hb : b ≤ 10000000000) (hn : n ≤ 1000) :
    Ct Tryz.prog 87 [v] G U M fun v U' D => ∃ (m : Nat) (f : Nat → Nat), Ls Vi 1 m U' [] v f ∧ La.Cols r n m q f ∧ m ≤ n ∧ D = [] :=
  (sothers_co h hE hb hn).settle.mono fun _ _ _ _ ⟨h1, _, _, ⟨m, f, h2, h3, h4, _⟩, _, h5, h6⟩ => ⟨m, f, h2.sett kept_i h5 h6, h3, h4, h1⟩

theorem saction_ok {r n b : Nat} {v vt : Value} {B T : Nat → Nat → Rat} {q : Nat → Nat} (h : Sv (Wq b) r n U v B) (hE : La.Ech r n B q) (ht : Vm (Wq b) n n U vt T) (hb1 : 1 ≤ b) (hb : b ≤ 40000) (hn : n ≤ 6) :
    Ct Tryz.prog 97 [v, vt] G U M fun v _ D => v = .int .i64 0 ∧ D = [] := by
  have hnn : n * n ≤ 6 * 6 := Nat.mul_le_mul hn hn
  obtain ⟨_, rfl, pb, cb, bs, rfl, -⟩ := id h
  obtain ⟨_, rfl, pt, ct1, ts, rfl, -⟩ := id ht
  refine ct_of_st Tryz.func97 rfl rfl rfl rfl ?_
  repeat (first | refine run_S ?_ | refine w_box (fun _ => ?_) | refine w_al (fun _ => ?_))
  refine sl_call rfl rfl rfl rfl rfl rfl (fun _ => sCheck_ok (kept_s kept_w _ _ _ _ uc h) hE hb1 hb hn) ?_
  rintro v1 U1 D1 hU1 ⟨rfl, rfl⟩
  try rw [List.nil_append]
  repeat (first | refine run_S ?_ | refine w_box (fun _ => ?_) | refine w_al (fun _ => ?_))
  refine st_ne rfl (fun h => absurd rfl h) (fun _ => ?_)
  repeat (first | refine run_S ?_ | refine w_box (fun _ => ?_) | refine w_al (fun _ => ?_))
  refine sl_call rfl rfl rfl rfl rfl rfl (fun _ => mValid_ct (r := (n : Int)) (c := (n : Int)) (n := n * n) (p := pt) (cc := ct1) (by omega)) ?_
  rintro v U' D hU ⟨rfl, rfl, rfl⟩
  repeat (first | refine run_S ?_ | refine w_box (fun _ => ?_) | refine w_al (fun _ => ?_))
  rw [decide_eq_true (vld_of (by omega) (by omega))]
  repeat (first | refine run_S ?_ | refine w_box (fun _ => ?_) | refine w_al (fun _ => ?_))
  refine sl_gdec rfl rfl (fun h => absurd rfl h) (fun _ => ?_)
  repeat (first | refine run_S ?_ | refine w_box (fun _ => ?_) | refine w_al (fun _ => ?_))
  refine st_ne rfl (fun h => absurd rfl h) (fun _ => ?_)
  repeat (first | refine run_S ?_ | refine w_box (fun _ => ?_) | refine w_al (fun _ => ?_))
  exact sk_ret [] sym rfl (.cons (.tmp rfl) .nil) uc sb (.inl rfl) ⟨rfl, rfl⟩

set_option maxHeartbeats 1000000 in
theorem sRestrict_ok {r n b : Nat} {v vt : Value} {B T : Nat → Nat → Rat} {q : Nat → Nat} (h : Sv (Wq b) r n U v B) (hE : La.Ech r n B q) (ht : Vm (Wq b) n n U vt T) (hb1 : 1 ≤ b) (hb : b ≤ 3000) (hn : n ≤ 6) :
    Ct Tryz.prog 49 [v, vt] G U M fun v U' D => ∃ (vm : Value) (e : Int), v = .tuple #[vm, .int .i64 e] ∧ (e = 0 ∨ e = 13) ∧ (e = 0 ↔ La.Inv r n B T) ∧ (e = 0 → Vm Vq r r U' vm (La.rst n B T q)) ∧ (e = 13 → vm = .agg #[.int .i64 0, .int .i64 0, .slice none 0 0]) ∧ D = [] := by
  have h0 := h
  have hr := Nat.le_trans hE.le_n hn
  have hnm : n * (2 * b + 2) ≤ 6 * (2 * b + 2) := Nat.mul_le_mul_right _ hn
  have sB : ∀ i j, i < r → j < n → Szq (B i j) b := fun i j hi hj => h.sz hb1 hi hj
  have sM := mm_szq (r := r) (m := n) (B := B) (T := T) (fun i j hi hj => h.sz hb1 hi hj) (fun i j hi hj => ht.sz hb1 hi hj) hn
  obtain ⟨_, rfl, pb, cb, bs, rfl, -⟩ := id h
  obtain ⟨_, rfl, pt, ct1, ts, rfl, -⟩ := id ht
  refine ct_of_st Tryz.func49 rfl rfl rfl rfl ?_
  repeat (first | refine run_S ?_ | refine w_box (fun _ => ?_) | refine w_al (fun _ => ?_))
  rename_i b2 b3 b4
  refine sl_call rfl rfl rfl rfl rfl rfl (fun _ => saction_ok (kept_s kept_w _ _ _ _ uc h) hE (kept_m kept_w _ _ _ _ uc ht) hb1 (by omega) hn) ?_
  rintro v1 U1 D1 hU1 ⟨rfl, rfl⟩
  try rw [List.nil_append]
  repeat (first | refine run_S ?_ | refine w_box (fun _ => ?_) | refine w_al (fun _ => ?_))
  refine st_ne rfl (fun h => absurd rfl h) (fun _ => ?_)
  repeat (first | refine run_S ?_ | refine w_box (fun _ => ?_) | refine w_al (fun _ => ?_))
  refine sl_call rfl rfl rfl rfl rfl rfl (fun _ => mMul_ct (b := b) (kept_m kept_w _ _ _ _ uc h.vm) (kept_m kept_w _ _ _ _ uc ht) hb1 (by omega) (by omega) (by omega) (by omega)) ?_
  rintro v2 U2 D2 hU2 ⟨_, rfl, h2, rfl⟩
  try rw [List.nil_append]
  obtain ⟨_, rfl, p2, c2, s2, rfl, -⟩ := id h2
  repeat (first | refine run_S ?_ | refine w_box (fun _ => ?_) | refine w_al (fun _ => ?_))
  rename_i b7
  try refine st_anti (M' := (b7, .var (.agg #[.int .i64 (r : Int), .int .i64 (n : Int), .slice p2 (r * n) c2]), TM) :: (b4, .var (.agg #[.int .i64 0, .int .i64 0, .slice none 0 0]), TM) :: (b3, .var (.agg #[.int .i64 (n : Int), .int .i64 (n : Int), .slice pt (n * n) ct1]), TM) :: (b2, .var (.agg #[.int .i64 (n : Int), .int .i64 (r : Int), .int .i64 (n : Int), .slice pb (r * n) cb]), TS) :: (([]) ++ M)) (ULe.refl _) sbk ?_
  refine st_loop (fun z E U' M' => ∃ (i : Nat) (P : Option Addr) (C : Nat) (vs : List Value) (D : MH), i ≤ r ∧ RowO TRs 1 D P i C vs ∧ El (Vr r) U' vs (La.rst n B T q) ∧ (∀ a, a < i → La.Sp r n B (La.mm n B T a)) ∧ E = [(29, .int .i64 (i : Int)), (28, .int .i64 (r : Int)), (9, .slice P i C), (2, .pointer (some ⟨b2, 0, none⟩)), (4, .pointer (some ⟨b4, 0, none⟩)), (7, .pointer (some ⟨b7, 0, none⟩))] ∧ ULe U2 U' ∧ M' = (b7, .var (.agg #[.int .i64 (r : Int), .int .i64 (n : Int), .slice p2 (r * n) c2]), TM) :: (b4, .var (.agg #[.int .i64 0, .int .i64 0, .slice none 0 0]), TM) :: (b3, .var (.agg #[.int .i64 (n : Int), .int .i64 (n : Int), .slice pt (n * n) ct1]), TM) :: (b2, .var (.agg #[.int .i64 (n : Int), .int .i64 (r : Int), .int .i64 (n : Int), .slice pb (r * n) cb]), TS) :: (D ++ M) ∧ z = r - i) (n0 := r - 0) (E0 := [(29, .int .i64 ((0 : Nat) : Int)), (28, .int .i64 (r : Int)), (9, .slice none 0 0), (2, .pointer (some ⟨b2, 0, none⟩)), (4, .pointer (some ⟨b4, 0, none⟩)), (7, .pointer (some ⟨b7, 0, none⟩))]) ⟨rfl, rfl, rfl, rfl, rfl, rfl, trivial⟩ ⟨0, none, 0, [], [], by omega, RowO.nil, El.nil, fun a ha => absurd ha (Nat.not_lt_zero a), rfl, uc, rfl, rfl⟩ ?_
  rintro z E U3 M' ⟨i, P, C, vs, D, hi, hrow, hel, hsp, rfl, hU3, rfl, rfl⟩
  try refine run_s ?_
  refine st_dec rfl (fun h => ?_) (fun h => ?_)
  · have hir : i < r := by omega
    repeat (first | refine run_S ?_ | refine w_box (fun _ => ?_) | refine w_al (fun _ => ?_))
    refine st_draw [0, 1, 2, 3, 4, 5, 6, 7, 8, 9] sym (by kernel_rfl) ?_
    repeat (first | refine run_S ?_ | refine w_box (fun _ => ?_) | refine w_al (fun _ => ?_))
    refine sl_call rfl rfl rfl rfl rfl rfl (fun _ => srow_ct (b := 12 * b + 7) ((kept_m kept_q _ _ _ _ uc h2).w sM) hir (by omega) (by omega)) ?_
    rintro v3 U3 D3 hU3 ⟨h3, rfl, rfl⟩
    try rw [List.nil_append]
    obtain ⟨p3, c3, s3, rfl, -⟩ := id h3
    repeat (first | refine run_S ?_ | refine w_box (fun _ => ?_) | refine w_al (fun _ => ?_))
    refine sl_call rfl rfl rfl rfl rfl rfl (fun _ => ssplit_ct (kept_s kept_w _ _ _ _ uc h0) hE (Ls.up h3 kept_w uc (List.Sublist.refl _)) hb1 (by omega) (by omega) (by omega) hn) ?_
    rintro v4 U4 D4 hU4 ⟨vc, vr, rfl, hc, hrest, rfl⟩
    try rw [List.nil_append]
    obtain ⟨p4, c4, s4, rfl, -⟩ := id hc
    obtain ⟨p5, c5, s5, rfl, -⟩ := id hrest
    repeat (first | refine run_S ?_ | refine w_box (fun _ => ?_) | refine w_al (fun _ => ?_))
    refine sl_call rfl rfl rfl rfl rfl rfl (fun _ => szero_ct (Ls.up hrest kept_q uc (List.nil_sublist _)) (fun j hj => (szq_prj hr hE.lt sB (sM i · hir) hj).mono (by omega)) (by omega)) ?_
    rintro v5 U5 D5 hU5 ⟨s, rfl, hs, rfl, rfl⟩
    try rw [List.nil_append]
    cases s
    · repeat (first | refine run_S ?_ | refine w_box (fun _ => ?_) | refine w_al (fun _ => ?_))
      exact sk_ret [] sym rfl (.cons (.cell 1 rfl rfl rfl) (.cons (.tmp rfl) .nil)) uc sb (.inl rfl) ⟨_, 13, rfl, .inr rfl, ⟨(fun h => by cases h), fun h => by have := hs.2 ((La.prj_sp hE).2 (h i hir)); cases this⟩, (fun h => by cases h), (fun _ => rfl), rfl⟩
    · repeat (first | refine run_S ?_ | refine w_box (fun _ => ?_) | refine w_al (fun _ => ?_))
      refine w_push hrow (perm4 (D := _)).symm (fun bhr2 phr2 chr2 Dhr2 hr2 => ?_)
      refine sl_perm ?_ (perm4 (D := Dhr2))
      repeat (first | refine run_S ?_ | refine w_box (fun _ => ?_) | refine w_al (fun _ => ?_))
      exact sk_again (E' := [(29, .int .i64 ((i : Int) + 1)), (28, .int .i64 (r : Int)), (9, .slice phr2 (i + 1) chr2), (2, .pointer (some ⟨b2, 0, none⟩)), (4, .pointer (some ⟨b4, 0, none⟩)), (7, .pointer (some ⟨b7, 0, none⟩))]) (m := r - (i + 1)) ⟨rfl, rfl, rfl, rfl, rfl, rfl, trivial⟩ (by omega) ⟨i + 1, phr2, chr2, _, Dhr2, by omega, hr2, snoc_ok hrow.len.1 (hel.up kept_r uc) (kept_r _ _ _ _ uc hc), (fun a ha => by
        rcases Nat.lt_or_eq_of_le (Nat.le_of_lt_succ ha) with h6 | h6
        · exact hsp a h6
        · rw [h6]; exact (La.prj_sp hE).1 (hs.1 rfl)), rfl, uc, rfl, rfl⟩
  · have e : r = i := by omega
    subst e
    repeat (first | refine run_S ?_ | refine w_box (fun _ => ?_) | refine w_al (fun _ => ?_))
    refine sl_call rfl rfl rfl rfl rfl rfl (fun _ => mFromRows_ok (b := 12 * b + 7) (Ls.toWr ((Lo.at ⟨P, C, vs, rfl, hrow, hel⟩ sb).up kept_r uc sb) (fun i j hi hj => sM i _ hi (hE.lt j hj))) (by omega) (by omega) (by omega)) ?_
    rintro v6 U6 D6 hU6 ⟨_, rfl, h6, rfl⟩
    try rw [List.nil_append]
    obtain ⟨_, rfl, p7, c7, s7, rfl, h7⟩ := id h6
    repeat (first | refine run_S ?_ | refine w_box (fun _ => ?_) | refine w_al (fun _ => ?_))
    exact sk_ret [] sym rfl (.cons (.cell 1 rfl rfl rfl) (.cons (.tmp rfl) .nil)) uc sb (.inl rfl) ⟨_, 0, rfl, .inl rfl, ⟨fun _ => hsp, fun _ => rfl⟩, (fun _ => h6), (fun h => by cases h), rfl⟩

theorem sComplement_ok {r n b : Nat} {v : Value} {B : Nat → Nat → Rat} {q : Nat → Nat} (h : Sv (Wq b) r n U v B) (hE : La.Ech r n B q) (hb1 : 1 ≤ b) (hb : b ≤ 40000) (hn : n ≤ 6) :
    Ct Tryz.prog 41 [v] G U M fun v U' D => ∃ (vS : Value) (m : Nat) (f : Nat → Nat), v = .tuple #[vS, .int .i64 0] ∧ Sv Vq m n U' vS (fun k => La.idm (f k)) ∧ La.Cols r n m q f ∧ m ≤ n ∧ D = [] := by
  have s1 : ∀ i j, i < n → j < n → Szq ((La.idm i j : Rat)) 1 := fun i j _ _ => by show Szq (if i = j then (1 : Rat) else 0) 1; split; exact szq_int1; exact szq_int0
  obtain ⟨_, rfl, pb, cb, bs, rfl, -⟩ := id h
  refine ct_of_st Tryz.func41 rfl rfl rfl rfl ?_
  repeat (first | refine run_S ?_ | refine w_box (fun _ => ?_) | refine w_al (fun _ => ?_))
  rename_i b1 b2
  refine sl_call rfl rfl rfl rfl rfl rfl (fun _ => sCheck_ok (kept_s kept_w _ _ _ _ uc h) hE hb1 hb hn) ?_
  rintro v1 U1 D1 hU1 ⟨rfl, rfl⟩
  try rw [List.nil_append]
  repeat (first | refine run_S ?_ | refine w_box (fun _ => ?_) | refine w_al (fun _ => ?_))
  refine st_ne rfl (fun h => absurd rfl h) (fun _ => ?_)
  repeat (first | refine run_S ?_ | refine w_box (fun _ => ?_) | refine w_al (fun _ => ?_))
  refine sl_call rfl rfl rfl rfl rfl rfl (fun _ => mIdentity_ct (n := n) (by omega)) ?_
  rintro v2 U2 D2 hU2 ⟨_, rfl, h2, rfl⟩
  try rw [List.nil_append]
  obtain ⟨_, rfl, p2, c2, s2, rfl, -⟩ := id h2
  repeat (first | refine run_S ?_ | refine w_box (fun _ => ?_) | refine w_al (fun _ => ?_))
  rename_i b5
  refine sl_call rfl rfl rfl rfl rfl rfl (fun _ => sothers_ct (kept_s kept_w _ _ _ _ uc h) hE (by omega) (by omega)) ?_
  rintro v3 U3 D3 hU3 ⟨m, f, ⟨pf, cf, fs, rfl, hcf, rf, ef⟩, hc, hm, rfl⟩
  try rw [List.nil_append]
  repeat (first | refine run_S ?_ | refine w_box (fun _ => ?_) | refine w_al (fun _ => ?_))
  try refine st_anti (M' := (b5, .var (.agg #[.int .i64 (n : Int), .int .i64 (n : Int), .slice p2 (n * n) c2]), TM) :: (b2, .var (.agg #[.int .i64 0, .int .i64 0, .int .i64 0, .slice none 0 0]), TS) :: (b1, .var (.agg #[.int .i64 (n : Int), .int .i64 (r : Int), .int .i64 (n : Int), .slice pb (r * n) cb]), TS) :: (([]) ++ M)) (ULe.refl _) sbk ?_
  refine st_loop (fun z E U' M' => ∃ (i : Nat) (P : Option Addr) (C : Nat) (vs : List Value) (D : MH), i ≤ m ∧ RowO TRs 1 D P i C vs ∧ El (Wr 1 n) U' vs (fun k => La.idm (f k)) ∧ E = [(27, .int .i64 (i : Int)), (26, .int .i64 (m : Int)), (25, .slice pf m cf), (7, .slice P i C), (1, .pointer (some ⟨b1, 0, none⟩)), (2, .pointer (some ⟨b2, 0, none⟩)), (5, .pointer (some ⟨b5, 0, none⟩))] ∧ ULe U3 U' ∧ M' = (b5, .var (.agg #[.int .i64 (n : Int), .int .i64 (n : Int), .slice p2 (n * n) c2]), TM) :: (b2, .var (.agg #[.int .i64 0, .int .i64 0, .int .i64 0, .slice none 0 0]), TS) :: (b1, .var (.agg #[.int .i64 (n : Int), .int .i64 (r : Int), .int .i64 (n : Int), .slice pb (r * n) cb]), TS) :: (D ++ M) ∧ z = m - i) (n0 := m - 0) (E0 := [(27, .int .i64 ((0 : Nat) : Int)), (26, .int .i64 (m : Int)), (25, .slice pf m cf), (7, .slice none 0 0), (1, .pointer (some ⟨b1, 0, none⟩)), (2, .pointer (some ⟨b2, 0, none⟩)), (5, .pointer (some ⟨b5, 0, none⟩))]) ⟨rfl, rfl, rfl, rfl, rfl, rfl, rfl, trivial⟩ ⟨0, none, 0, [], [], by omega, RowO.nil, El.nil, rfl, uc, rfl, rfl⟩ ?_
  rintro z E U4 M' ⟨i, P, C, vs, D, hi, hrow, hel, rfl, hU4, rfl, rfl⟩
  try refine run_s ?_
  refine st_dec rfl (fun h => ?_) (fun h => ?_)
  · have him : i < m := by omega
    have rf2 := rf.up (U' := U4) (M' := (b5, .var (.agg #[.int .i64 (n : Int), .int .i64 (n : Int), .slice p2 (n * n) c2]), TM) :: (b2, .var (.agg #[.int .i64 0, .int .i64 0, .int .i64 0, .slice none 0 0]), TS) :: (b1, .var (.agg #[.int .i64 (n : Int), .int .i64 (r : Int), .int .i64 (n : Int), .slice pb (r * n) cb]), TS) :: (D ++ M)) uc (List.nil_sublist _)
    obtain ⟨v1, hv1⟩ := rf2.at him
    obtain rfl : v1 = .int .i64 (f i : Int) := ef _ _ hv1
    repeat (first | refine run_S ?_ | refine w_box (fun _ => ?_) | refine w_al (fun _ => ?_))
    refine sl_y (yl_index sym rfl rfl rfl rfl rfl rfl (rf2.lt hv1) (rf2.get _ _ hv1).1) rfl rfl rfl rfl ?_; refine sl_y (yl_loadR1 sym rfl rfl rfl rfl rf2 hv1 rfl) rfl rfl rfl rfl ?_
    repeat (first | refine run_S ?_ | refine w_box (fun _ => ?_) | refine w_al (fun _ => ?_))
    refine sl_call rfl rfl rfl rfl rfl rfl (fun _ => srow_ct (b := 1) ((kept_m kept_q _ _ _ _ uc h2).w s1) (hc.lt i him) (by omega) (by omega)) ?_
    rintro v5 U5 D5 hU5 ⟨h5, rfl, rfl⟩
    try rw [List.nil_append]
    obtain ⟨p5, c5, s5, rfl, -⟩ := id h5
    repeat (first | refine run_S ?_ | refine w_box (fun _ => ?_) | refine w_al (fun _ => ?_))
    refine w_push hrow (perm3 (D := _)).symm (fun bhr2 phr2 chr2 Dhr2 hr2 => ?_)
    refine sl_perm ?_ (perm3 (D := Dhr2))
    repeat (first | refine run_S ?_ | refine w_box (fun _ => ?_) | refine w_al (fun _ => ?_))
    exact sk_again (E' := [(27, .int .i64 ((i : Int) + 1)), (26, .int .i64 (m : Int)), (25, .slice pf m cf), (7, .slice phr2 (i + 1) chr2), (1, .pointer (some ⟨b1, 0, none⟩)), (2, .pointer (some ⟨b2, 0, none⟩)), (5, .pointer (some ⟨b5, 0, none⟩))]) (m := m - (i + 1)) ⟨rfl, rfl, rfl, rfl, rfl, rfl, rfl, trivial⟩ (by omega) ⟨i + 1, phr2, chr2, _, Dhr2, by omega, hr2, snoc_ok hrow.len.1 (hel.up kept_wr uc) h5, rfl, uc, rfl, rfl⟩
  · have e : m = i := by omega
    subst e
    repeat (first | refine run_S ?_ | refine w_box (fun _ => ?_) | refine w_al (fun _ => ?_))
    refine sl_call rfl rfl rfl rfl rfl rfl (fun _ => mFromRows_ok (b := 1) ((Lo.at ⟨P, C, vs, rfl, hrow, hel⟩ sb).up kept_wr uc sb) (by decide) (by omega) (by omega)) ?_
    rintro v6 U6 D6 hU6 ⟨_, rfl, h6, rfl⟩
    try rw [List.nil_append]
    obtain ⟨_, rfl, p7, c7, s7, rfl, -⟩ := id h6
    repeat (first | refine run_S ?_ | refine w_box (fun _ => ?_) | refine w_al (fun _ => ?_))
    refine sl_call rfl rfl rfl rfl rfl rfl (fun _ => sspace_ct kept_q (kept_m kept_q _ _ _ _ uc h6)) ?_
    rintro v7 U7 D7 hU7 ⟨h7, rfl⟩
    try rw [List.nil_append]
    obtain ⟨_, rfl, p8, c8, s8, rfl, -⟩ := id h7
    repeat (first | refine run_S ?_ | refine w_box (fun _ => ?_) | refine w_al (fun _ => ?_))
    exact sk_ret [] sym rfl (.cons (.cell 2 rfl rfl rfl) (.cons (.tmp rfl) .nil)) uc sb (.inl rfl) ⟨_, m, f, rfl, h7, hc, hm, rfl⟩

theorem sAnnihilator_ok {r n b : Nat} {v : Value} {B : Nat → Nat → Rat} {q : Nat → Nat} (h : Sv (Wq b) r n U v B) (hE : La.Ech r n B q) (hb1 : 1 ≤ b) (hb : b ≤ 40000) (hn : n ≤ 6) :
    Ct Tryz.prog 42 [v] G U M fun v U' D => ∃ (vS : Value) (s : Nat) (N : Nat → Nat → Rat) (p : Nat → Nat), v = .tuple #[vS, .int .i64 0] ∧ Sv Vq s n U' vS N ∧ La.KerOf n r s (La.tr B) N p ∧ D = [] := by
  obtain ⟨_, rfl, pb, cb, bs, rfl, -⟩ := id h
  refine ct_of_st Tryz.func42 rfl rfl rfl rfl ?_
  repeat (first | refine run_S ?_ | refine w_box (fun _ => ?_) | refine w_al (fun _ => ?_))
  refine sl_call rfl rfl rfl rfl rfl rfl (fun _ => sCheck_ok (kept_s kept_w _ _ _ _ uc h) hE hb1 hb hn) ?_
  rintro v1 U1 D1 hU1 ⟨rfl, rfl⟩
  try rw [List.nil_append]
  repeat (first | refine run_S ?_ | refine w_box (fun _ => ?_) | refine w_al (fun _ => ?_))
  refine st_ne rfl (fun h => absurd rfl h) (fun _ => ?_)
  repeat (first | refine run_S ?_ | refine w_box (fun _ => ?_) | refine w_al (fun _ => ?_))
  refine sl_call rfl rfl rfl rfl rfl rfl (fun _ => sann_ct (kept_s kept_w _ _ _ _ uc h) hE hb1 hb hn) ?_
  rintro v2 U2 D2 hU2 ⟨s, N, p, h2, hk, rfl⟩
  try rw [List.nil_append]
  obtain ⟨_, rfl, p2, c2, s2, rfl, -⟩ := id h2
  repeat (first | refine run_S ?_ | refine w_box (fun _ => ?_) | refine w_al (fun _ => ?_))
  refine sk_ret [] sym rfl (.cons (.cell 0 rfl rfl rfl) (.cons (.tmp rfl) .nil)) uc sb (.inl rfl) ?_
  exact ⟨_, s, N, p, rfl, h2, hk, rfl⟩

set_option maxHeartbeats 1000000 in
theorem sQuotient_ok {r n b : Nat} {v vt : Value} {B T : Nat → Nat → Rat} {q : Nat → Nat} (h : Sv (Wq b) r n U v B) (hE : La.Ech r n B q) (ht : Vm (Wq b) n n U vt T) (hb1 : 1 ≤ b) (hb : b ≤ 3000) (hn : n ≤ 6) :
    Ct Tryz.prog 50 [v, vt] G U M fun v U' D => ∃ (vm : Value) (e : Int), v = .tuple #[vm, .int .i64 e] ∧ (e = 0 ∨ e = 13) ∧ (e = 0 ↔ La.Inv r n B T) ∧ (e = 0 → ∃ (m : Nat) (f : Nat → Nat), La.Cols r n m q f ∧ m ≤ n ∧ Vm Vq m m U' vm (La.quo r B T q f)) ∧ (e = 13 → vm = .agg #[.int .i64 0, .int .i64 0, .slice none 0 0]) ∧ D = [] := by
  have h0 := h
  have hr := Nat.le_trans hE.le_n hn
  have sB : ∀ i j, i < r → j < n → Szq (B i j) b := fun i j hi hj => h.sz hb1 hi hj
  have sT : ∀ i j, i < n → j < n → Szq (T i j) b := fun i j hi hj => ht.sz hb1 hi hj
  have sP : ∀ i, i < n → ∀ j, j < n → Szq (La.prj r B q (T i) j) (14 * b + 8) := fun i hi j hj => (szq_prj (bv := b) (b := b) hr hE.lt sB (sT i · hi) hj).mono (by omega)
  obtain ⟨_, rfl, pb, cb, bs, rfl, -⟩ := id h
  obtain ⟨_, rfl, pt, ct1, ts, rfl, -⟩ := id ht
  refine ct_of_st Tryz.func50 rfl rfl rfl rfl ?_
  repeat (first | refine run_S ?_ | refine w_box (fun _ => ?_) | refine w_al (fun _ => ?_))
  rename_i b2 b3 b4
  refine sl_call rfl rfl rfl rfl rfl rfl (fun _ => sRestrict_ok (kept_s kept_w _ _ _ _ uc h) hE (kept_m kept_w _ _ _ _ uc ht) hb1 hb hn) ?_
  rintro v1 U1 D1 hU1 ⟨vm, e, rfl, he, hs, hy, hno, rfl⟩
  try rw [List.nil_append]
  rcases he with rfl | rfl
  case inr =>
    obtain rfl := hno rfl
    repeat (first | refine run_S ?_ | refine w_box (fun _ => ?_) | refine w_al (fun _ => ?_))
    refine st_ne rfl (fun _ => ?_) (fun h => absurd h (by decide))
    repeat (first | refine run_S ?_ | refine w_box (fun _ => ?_) | refine w_al (fun _ => ?_))
    exact sk_ret [] sym rfl (.cons (.cell 1 rfl rfl rfl) (.cons (.tmp rfl) .nil)) uc sb (.inl rfl) ⟨_, 13, rfl, .inr rfl, hs, (fun h => by cases h), (fun _ => rfl), rfl⟩
  obtain ⟨_, rfl, pmm, cmm, msm, rfl, -⟩ := hy rfl
  have hI := hs.1 rfl
  clear hno hy
  repeat (first | refine run_S ?_ | refine w_box (fun _ => ?_) | refine w_al (fun _ => ?_))
  refine st_ne rfl (fun h => absurd rfl h) (fun _ => ?_)
  refine st_anti (M' := (b4, .var (.agg #[.int .i64 0, .int .i64 0, .slice none 0 0]), TM) :: (b3, .var (.agg #[.int .i64 (n : Int), .int .i64 (n : Int), .slice pt (n * n) ct1]), TM) :: (b2, .var (.agg #[.int .i64 (n : Int), .int .i64 (r : Int), .int .i64 (n : Int), .slice pb (r * n) cb]), TS) :: M) (ULe.refl _) (List.sublist_cons_self ..) ?_
  repeat (first | refine run_S ?_ | refine w_box (fun _ => ?_) | refine w_al (fun _ => ?_))
  refine sl_call rfl rfl rfl rfl rfl rfl (fun _ => sothers_ct (kept_s kept_w _ _ _ _ uc h) hE (by omega) (by omega)) ?_
  rintro v2 U2 D2 hU2 ⟨m, f, ⟨pf, cf, fs, rfl, hcf, rf, ef⟩, hc, hm, rfl⟩
  try rw [List.nil_append]
  repeat (first | refine run_S ?_ | refine w_box (fun _ => ?_) | refine w_al (fun _ => ?_))
  try refine st_anti (M' := (b4, .var (.agg #[.int .i64 0, .int .i64 0, .slice none 0 0]), TM) :: (b3, .var (.agg #[.int .i64 (n : Int), .int .i64 (n : Int), .slice pt (n * n) ct1]), TM) :: (b2, .var (.agg #[.int .i64 (n : Int), .int .i64 (r : Int), .int .i64 (n : Int), .slice pb (r * n) cb]), TS) :: (([]) ++ M)) (ULe.refl _) sbk ?_
  refine st_loop (fun z E U' M' => ∃ (i : Nat) (P : Option Addr) (C : Nat) (vs : List Value) (D : MH), i ≤ m ∧ RowO TRs 1 D P i C vs ∧ El (Vr m) U' vs (La.quo r B T q f) ∧ E = [(31, .int .i64 (i : Int)), (30, .int .i64 (m : Int)), (29, .slice pf m cf), (8, .slice pf m cf), (9, .slice P i C), (2, .pointer (some ⟨b2, 0, none⟩)), (3, .pointer (some ⟨b3, 0, none⟩)), (4, .pointer (some ⟨b4, 0, none⟩))] ∧ ULe U2 U' ∧ M' = (b4, .var (.agg #[.int .i64 0, .int .i64 0, .slice none 0 0]), TM) :: (b3, .var (.agg #[.int .i64 (n : Int), .int .i64 (n : Int), .slice pt (n * n) ct1]), TM) :: (b2, .var (.agg #[.int .i64 (n : Int), .int .i64 (r : Int), .int .i64 (n : Int), .slice pb (r * n) cb]), TS) :: (D ++ M) ∧ z = m - i) (n0 := m - 0) (E0 := [(31, .int .i64 ((0 : Nat) : Int)), (30, .int .i64 (m : Int)), (29, .slice pf m cf), (8, .slice pf m cf), (9, .slice none 0 0), (2, .pointer (some ⟨b2, 0, none⟩)), (3, .pointer (some ⟨b3, 0, none⟩)), (4, .pointer (some ⟨b4, 0, none⟩))]) ⟨rfl, rfl, rfl, rfl, rfl, rfl, rfl, rfl, trivial⟩ ⟨0, none, 0, [], [], by omega, RowO.nil, El.nil, rfl, uc, rfl, rfl⟩ ?_
  rintro z E U3 M' ⟨i, P, C, vs, D, hi, hrow, hel, rfl, hU3, rfl, rfl⟩
  try refine run_s ?_
  refine st_dec rfl (fun h => ?_) (fun h => ?_)
  · have him : i < m := by omega
    have hfn := hc.lt i him
    have rf2 := rf.up (U' := U3) (M' := (b4, .var (.agg #[.int .i64 0, .int .i64 0, .slice none 0 0]), TM) :: (b3, .var (.agg #[.int .i64 (n : Int), .int .i64 (n : Int), .slice pt (n * n) ct1]), TM) :: (b2, .var (.agg #[.int .i64 (n : Int), .int .i64 (r : Int), .int .i64 (n : Int), .slice pb (r * n) cb]), TS) :: (D ++ M)) uc (List.nil_sublist _)
    obtain ⟨v1, hv1⟩ := rf2.at him
    obtain rfl : v1 = .int .i64 (f i : Int) := ef _ _ hv1
    repeat (first | refine run_S ?_ | refine w_box (fun _ => ?_) | refine w_al (fun _ => ?_))
    refine sl_y (yl_index sym rfl rfl rfl rfl rfl rfl (rf2.lt hv1) (rf2.get _ _ hv1).1) rfl rfl rfl rfl ?_; refine sl_y (yl_loadR1 sym rfl rfl rfl rfl rf2 hv1 rfl) rfl rfl rfl rfl ?_
    repeat (first | refine run_S ?_ | refine w_box (fun _ => ?_) | refine w_al (fun _ => ?_))
    refine st_draw [0, 1, 2, 3, 4, 5, 6, 7, 8, 9] sym (by kernel_rfl) ?_
    repeat (first | refine run_S ?_ | refine w_box (fun _ => ?_) | refine w_al (fun _ => ?_))
    refine sl_call rfl rfl rfl rfl rfl rfl (fun _ => srow_ct (b := b) (kept_m kept_w _ _ _ _ uc ht) hfn (by omega) (by omega)) ?_
    rintro v4 U4 D4 hU4 ⟨h4, rfl, rfl⟩
    try rw [List.nil_append]
    obtain ⟨p3, c3, s3, rfl, -⟩ := id h4
    repeat (first | refine run_S ?_ | refine w_box (fun _ => ?_) | refine w_al (fun _ => ?_))
    refine sl_call rfl rfl rfl rfl rfl rfl (fun _ => ssplit_ct (kept_s kept_w _ _ _ _ uc h0) hE (Ls.up h4 kept_w uc (List.Sublist.refl _)) hb1 (by omega) (by omega) (by omega) hn) ?_
    rintro v5 U5 D5 hU5 ⟨vc, vr, rfl, -, hrest, rfl⟩
    try rw [List.nil_append]
    obtain ⟨Q, CQ, qs, rfl, hcQ, rQ, eQ⟩ := id hrest
    repeat (first | refine run_S ?_ | refine w_box (fun _ => ?_) | refine w_al (fun _ => ?_))
    try refine st_anti (M' := (b4, .var (.agg #[.int .i64 0, .int .i64 0, .slice none 0 0]), TM) :: (b3, .var (.agg #[.int .i64 (n : Int), .int .i64 (n : Int), .slice pt (n * n) ct1]), TM) :: (b2, .var (.agg #[.int .i64 (n : Int), .int .i64 (r : Int), .int .i64 (n : Int), .slice pb (r * n) cb]), TS) :: (([]) ++ (D ++ M))) (ULe.refl _) sbk ?_
    refine st_loop (fun z E U' M' => ∃ (d : Nat) (R : Option Addr) (CR : Nat) (ws : List Value) (Dr : MH), d ≤ m ∧ RowO TR 4 Dr R d CR ws ∧ El Vq U' ws (La.quo r B T q f i) ∧ E = [(45, .int .i64 (d : Int)), (44, .int .i64 (m : Int)), (43, .slice pf m cf), (14, .slice R d CR), (13, .slice Q n CQ), (31, .int .i64 (i : Int)), (30, .int .i64 (m : Int)), (29, .slice pf m cf), (8, .slice pf m cf), (9, .slice P i C), (2, .pointer (some ⟨b2, 0, none⟩)), (3, .pointer (some ⟨b3, 0, none⟩)), (4, .pointer (some ⟨b4, 0, none⟩))] ∧ ULe U5 U' ∧ M' = (b4, .var (.agg #[.int .i64 0, .int .i64 0, .slice none 0 0]), TM) :: (b3, .var (.agg #[.int .i64 (n : Int), .int .i64 (n : Int), .slice pt (n * n) ct1]), TM) :: (b2, .var (.agg #[.int .i64 (n : Int), .int .i64 (r : Int), .int .i64 (n : Int), .slice pb (r * n) cb]), TS) :: (Dr ++ (D ++ M)) ∧ z = m - d) (n0 := m - 0) (E0 := [(45, .int .i64 ((0 : Nat) : Int)), (44, .int .i64 (m : Int)), (43, .slice pf m cf), (14, .slice none 0 0), (13, .slice Q n CQ), (31, .int .i64 (i : Int)), (30, .int .i64 (m : Int)), (29, .slice pf m cf), (8, .slice pf m cf), (9, .slice P i C), (2, .pointer (some ⟨b2, 0, none⟩)), (3, .pointer (some ⟨b3, 0, none⟩)), (4, .pointer (some ⟨b4, 0, none⟩))]) ⟨rfl, rfl, rfl, rfl, rfl, rfl, rfl, rfl, rfl, rfl, rfl, rfl, rfl, trivial⟩ ⟨0, none, 0, [], [], by omega, RowO.nil, El.nil, rfl, uc, rfl, rfl⟩ ?_
    rintro z E U6 M' ⟨d, R, CR, ws, Dr, hd, hrr, her, rfl, hU6, rfl, rfl⟩
    try refine run_s ?_
    refine st_dec rfl (fun h => ?_) (fun h => ?_)
    · have hdm : d < m := by omega
      have hfd := hc.lt d hdm
      have rf3 := rf.up (U' := U6) (M' := (b4, .var (.agg #[.int .i64 0, .int .i64 0, .slice none 0 0]), TM) :: (b3, .var (.agg #[.int .i64 (n : Int), .int .i64 (n : Int), .slice pt (n * n) ct1]), TM) :: (b2, .var (.agg #[.int .i64 (n : Int), .int .i64 (r : Int), .int .i64 (n : Int), .slice pb (r * n) cb]), TS) :: (Dr ++ (D ++ M))) uc (List.nil_sublist _)
      obtain ⟨v2, hv2⟩ := rf3.at hdm
      obtain rfl : v2 = .int .i64 (f d : Int) := ef _ _ hv2
      have rQ2 := rQ.up (U' := U6) (M' := (b4, .var (.agg #[.int .i64 0, .int .i64 0, .slice none 0 0]), TM) :: (b3, .var (.agg #[.int .i64 (n : Int), .int .i64 (n : Int), .slice pt (n * n) ct1]), TM) :: (b2, .var (.agg #[.int .i64 (n : Int), .int .i64 (r : Int), .int .i64 (n : Int), .slice pb (r * n) cb]), TS) :: (Dr ++ (D ++ M))) uc (List.nil_sublist _)
      obtain ⟨v3, hv3⟩ := rQ2.at hfd
      obtain ⟨x3, rfl, hx3⟩ := (eQ.up (U' := U6) kept_q uc) _ _ hv3
      repeat (first | refine run_S ?_ | refine w_box (fun _ => ?_) | refine w_al (fun _ => ?_))
      refine sl_y (yl_index sym rfl rfl rfl rfl rfl rfl (rf3.lt hv2) (rf3.get _ _ hv2).1) rfl rfl rfl rfl ?_; refine sl_y (yl_loadR1 sym rfl rfl rfl rfl rf3 hv2 rfl) rfl rfl rfl rfl ?_
      repeat (first | refine run_S ?_ | refine w_box (fun _ => ?_) | refine w_al (fun _ => ?_))
      refine sl_y (yl_index sym rfl rfl rfl rfl rfl rfl (rQ2.lt hv3) (rQ2.get _ _ hv3).1) rfl rfl rfl rfl ?_; refine sl_y (yl_loadRs sym rfl rfl rfl rfl rfl rQ2 hv3) rfl rfl rfl rfl ?_
      repeat (first | refine run_S ?_ | refine w_box (fun _ => ?_) | refine w_al (fun _ => ?_))
      refine w_push hrr (X := (b4, .var (.agg #[.int .i64 0, .int .i64 0, .slice none 0 0]), TM) :: (b3, .var (.agg #[.int .i64 (n : Int), .int .i64 (n : Int), .slice pt (n * n) ct1]), TM) :: (b2, .var (.agg #[.int .i64 (n : Int), .int .i64 (r : Int), .int .i64 (n : Int), .slice pb (r * n) cb]), TS) :: (D ++ M)) pms (fun bq R2 CR2 Dr2 hrr2 => ?_)
      refine sl_perm (M' := (b4, .var (.agg #[.int .i64 0, .int .i64 0, .slice none 0 0]), TM) :: (b3, .var (.agg #[.int .i64 (n : Int), .int .i64 (n : Int), .slice pt (n * n) ct1]), TM) :: (b2, .var (.agg #[.int .i64 (n : Int), .int .i64 (r : Int), .int .i64 (n : Int), .slice pb (r * n) cb]), TS) :: (Dr2 ++ (D ++ M))) ?_ pms
      repeat (first | refine run_S ?_ | refine w_box (fun _ => ?_) | refine w_al (fun _ => ?_))
      exact sk_again (E' := [(45, .int .i64 ((d : Int) + 1)), (44, .int .i64 (m : Int)), (43, .slice pf m cf), (14, .slice R2 (d + 1) CR2), (13, .slice Q n CQ), (31, .int .i64 (i : Int)), (30, .int .i64 (m : Int)), (29, .slice pf m cf), (8, .slice pf m cf), (9, .slice P i C), (2, .pointer (some ⟨b2, 0, none⟩)), (3, .pointer (some ⟨b3, 0, none⟩)), (4, .pointer (some ⟨b4, 0, none⟩))]) (m := m - (d + 1)) ⟨rfl, rfl, rfl, rfl, rfl, rfl, rfl, rfl, rfl, rfl, rfl, rfl, rfl, trivial⟩ (by omega) ⟨d + 1, R2, CR2, _, Dr2, by omega, hrr2, snoc_ok hrr.len.1 her ⟨x3, rfl, hx3⟩, rfl, uc, rfl, rfl⟩
    · have e : m = d := by omega
      subst e
      refine st_perm (M' := Dr ++ ((b4, .var (.agg #[.int .i64 0, .int .i64 0, .slice none 0 0]), TM) :: (b3, .var (.agg #[.int .i64 (n : Int), .int .i64 (n : Int), .slice pt (n * n) ct1]), TM) :: (b2, .var (.agg #[.int .i64 (n : Int), .int .i64 (r : Int), .int .i64 (n : Int), .slice pb (r * n) cb]), TS) :: (D ++ M))) pms ?_
      refine st_settleAll fun U10 hU10 hs10 => ?_
      have hrow3 : Vr m U10 (.slice R m CR) (La.quo r B T q f i) := ⟨R, CR, ws, rfl, hrr.len.2.1, hrr.sett hs10, her.up kept_q uc⟩
      repeat (first | refine run_S ?_ | refine w_box (fun _ => ?_) | refine w_al (fun _ => ?_))
      refine w_push hrow (perm3 (D := _)).symm (fun bhr2 phr2 chr2 Dhr2 hr2 => ?_)
      refine sl_perm ?_ (perm3 (D := Dhr2))
      repeat (first | refine run_S ?_ | refine w_box (fun _ => ?_) | refine w_al (fun _ => ?_))
      exact sk_again (E' := [(31, .int .i64 ((i : Int) + 1)), (30, .int .i64 (m : Int)), (29, .slice pf m cf), (8, .slice pf m cf), (9, .slice phr2 (i + 1) chr2), (2, .pointer (some ⟨b2, 0, none⟩)), (3, .pointer (some ⟨b3, 0, none⟩)), (4, .pointer (some ⟨b4, 0, none⟩))]) (m := m - (i + 1)) ⟨rfl, rfl, rfl, rfl, rfl, rfl, rfl, rfl, trivial⟩ (by omega) ⟨i + 1, phr2, chr2, _, Dhr2, by omega, hr2, snoc_ok hrow.len.1 (hel.up kept_r uc) hrow3, rfl, uc, rfl, rfl⟩
  · have e : m = i := by omega
    subst e
    repeat (first | refine run_S ?_ | refine w_box (fun _ => ?_) | refine w_al (fun _ => ?_))
    refine sl_call rfl rfl rfl rfl rfl rfl (fun _ => mFromRows_ok (b := 14 * b + 8) (Ls.toWr ((Lo.at ⟨P, C, vs, rfl, hrow, hel⟩ sb).up kept_r uc sb) (fun i j hi hj => sP _ (hc.lt i hi) _ (hc.lt j hj))) (by omega) (by omega) (by omega)) ?_
    rintro v11 U11 D11 hU11 ⟨_, rfl, h11, rfl⟩
    try rw [List.nil_append]
    obtain ⟨_, rfl, p7, c7, s7, rfl, h7⟩ := id h11
    repeat (first | refine run_S ?_ | refine w_box (fun _ => ?_) | refine w_al (fun _ => ?_))
    exact sk_ret [] sym rfl (.cons (.cell 0 rfl rfl rfl) (.cons (.tmp rfl) .nil)) uc sb (.inl rfl) ⟨_, 0, rfl, .inl rfl, hs, (fun _ => ⟨m, f, hc, hm, h11⟩), (fun h => by cases h), rfl⟩

end Go.Proofs.YtocjmbilepbokaaGreat

/- Walks of the helpers of layer 10's statements; spaces as they come. -/
namespace Go.Proofs.YtocjmbilepbokaaGreat
open Go.Hp
variable {G : World} {U U' : UH} {M M' : MH}

theorem short10_ct {n c1 : Nat} {p1 : Option Addr} {as1 : List Value} {f : Nat → Rat} (ra : RowAt U M 4 p1 n as1) (ea : El Xq U as1 f) (hn : n ≤ 9223372036854775807) :
    Ct Tryz.prog 18 [.slice p1 n c1] G U M fun v U' D => ∃ b : Bool, v = .bool b ∧ (b = true → El (Wq 1) U as1 f) ∧ U = U' ∧ D = [] := by
  refine ct_of_st Tryz.func18 rfl rfl rfl rfl ?_
  try refine run_s ?_
  refine st_loop (fun z E U' M' => ∃ i : Nat, i ≤ n ∧ (∀ k x, k < i → as1[k]? = some x → Wq 1 U x (f k)) ∧ E = [(3, .int .i64 (i : Int)), (0, .slice p1 n c1)] ∧ U = U' ∧ M = M' ∧ z = n - i) (n0 := n)
    (E0 := [(3, .int .i64 ((0 : Nat) : Int)), (0, .slice p1 n c1)]) ⟨rfl, rfl, trivial⟩ ⟨0, by omega, (fun k x h => absurd h (Nat.not_lt_zero k)), rfl, rfl, rfl, rfl⟩ ?_
  rintro z E U' M' ⟨i, hi, hall, rfl, rfl, rfl, rfl⟩
  try refine run_s ?_
  refine st_dec rfl (fun h => ?_) (fun h => ?_)
  · have hin : i < n := by omega
    obtain ⟨v1, hv1⟩ := ra.at hin
    obtain ⟨x1, rfl, hx1⟩ := ea _ _ hv1
    try refine run_s ?_
    refine w_addr (j := i) hin (ra.get _ _ hv1).1 ?_
    try refine run_s ?_
    refine sl_y (yl_loadRc (j := 1) (u := .slice x1.num.p x1.num.n x1.num.c) sym rfl rfl (by rw [elt_add, elt_add]) rfl rfl ra hv1 rfl) rfl rfl rfl rfl ?_
    try refine run_s ?_
    refine sl_gdec rfl rfl (fun h1 => ?_) (fun h1 => ?_)
    · try refine run_s ?_
      exact sk_ret [] sym rfl (.cons (.tmp rfl) .nil) uc sb (.inl rfl) ⟨false, rfl, (fun h => by cases h), rfl, rfl⟩
    · try refine run_s ?_
      refine w_addr (j := i) hin (ra.get _ _ hv1).1 ?_
      try refine run_s ?_
      refine sl_y (yl_loadRc (j := 3) (u := .slice x1.den.p x1.den.n x1.den.c) sym rfl rfl (by rw [elt_add, elt_add]) rfl rfl ra hv1 rfl) rfl rfl rfl rfl ?_
      try refine run_s ?_
      refine st_dec rfl (fun h2 => ?_) (fun h2 => ?_)
      · try refine run_s ?_
        exact sk_ret [] sym rfl (.cons (.tmp rfl) .nil) uc sb (.inl rfl) ⟨false, rfl, (fun h => by cases h), rfl, rfl⟩
      · try refine run_s ?_
        exact sk_again (E' := [(3, .int .i64 ((i : Int) + 1)), (0, .slice p1 n c1)]) (m := n - (i + 1)) ⟨rfl, rfl, trivial⟩ (by omega)
          ⟨i + 1, by omega, (fun k x hk hx => by
            rcases Nat.lt_or_eq_of_le (Nat.le_of_lt_succ hk) with h3 | h3
            · exact hall k x h3 hx
            · subst h3
              rw [hv1] at hx
              cases hx
              exact ⟨x1, rfl, hx1, ⟨by omega, by omega⟩⟩), rfl, rfl, rfl, rfl⟩
  · have e : i = n := by omega
    subst e
    try refine run_s ?_
    exact sk_ret [] sym rfl (.cons (.tmp rfl) .nil) uc sb (.inl rfl) ⟨true, rfl, (fun _ k x hk => hall k x (ra.lt hk) hk), rfl, rfl⟩

theorem light10_ct {m : Nat} {pl : Option Addr} {cl : Nat} {vs : List Value} {r c : Nat → Int} {n : Nat → Nat} {f : Nat → Nat → Rat} (rl : RowAt U M 3 pl m vs) (hv : ∀ k v, vs[k]? = some v → Raw U v (r k) (c k) (n k) (f k)) (hm2 : m ≤ 100) :
    Ct Tryz.prog 17 [.slice pl m cl] G U M fun v U' D => ∃ b : Bool, v = .bool b ∧ (b = true → ∀ k v, vs[k]? = some v → Lit 6 U v (r k) (c k) (n k) (f k)) ∧ U = U' ∧ D = [] := by
  refine ct_of_st Tryz.func17 rfl rfl rfl rfl ?_
  try refine run_s ?_
  refine st_loop (fun z E U' M' => ∃ i : Nat, i ≤ m ∧ (∀ k v, k < i → vs[k]? = some v → Lit 6 U v (r k) (c k) (n k) (f k)) ∧ E = [(3, .int .i64 (i : Int)), (0, .slice pl m cl)] ∧ U = U' ∧ M = M' ∧ z = m - i) (n0 := m)
    (E0 := [(3, .int .i64 ((0 : Nat) : Int)), (0, .slice pl m cl)]) ⟨rfl, rfl, trivial⟩ ⟨0, by omega, (fun k x h => absurd h (Nat.not_lt_zero k)), rfl, rfl, rfl, rfl⟩ ?_
  rintro z E U' M' ⟨i, hi, hall, rfl, rfl, rfl, rfl⟩
  try refine run_s ?_
  refine st_dec rfl (fun h => ?_) (fun h => ?_)
  · have him : i < m := by omega
    obtain ⟨v1, hv1⟩ := rl.at him
    have hraw := hv _ _ hv1
    obtain ⟨hr, hc, hn, _, rfl, hls⟩ := hraw
    obtain ⟨p1, c1, as1, rfl, hc1, ra, ea⟩ := id hls
    have hp := (rl.get _ _ hv1).1
    try refine run_s ?_
    refine w_addr (j := i) him hp ?_
    try refine run_s ?_
    refine sl_y (yl_loadRc (j := 2) (u := .slice p1 (n i) c1) sym rfl rfl (by rw [elt_add]) rfl rfl rl hv1 rfl) rfl rfl rfl rfl ?_
    try refine run_s ?_
    refine sl_gdec rfl rfl (fun h1 => ?_) (fun h1 => ?_)
    · try refine run_s ?_
      exact sk_ret [] sym rfl (.cons (.tmp rfl) .nil) uc sb (.inl rfl) ⟨false, rfl, (fun h => by cases h), rfl, rfl⟩
    · try refine run_s ?_
      refine sl_y (yl_index sym rfl rfl rfl rfl rfl rfl (rl.lt hv1) (rl.get _ _ hv1).1) rfl rfl rfl rfl ?_; refine sl_y (yl_loadRs sym rfl rfl rfl rfl rfl rl hv1) rfl rfl rfl rfl ?_
      refine sl_call rfl rfl rfl rfl rfl rfl (fun _ => m9Valid_ct (r := r i) (c := c i) (p := p1) (cc := c1) hn) ?_
      rintro v U' D hU ⟨rfl, rfl, rfl⟩
      repeat (first | refine run_S ?_ | refine w_box (fun _ => ?_) | refine w_al (fun _ => ?_))
      by_cases hV : Vld (r i) (c i) (n i)
      · rw [decide_eq_true hV]
        try refine run_s ?_
        refine w_addr (j := i) him hp ?_
        try refine run_s ?_
        refine sl_y (yl_loadRc (j := 0) (u := .int .i64 (r i)) sym rfl rfl (by rw [elt_add]) rfl rfl rl hv1 rfl) rfl rfl rfl rfl ?_
        try refine run_s ?_
        refine sl_gdec rfl rfl (fun h2 => ?_) (fun h2 => ?_)
        · try refine run_s ?_
          exact sk_ret [] sym rfl (.cons (.tmp rfl) .nil) uc sb (.inl rfl) ⟨false, rfl, (fun h => by cases h), rfl, rfl⟩
        · try refine run_s ?_
          refine w_addr (j := i) him hp ?_
          try refine run_s ?_
          refine sl_y (yl_loadRc (j := 1) (u := .int .i64 (c i)) sym rfl rfl (by rw [elt_add]) rfl rfl rl hv1 rfl) rfl rfl rfl rfl ?_
          try refine run_s ?_
          refine sl_gdec rfl rfl (fun h3 => ?_) (fun h3 => ?_)
          · try refine run_s ?_
            exact sk_ret [] sym rfl (.cons (.tmp rfl) .nil) uc sb (.inl rfl) ⟨false, rfl, (fun h => by cases h), rfl, rfl⟩
          · try refine run_s ?_
            refine w_addr (j := i) him hp ?_
            try refine run_s ?_
            refine sl_y (yl_loadRc (j := 2) (u := .slice p1 (n i) c1) sym rfl rfl (by rw [elt_add]) rfl rfl rl hv1 rfl) rfl rfl rfl rfl ?_
            try refine run_s ?_
            refine sl_call rfl rfl rfl rfl rfl rfl (fun _ => short10_ct (ra.ls uc) ea (by omega)) ?_
            rintro v4 U4 D4 hU ⟨b, rfl, hb, rfl, rfl⟩
            cases b
            · try refine run_s ?_
              exact sk_ret [] sym rfl (.cons (.tmp rfl) .nil) uc sb (.inl rfl) ⟨false, rfl, (fun h => by cases h), rfl, rfl⟩
            · try refine run_s ?_
              exact sk_again (E' := [(3, .int .i64 ((i : Int) + 1)), (0, .slice pl m cl)]) (m := m - (i + 1)) ⟨rfl, rfl, trivial⟩ (by omega)
                ⟨i + 1, by omega, (fun k x hk hx => by
                  rcases Nat.lt_or_eq_of_le (Nat.le_of_lt_succ hk) with h3 | h3
                  · exact hall k x h3 hx
                  · subst h3
                    rw [hv1] at hx
                    cases hx
                    have hnb : n k ≤ 6 * 6 := by omega
                    exact ⟨hnb, (fun _ => ⟨by omega, by omega⟩), _, rfl, p1, c1, as1, rfl, hc1, ra, hb rfl⟩), rfl, rfl, rfl, rfl⟩
      · rw [decide_eq_false hV]
        try refine run_s ?_
        refine w_addr (j := i) him hp ?_
        try refine run_s ?_
        refine sl_y (yl_loadRc (j := 2) (u := .slice p1 (n i) c1) sym rfl rfl (by rw [elt_add]) rfl rfl rl hv1 rfl) rfl rfl rfl rfl ?_
        try refine run_s ?_
        refine sl_call rfl rfl rfl rfl rfl rfl (fun _ => short10_ct (ra.ls uc) ea (by omega)) ?_
        rintro v4 U4 D4 hU ⟨b, rfl, hb, rfl, rfl⟩
        cases b
        · try refine run_s ?_
          exact sk_ret [] sym rfl (.cons (.tmp rfl) .nil) uc sb (.inl rfl) ⟨false, rfl, (fun h => by cases h), rfl, rfl⟩
        · try refine run_s ?_
          exact sk_again (E' := [(3, .int .i64 ((i : Int) + 1)), (0, .slice pl m cl)]) (m := m - (i + 1)) ⟨rfl, rfl, trivial⟩ (by omega)
            ⟨i + 1, by omega, (fun k x hk hx => by
              rcases Nat.lt_or_eq_of_le (Nat.le_of_lt_succ hk) with h3 | h3
              · exact hall k x h3 hx
              · subst h3
                rw [hv1] at hx
                cases hx
                have hnb : n k ≤ 6 * 6 := by omega
                exact ⟨hnb, (fun h => absurd h hV), _, rfl, p1, c1, as1, rfl, hc1, ra, hb rfl⟩), rfl, rfl, rfl, rfl⟩
  · have e : i = m := by omega
    subst e
    try refine run_s ?_
    exact sk_ret [] sym rfl (.cons (.tmp rfl) .nil) uc sb (.inl rfl) ⟨true, rfl, (fun _ k v hk => hall k v (rl.lt hk) hk), rfl, rfl⟩

/-- A space as it comes. -/
def RawS (U : UH) (v : Value) (d r c : Int) (n : Nat) (f : Nat → Rat) : Prop :=
  (-9223372036854775808 ≤ d ∧ d ≤ 9223372036854775807) ∧ ∃ a, v = .agg #[.int .i64 d, .int .i64 r, .int .i64 c, a] ∧ Raw U (.agg #[.int .i64 r, .int .i64 c, a]) r c n f
theorem RawS.up {v : Value} {d r c : Int} {n : Nat} {f : Nat → Rat} (h : RawS U v d r c n f) (hU : ULe U U') : RawS U' v d r c n f := by
  obtain ⟨h1, a, h2, h3⟩ := h
  exact ⟨h1, a, h2, h3.up hU⟩
/-- A space whose basis is small. -/
def LitS (U : UH) (v : Value) (d r c : Int) (n : Nat) (f : Nat → Rat) : Prop :=
  ∃ a, v = .agg #[.int .i64 d, .int .i64 r, .int .i64 c, a] ∧ Lit 6 U (.agg #[.int .i64 r, .int .i64 c, a]) r c n f
theorem LitS.up {v : Value} {d r c : Int} {n : Nat} {f : Nat → Rat} (h : LitS U v d r c n f) (hU : ULe U U') : LitS U' v d r c n f := by
  obtain ⟨a, h2, h3⟩ := h
  exact ⟨a, h2, h3.up hU⟩
/-- A space is valid. -/
def VldS (d r c : Int) (n : Nat) (f : Nat → Rat) : Prop := Vld r c n ∧ d = c ∧ ∃ q, La.Ech r.toNat c.toNat (fun i j => f (i * c.toNat + j)) q
theorem VldS.get {v : Value} {d r c : Int} {n : Nat} {f : Nat → Rat} (h : VldS d r c n f) (hl : LitS U v d r c n f) : ∃ (R C : Nat) (q : Nat → Nat), d = (C : Int) ∧ r = (R : Int) ∧ c = (C : Int) ∧ R ≤ 6 ∧ C ≤ 6 ∧ Sv (Wq 1) R C U v (fun i j => f (i * C + j)) ∧ La.Ech R C (fun i j => f (i * C + j)) q := by
  obtain ⟨h1, rfl, q, h2⟩ := h
  obtain ⟨a, rfl, h3⟩ := hl
  obtain ⟨R, C, rfl, rfl, hR, hC, hm⟩ := h3.vm h1
  exact ⟨R, C, q, rfl, rfl, rfl, hR, hC, hm.sv, h2⟩

theorem sCheck_any {v : Value} {d r c : Int} {n : Nat} {f : Nat → Rat} (h : LitS U v d r c n f) :
    Ct Tryz.prog 31 [v] G U M fun v _ D => D = [] ∧ ∃ e : Int, v = .int .i64 e ∧ (e = 0 ∨ e = 3) ∧ (e = 0 ↔ VldS d r c n f) := by
  obtain ⟨a, rfl, hl⟩ := h
  by_cases hV : Vld r c n
  · obtain ⟨R, C, rfl, rfl, hR, hC, hm⟩ := hl.vm hV
    obtain ⟨_, he, p, cc, vs, rfl, -⟩ := id hm
    simp only [Value.agg.injEq, Array.mk.injEq, List.cons.injEq, and_true, true_and] at he
    subst he
    exact (sCheck_ct hm (Nat.le_refl 1) (by decide) (by omega) hC).mono fun _ _ _ _ ⟨h1, e, h2, h3, h4⟩ => ⟨h1, e, h2, h3, h4.trans ⟨fun ⟨h5, h6⟩ => ⟨hV, h5, h6⟩, fun ⟨_, h5, h6⟩ => ⟨h5, h6⟩⟩⟩
  · obtain ⟨hn, -, _, he, p, cc, vs, rfl, -⟩ := hl
    simp only [Value.agg.injEq, Array.mk.injEq, List.cons.injEq, and_true, true_and] at he
    subst he
    refine ct_of_st Tryz.func31 rfl rfl rfl rfl ?_
    repeat (first | refine run_S ?_ | refine w_box (fun _ => ?_) | refine w_al (fun _ => ?_))
    refine sl_call rfl rfl rfl rfl rfl rfl (fun _ => mEchelon_no (r := r) (c := c) (n := n) (p := p) (cc := cc) (by omega) hV) ?_
    rintro v1 U1 D1 hU1 ⟨rfl, r1, c1, p1, n1, cc1, p2, n2, c2, rfl⟩
    try rw [List.nil_append]
    repeat (first | refine run_S ?_ | refine w_box (fun _ => ?_) | refine w_al (fun _ => ?_))
    refine sl_gdec rfl rfl (fun _ => ?_) (fun h => absurd (by decide) h)
    repeat (first | refine run_S ?_ | refine w_box (fun _ => ?_) | refine w_al (fun _ => ?_))
    exact sk_ret [] sym rfl (.cons (.tmp rfl) .nil) uc sb (.inl rfl) ⟨rfl, 3, rfl, .inr rfl, (fun h => by cases h), fun h => absurd h.1 hV⟩

theorem r10Valid_any {v : Value} {d r c : Int} {n : Nat} {f : Nat → Rat} (h : LitS U v d r c n f) :
    Ct Tryz.prog 21 [v] G U M fun v _ D => D = [] ∧ ∃ s : Bool, v = .bool s ∧ (s = true ↔ VldS d r c n f) := by
  obtain ⟨a, rfl, hl⟩ := h
  by_cases hV : Vld r c n
  · obtain ⟨R, C, rfl, rfl, hR, hC, hm⟩ := hl.vm hV
    obtain ⟨_, he, p, cc, vs, rfl, -⟩ := id hm
    simp only [Value.agg.injEq, Array.mk.injEq, List.cons.injEq, and_true, true_and] at he
    subst he
    exact (r10Valid_ct hm hR hC).mono fun _ _ _ _ ⟨h1, e, h2, h4⟩ => ⟨h1, e, h2, h4.trans ⟨fun ⟨h5, h6⟩ => ⟨hV, h5, h6⟩, fun ⟨_, h5, h6⟩ => ⟨h5, h6⟩⟩⟩
  · obtain ⟨hn, -, _, he, p, cc, vs, rfl, -⟩ := hl
    simp only [Value.agg.injEq, Array.mk.injEq, List.cons.injEq, and_true, true_and] at he
    subst he
    refine ct_of_st Tryz.func21 rfl rfl rfl rfl ?_
    repeat (first | refine run_S ?_ | refine w_box (fun _ => ?_) | refine w_al (fun _ => ?_))
    refine sl_call rfl rfl rfl rfl rfl rfl (fun _ => m9Valid_ct (r := r) (c := c) (p := p) (cc := cc) (n := n) (by omega)) ?_
    rintro v U' D hU ⟨rfl, rfl, rfl⟩
    repeat (first | refine run_S ?_ | refine w_box (fun _ => ?_) | refine w_al (fun _ => ?_))
    rw [decide_eq_false hV]
    repeat (first | refine run_S ?_ | refine w_box (fun _ => ?_) | refine w_al (fun _ => ?_))
    exact sk_ret [] sym rfl (.cons (.tmp rfl) .nil) uc sb (.inl rfl) ⟨rfl, false, rfl, (fun h => by cases h), fun h => absurd h.1 hV⟩

end Go.Proofs.YtocjmbilepbokaaGreat

/- Walks of the helpers of layer 10's statements: fit and awake. -/
namespace Go.Proofs.YtocjmbilepbokaaGreat
open Go.Hp
variable {G : World} {U U' : UH} {M M' : MH}

end Go.Proofs.YtocjmbilepbokaaGreat
