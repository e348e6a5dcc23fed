/- Texts of this seat's own, merged: each begins with its own remark. -/
import Derived.Test.YtpigpikhjlmdoaaGreatB172
import Derived.Test.YtpigpikhjlmdoaaGreatM42
import Derived.Test.YtpigpikhjlmdoaaGreatM22
import Derived.Test.YtpigpikhjlmdoaaGreatRf
import Derived.Test.YtpigpikhjlmdoaaGreatM19
import Derived.Test.YtpigpikhjlmdoaaGreatM34
/- Walks of layer 13: matrices of fractions reduced modulo a prime, by the program and by the reference. -/
namespace Go.Proofs.YtpigpikhjlmdoaaGreat
open Go.Hp
open Go.Fq (Pm Fp Prm)
variable {G : World} {U U' : UH} {M : MH}

abbrev zFM : Value := .agg #[.int .i64 0, .int .i64 0, .slice none 0 0]

theorem modP_get {z : Int} (h : modP z = true) : ∃ P : Pm, z = (P.1 : Int) ∧ P.1 ≤ 65521 := by
  unfold modP at h
  split at h
  · obtain ⟨h1, h2⟩ := isP_iff.1 h
    refine ⟨⟨z.toNat, h2⟩, by show z = ((z.toNat : Nat) : Int); omega, by show z.toNat ≤ 65521; omega⟩
  · cases h
end Go.Proofs.YtpigpikhjlmdoaaGreat

/- Walks of the reference of layer 13: rows of residues, products. -/
namespace Go.Proofs.YtpigpikhjlmdoaaGreat
open Go.Hp
open Go.Fq (Pm Fp Prm)
variable {G : World} {U U' : UH} {M : MH}

theorem z13Rows_co {P : Pm} {r c : Nat} {vm : Value} {A : Nat → Nat → Int} (hm : Vmm Vz r c U M vm A) (hp : P.1 ≤ 65536) (hr : r ≤ 100000) (hc : c ≤ 100000) (hrc : r * c ≤ 100000000) :
    Ct Tryz.prog 22 [.int .i64 (P.1 : Int), vm] G U M fun v U' D => Goz (Vf P) zO r c U' D v (Ofm P A) ∧ ULe U U' := by
  have hp2 := P.2.two
  obtain ⟨_, rfl, p, cc, as1, rfl, -, rw1, el⟩ := hm
  refine ct_of_st Tryz.func22 rfl rfl rfl rfl ?_
  repeat (first | refine run_S ?_ | refine w_box (fun _ => ?_) | refine w_al (fun _ => ?_))
  rename_i b3
  try refine st_anti (M' := (b3, .var (.agg #[.int .i64 (r : Int), .int .i64 (c : Int), .slice p (r * c) cc]), TF) :: (([]) ++ (([]).flatten ++ M))) (ULe.refl _) sbk ?_
  refine st_loop (fun z E U' M' => ∃ (i : Nat) (Q : Option Addr) (C : Nat) (svs : List Value) (Do : MH) (F : List MH), i ≤ r ∧ RowO TIs 1 Do Q i C svs ∧ Gz (Vf P) zO c U' svs F (Ofm P A) ∧ E = [(6, .int .i64 (i : Int)), (5, .slice Q i C), (3, .pointer (some ⟨b3, 0, none⟩)), (0, .int .i64 (P.1 : Int))] ∧ ULe U U' ∧ M' = (b3, .var (.agg #[.int .i64 (r : Int), .int .i64 (c : Int), .slice p (r * c) cc]), TF) :: (Do ++ (F.flatten ++ M)) ∧ z = r - i) (n0 := r - 0) (E0 := [(6, .int .i64 ((0 : Nat) : Int)), (5, .slice none 0 0), (3, .pointer (some ⟨b3, 0, none⟩)), (0, .int .i64 (P.1 : Int))]) ⟨rfl, rfl, rfl, rfl, trivial⟩ ⟨0, none, 0, [], [], [], by omega, RowO.nil, Gz.nil, rfl, uc, rfl, rfl⟩ ?_
  rintro z E U1 M' ⟨i, Q, C, svs, Do, F, hi, hrow, hg, rfl, hU1, rfl, rfl⟩
  try refine run_s ?_
  refine st_dec rfl (fun h => ?_) (fun h => ?_)
  · have hir : i < r := by omega
    try refine run_s ?_
    try refine st_anti (M' := (b3, .var (.agg #[.int .i64 (r : Int), .int .i64 (c : Int), .slice p (r * c) cc]), TF) :: (([]) ++ (Do ++ (F.flatten ++ M)))) (ULe.refl _) sbk ?_
    refine st_loop (fun z E U' M' => ∃ (j : Nat) (q : Option Addr) (c' : Nat) (us : List Value) (Dr : MH), j ≤ c ∧ RowO TInt 1 Dr q j c' us ∧ El (Vf P) U' us (Ofm P A i) ∧ E = [(8, .int .i64 (j : Int)), (7, .slice q j c'), (6, .int .i64 (i : Int)), (5, .slice Q i C), (3, .pointer (some ⟨b3, 0, none⟩)), (0, .int .i64 (P.1 : Int))] ∧ ULe U1 U' ∧ M' = (b3, .var (.agg #[.int .i64 (r : Int), .int .i64 (c : Int), .slice p (r * c) cc]), TF) :: (Dr ++ (Do ++ (F.flatten ++ M))) ∧ z = c - j) (n0 := c - 0) (E0 := [(8, .int .i64 ((0 : Nat) : Int)), (7, .slice none 0 0), (6, .int .i64 (i : Int)), (5, .slice Q i C), (3, .pointer (some ⟨b3, 0, none⟩)), (0, .int .i64 (P.1 : Int))]) ⟨rfl, rfl, rfl, rfl, rfl, rfl, trivial⟩ ⟨0, none, 0, [], [], by omega, RowO.nil, El.nil, rfl, uc, rfl, rfl⟩ ?_
    rintro z E U2 M' ⟨j, q, c', us, Dr, hj, hrow2, hel, rfl, hU2, rfl, rfl⟩
    try refine run_s ?_
    refine st_dec rfl (fun h2 => ?_) (fun h2 => ?_)
    · have hjc : j < c := by omega
      have hlt := ij_lt hir hjc
      obtain ⟨v1, hv1⟩ := rw1.at hlt
      obtain ⟨rfl, hz⟩ := el _ _ hv1
      rw [fl_at hjc] at hv1
      try refine run_s ?_
      refine sl_y (yl_index sym rfl rfl rfl rfl rfl ( by omega) ((rw1.up uc sb).lt hv1) ((rw1.up uc sb).get _ _ hv1).1) rfl rfl rfl rfl ?_; refine sl_y (yl_loadR1 sym rfl rfl rfl rfl (rw1.up uc sb) hv1 rfl) rfl rfl rfl rfl ?_
      try refine run_s ?_
      refine sl_call rfl rfl rfl rfl rfl rfl (fun _ => z3Mod_ct (z := A i j) (m := (P.1 : Int)) (by omega) (by omega)) ?_
      rintro v U' D hU ⟨rfl, rfl, rfl⟩
      repeat (first | refine run_S ?_ | refine w_box (fun _ => ?_) | refine w_al (fun _ => ?_))
      refine w_push hrow2 (X := (b3, .var (.agg #[.int .i64 (r : Int), .int .i64 (c : Int), .slice p (r * c) cc]), TF) :: (Do ++ (F.flatten ++ M))) pfs (fun b q2 c2 D2 hr2 => ?_)
      refine sl_perm (M' := (b3, .var (.agg #[.int .i64 (r : Int), .int .i64 (c : Int), .slice p (r * c) cc]), TF) :: (D2 ++ (Do ++ (F.flatten ++ M)))) ?_ pf
      try refine run_s ?_
      exact sk_again (E' := [(8, .int .i64 ((j : Int) + 1)), (7, .slice q2 (j + 1) c2), (6, .int .i64 (i : Int)), (5, .slice Q i C), (3, .pointer (some ⟨b3, 0, none⟩)), (0, .int .i64 (P.1 : Int))]) (m := c - (j + 1)) ⟨rfl, rfl, rfl, rfl, rfl, rfl, trivial⟩ (by omega) ⟨j + 1, q2, c2, _, D2, by omega, hr2, snoc_ok hrow2.len.1 (hel.up KeptC.out uc) (by show _ = Value.int .i64 (((Fq.of P (A i j)).v : Nat) : Int); rw [Fq.of_val]), rfl, uc, rfl, rfl⟩
    · obtain rfl : c = j := by omega
      try refine run_s ?_
      refine w_push hrow (X := (b3, .var (.agg #[.int .i64 (r : Int), .int .i64 (c : Int), .slice p (r * c) cc]), TF) :: (Dr ++ (F.flatten ++ M))) pfs (fun b2 P2 C2 D2 hr2 => ?_)
      refine sl_perm (M' := (b3, .var (.agg #[.int .i64 (r : Int), .int .i64 (c : Int), .slice p (r * c) cc]), TF) :: (D2 ++ (Dr ++ (F.flatten ++ M)))) ?_ pf
      try refine run_s ?_
      refine sk_perm (M' := (b3, .var (.agg #[.int .i64 (r : Int), .int .i64 (c : Int), .slice p (r * c) cc]), TF) :: (D2 ++ ((F ++ [Dr]).flatten ++ M))) pf ?_
      exact sk_again (E' := [(6, .int .i64 ((i : Int) + 1)), (5, .slice P2 (i + 1) C2), (3, .pointer (some ⟨b3, 0, none⟩)), (0, .int .i64 (P.1 : Int))]) (m := r - (i + 1)) ⟨rfl, rfl, rfl, rfl, trivial⟩ (by omega) ⟨i + 1, P2, C2, _, D2, F ++ [Dr], by omega, hr2, (hg.up uc).snoc hrow.len.1 hrow2.len.2.1 hrow2 hel, rfl, uc, rfl, rfl⟩
  · obtain rfl : i = r := by omega
    try refine run_s ?_
    exact sk_ret (Do ++ F.flatten) sym rfl (.cons (.tmp rfl) .nil) uc sb (.inl rfl) ⟨⟨Do, F, _, _, svs, rfl, rfl, hrow, hg⟩, uc⟩
theorem z13Rows_ct {P : Pm} {r c : Nat} {vm : Value} {A : Nat → Nat → Int} (hm : Vmm Vz r c U M vm A) (hp : P.1 ≤ 65536) (hr : r ≤ 100000) (hc : c ≤ 100000) (hrc : r * c ≤ 100000000) :
    Ct Tryz.prog 22 [.int .i64 (P.1 : Int), vm] G U M fun v U' D => Ls (Vrs (Vf P) c) 1 r U' [] v (Ofm P A) ∧ D = [] :=
  ct_setgz (z13Rows_co hm hp hr hc hrc)

theorem z13Of_ct {P : Pm} {r c : Nat} {vg : Value} {A : Nat → Nat → Fp P} (hg : Lgz (Vf P) r c U M vg A) (hr : r ≤ 100000) (hrc : r * c ≤ 100000000) :
    Ct Tryz.prog 23 [.int .i64 (c : Int), vg] G U M fun v U' D => Vmz (Vf P) r c U' v A ∧ D = [] := by
  refine ct_setmz ?_
  obtain ⟨p, cc, svs, rfl, -, rw1, el⟩ := hg
  refine ct_of_st Tryz.func23 rfl rfl rfl rfl ?_
  repeat (first | refine run_S ?_ | refine w_box (fun _ => ?_) | refine w_al (fun _ => ?_))
  rename_i b4 b5
  try refine st_anti (M' := (b5, .var (.agg #[.int .i64 (r : Int), .int .i64 (c : Int), .slice none 0 0]), TF) :: (b4, .var zFM, TF) :: (([]) ++ M)) (ULe.refl _) sbk ?_
  refine st_loop (fun z E U' M' => ∃ (i X : Nat) (Q : Option Addr) (C : Nat) (us : List Value) (D : MH), X = i * c ∧ i ≤ r ∧ RowO TInt 1 D Q X C us ∧ El (Vf P) U' us (fl c A) ∧ E = [(6, .int .i64 (i : Int)), (1, .slice p r cc), (5, .pointer (some ⟨b5, 0, none⟩)), (4, .pointer (some ⟨b4, 0, none⟩))] ∧ ULe U U' ∧ M' = (b5, .var (.agg #[.int .i64 (r : Int), .int .i64 (c : Int), .slice Q X C]), TF) :: (b4, .var zFM, TF) :: (D ++ M) ∧ z = r - i) (n0 := r - 0) (E0 := [(6, .int .i64 ((0 : Nat) : Int)), (1, .slice p r cc), (5, .pointer (some ⟨b5, 0, none⟩)), (4, .pointer (some ⟨b4, 0, none⟩))]) ⟨rfl, rfl, rfl, rfl, trivial⟩ ⟨0, 0, none, 0, [], [], (Nat.zero_mul c).symm, by omega, RowO.nil, El.nil, rfl, uc, rfl, rfl⟩ ?_
  rintro z E U1 M' ⟨i, X, Q, C, us, D, hX, hi, hrow, hel, rfl, hU1, rfl, rfl⟩
  try refine run_s ?_
  refine st_dec rfl (fun h => ?_) (fun h => ?_)
  · have hir : i < r := by omega
    have hlt : i * c + c ≤ r * c := by
      have := Nat.mul_le_mul_right c (show i + 1 ≤ r by omega)
      rwa [Nat.add_mul, Nat.one_mul] at this
    obtain ⟨v1, hv1⟩ := rw1.at hir
    obtain ⟨p2, c2, us2, rfl, -, rw2, el2⟩ := el _ _ hv1
    try refine run_s ?_
    refine st_drawM [6, 7, 8] [0, 1, 2, 3, 4, 5, 6, 7, 8] sym (by kernel_rfl) ?_
    try refine run_s ?_
    refine sl_y (yl_index sym rfl rfl rfl rfl rfl rfl ((rw1.up uc sb).lt hv1) ((rw1.up uc sb).get _ _ hv1).1) rfl rfl rfl rfl ?_; refine sl_y (yl_loadR1 sym rfl rfl rfl rfl (rw1.up uc sb) hv1 rfl) rfl rfl rfl rfl ?_
    try refine run_s ?_
    refine w_app (X := (b5, .var (.agg #[.int .i64 (r : Int), .int .i64 (c : Int), .slice Q X C]), TF) :: (b4, .var zFM, TF) :: M) hrow pf (rw2.up uc sb) (El.ones el2 fun _ _ h => one_f h) (fun p3 c3 D3 hr3 => ?_)
    refine sl_perm ?_ (perm2 (D := D3))
    try refine run_s ?_
    refine sl_storeF 0 sym rfl rfl rfl rfl rfl rfl rfl rfl rfl rfl rfl ?_
    try refine run_s ?_
    exact sk_again (E' := [(6, .int .i64 ((i : Int) + 1)), (1, .slice p r cc), (5, .pointer (some ⟨b5, 0, none⟩)), (4, .pointer (some ⟨b4, 0, none⟩))]) (m := r - (i + 1)) ⟨rfl, rfl, rfl, rfl, trivial⟩ (by omega) ⟨i + 1, X + c, p3, c3, _, D3, by rw [hX, Nat.add_mul, Nat.one_mul], by omega, hr3, app_ok hrow.len.1 (hel.up KeptC.out uc) (fun k x hk => by rw [hX, fl_at (rw2.lt hk)]; exact el2 k x hk), rfl, uc, rfl, rfl⟩
  · obtain rfl : i = r := by omega
    subst hX
    repeat (first | refine run_S ?_ | refine w_box (fun _ => ?_) | refine w_al (fun _ => ?_))
    exact sk_ret D sym rfl (.cons (.cell 1 rfl rfl rfl) .nil) uc sb (.inl rfl) ⟨⟨_, rfl, Q, C, us, rfl, hrow, hel⟩, uc⟩

theorem z13Combine_ct {P : Pm} {n : Nat} {vx vy : Value} {f g : Nat → Fp P} {a : Fp P} (hx : Ls (Vf P) 1 n U M vx f) (hy : Ls (Vf P) 1 n U M vy g) (hp : P.1 ≤ 65536) (hn : n ≤ 1000000) :
    Ct Tryz.prog 60 [.int .i64 (P.1 : Int), vx, .int .i64 (a.v : Int), vy] G U M fun v U' D => Vrs (Vf P) n U' v (fun j => f j + a * g j) ∧ D = [] := by
  have hp2 := P.2.two
  refine Ct.setl (e := TInt) ?_ KeptC.out
  obtain ⟨px, cx, xs, rfl, -, rx, ex⟩ := hx
  obtain ⟨py, cy, ys, rfl, -, ry, ey⟩ := hy
  refine ct_of_st Tryz.func60 rfl rfl rfl rfl ?_
  repeat (first | refine run_S ?_ | refine w_box (fun _ => ?_) | refine w_al (fun _ => ?_))
  try refine st_anti (M' := ([]) ++ M) (ULe.refl _) sbk ?_
  refine st_loop (fun z E U' M' => ∃ (i : Nat) (Q : Option Addr) (C : Nat) (us : List Value) (D : MH), i ≤ n ∧ RowO TInt 1 D Q i C us ∧ El (Vf P) U' us (fun j => f j + a * g j) ∧ E = [(10, .int .i64 (i : Int)), (9, .slice Q i C), (0, .int .i64 (P.1 : Int)), (1, .slice px n cx), (2, .int .i64 (a.v : Int)), (3, .slice py n cy)] ∧ ULe U U' ∧ M' = D ++ M ∧ z = n - i) (n0 := n - 0) (E0 := [(10, .int .i64 ((0 : Nat) : Int)), (9, .slice none 0 0), (0, .int .i64 (P.1 : Int)), (1, .slice px n cx), (2, .int .i64 (a.v : Int)), (3, .slice py n cy)]) ⟨rfl, rfl, rfl, rfl, rfl, rfl, trivial⟩ ⟨0, none, 0, [], [], by omega, RowO.nil, El.nil, rfl, uc, rfl, rfl⟩ ?_
  rintro z E U1 M' ⟨i, Q, C, us, D, hi, hrow, hel, rfl, hU1, rfl, rfl⟩
  try refine run_s ?_
  refine st_dec rfl (fun h => ?_) (fun h => ?_)
  · have hin : i < n := by omega
    obtain ⟨v1, hv1⟩ := rx.at hin
    obtain ⟨v2, hv2⟩ := ry.at hin
    obtain rfl := ex _ _ hv1
    obtain rfl := ey _ _ hv2
    have hb := fp_bd a (g i) (by omega)
    have hb2 := a.lt
    have hb3 := (f i).lt
    try refine run_s ?_
    refine st_drawM [14, 15, 16] [0, 1, 2, 3, 4, 5, 6, 7, 8, 9, 10, 11, 12, 13, 14, 15, 16] sym (by kernel_rfl) ?_
    try refine run_s ?_
    refine sl_y (yl_index sym rfl rfl rfl rfl rfl rfl ((rx.up uc sb).lt hv1) ((rx.up uc sb).get _ _ hv1).1) rfl rfl rfl rfl ?_; refine sl_y (yl_loadR1 sym rfl rfl rfl rfl (rx.up uc sb) hv1 rfl) rfl rfl rfl rfl ?_
    try refine run_s ?_
    refine sl_y (yl_index sym rfl rfl rfl rfl rfl rfl ((ry.up uc sb).lt hv2) ((ry.up uc sb).get _ _ hv2).1) rfl rfl rfl rfl ?_; refine sl_y (yl_loadR1 sym rfl rfl rfl rfl (ry.up uc sb) hv2 rfl) rfl rfl rfl rfl ?_
    try refine run_s ?_
    refine sl_y (yl_fplus (x := f i) (f := a) (y := g i) rfl rfl rfl hp) rfl rfl rfl rfl ?_
    refine w_push hrow (X := M) (List.Perm.refl _) (fun b p2 c2 D2 hr2 => ?_)
    try refine run_s ?_
    exact sk_again (E' := [(10, .int .i64 ((i : Int) + 1)), (9, .slice p2 (i + 1) c2), (0, .int .i64 (P.1 : Int)), (1, .slice px n cx), (2, .int .i64 (a.v : Int)), (3, .slice py n cy)]) (m := n - (i + 1)) ⟨rfl, rfl, rfl, rfl, rfl, rfl, trivial⟩ (by omega) ⟨i + 1, p2, c2, _, D2, by omega, hr2, snoc_ok hrow.len.1 (hel.up KeptC.out uc) rfl, rfl, uc, rfl, rfl⟩
  · obtain rfl : i = n := by omega
    try refine run_s ?_
    exact sk_ret D sym rfl (.cons (.tmp rfl) .nil) uc sb (.inl rfl) ⟨⟨_, _, us, rfl, hrow, hel⟩, uc⟩
end Go.Proofs.YtpigpikhjlmdoaaGreat

/- Walks of the reference of layer 13: products, valid matrices. -/
namespace Go.Proofs.YtpigpikhjlmdoaaGreat
open Go.Hp
open Go.Fq (Pm Fp Prm)
variable {G : World} {U U' : UH} {M : MH}

theorem z13Mul_ct {P : Pm} {r k c : Nat} {va vb : Value} {A B : Nat → Nat → Int} (ha : Vmm Vz r k U M va A) (hb : Vmm Vz k c U M vb B) (hp : P.1 ≤ 65536) (hr : r ≤ 1000) (hk : k ≤ 1000) (hc : c ≤ 1000) :
    Ct Tryz.prog 17 [.int .i64 (P.1 : Int), va, vb] G U M fun v U' D => Vmz (Vf P) r c U' v (La.mm k (Ofm P A) (Ofm P B)) ∧ D = [] := by
  have hp2 := P.2.two
  have h1 : r * k ≤ 1000 * 1000 := Nat.mul_le_mul hr hk
  have h2 : k * c ≤ 1000 * 1000 := Nat.mul_le_mul hk hc
  have h3 : r * c ≤ 1000 * 1000 := Nat.mul_le_mul hr hc
  have ha2 := ha
  have hb2 := hb
  obtain ⟨_, rfl, pa, ca, xa, rfl, -⟩ := ha
  obtain ⟨_, rfl, pb, cb, xb, rfl, -⟩ := hb
  refine ct_of_st Tryz.func17 rfl rfl rfl rfl ?_
  repeat (first | refine run_S ?_ | refine w_box (fun _ => ?_) | refine w_al (fun _ => ?_))
  rename_i b4 b5 b6
  refine st_drawM [5, 6, 7] [0, 1, 3, 4, 2, 5, 6, 7] sym (by kernel_rfl) ?_
  repeat (first | refine run_S ?_ | refine w_box (fun _ => ?_) | refine w_al (fun _ => ?_))
  refine sl_call rfl rfl rfl rfl rfl rfl (fun _ => z13Rows_ct (P := P) (ha2.up uc sb) hp (by omega) (by omega) (by omega)) ?_
  rintro v3 U3 D3 hU3 ⟨⟨px, cx, xs, rfl, -, rx, ex⟩, rfl⟩
  try rw [List.nil_append]
  repeat (first | refine run_S ?_ | refine w_box (fun _ => ?_) | refine w_al (fun _ => ?_))
  refine sl_call rfl rfl rfl rfl rfl rfl (fun _ => z13Rows_ct (P := P) (hb2.up uc sb) hp (by omega) (by omega) (by omega)) ?_
  rintro v4 U4 D4 hU4 ⟨⟨py, cy, ys, rfl, -, ry, ey⟩, rfl⟩
  try rw [List.nil_append]
  repeat (first | refine run_S ?_ | refine w_box (fun _ => ?_) | refine w_al (fun _ => ?_))
  try refine st_anti (M' := (b6, .var zFM, TF) :: (b5, .var (.agg #[.int .i64 (k : Int), .int .i64 (c : Int), .slice pb (k * c) cb]), TF) :: (b4, .var (.agg #[.int .i64 (r : Int), .int .i64 (k : Int), .slice pa (r * k) ca]), TF) :: (([]) ++ M)) (ULe.refl _) sbk ?_
  refine st_loop (fun z E U' M' => ∃ (i : Nat) (Q : Option Addr) (C : Nat) (us : List Value) (D : MH), i ≤ r ∧ RowO TIs 1 D Q i C us ∧ El (Vrs (Vf P) c) U' us (La.mm k (Ofm P A) (Ofm P B)) ∧ E = [(10, .int .i64 (i : Int)), (9, .slice Q i C), (7, .slice px r cx), (8, .slice py k cy), (6, .pointer (some ⟨b6, 0, none⟩)), (5, .pointer (some ⟨b5, 0, none⟩)), (4, .pointer (some ⟨b4, 0, none⟩)), (0, .int .i64 (P.1 : Int))] ∧ ULe U4 U' ∧ M' = (b6, .var zFM, TF) :: (b5, .var (.agg #[.int .i64 (k : Int), .int .i64 (c : Int), .slice pb (k * c) cb]), TF) :: (b4, .var (.agg #[.int .i64 (r : Int), .int .i64 (k : Int), .slice pa (r * k) ca]), TF) :: (D ++ M) ∧ z = r - i) (n0 := r - 0) (E0 := [(10, .int .i64 ((0 : Nat) : Int)), (9, .slice none 0 0), (7, .slice px r cx), (8, .slice py k cy), (6, .pointer (some ⟨b6, 0, none⟩)), (5, .pointer (some ⟨b5, 0, none⟩)), (4, .pointer (some ⟨b4, 0, none⟩)), (0, .int .i64 (P.1 : Int))]) ⟨rfl, rfl, rfl, rfl, rfl, rfl, rfl, rfl, trivial⟩ ⟨0, none, 0, [], [], by omega, RowO.nil, El.nil, rfl, uc, rfl, rfl⟩ ?_
  rintro z E U5 M' ⟨i, Q, C, us, D, hi, hrow, hel, rfl, hU5, rfl, rfl⟩
  try refine run_s ?_
  refine st_dec rfl (fun h => ?_) (fun h => ?_)
  · have hir : i < r := by omega
    try refine run_s ?_
    refine sl_make (m := c) (n := c) sym rfl rfl rfl rfl rfl rfl rfl rfl rfl (Nat.le_refl c) (by omega) (by omega) rfl rfl rfl rfl (fun b11 => ?_)
    have hmk := rowO_make (e := TInt) (s := 1) (b := b11) (n := c) (z := .int .i64 0) rfl (by omega)
    try refine run_s ?_
    refine st_settleAll (D := [(b11, .arr (List.replicate c (.int .i64 0)), TInt)]) (M := (b6, .var zFM, TF) :: (b5, .var (.agg #[.int .i64 (k : Int), .int .i64 (c : Int), .slice pb (k * c) cb]), TF) :: (b4, .var (.agg #[.int .i64 (r : Int), .int .i64 (k : Int), .slice pa (r * k) ca]), TF) :: (D ++ M)) fun U6 hU6 hs6 => ?_
    have h0 : Vrs (Vf P) c U6 (.slice (some ⟨b11, 0, none⟩) c c) (fun j => La.sm 0 fun s => Ofm P A i s * Ofm P B s j) := ⟨_, _, _, rfl, Nat.le_refl _, hmk.sett hs6, fun j x hj => by
      rw [List.getElem?_replicate] at hj
      split at hj
      case isFalse => cases hj
      cases hj
      show _ = Value.int .i64 (((0 : Fp P).v : Nat) : Int)
      rw [Fq.v_zero]; rfl⟩
    try refine st_anti (M' := (b6, .var zFM, TF) :: (b5, .var (.agg #[.int .i64 (k : Int), .int .i64 (c : Int), .slice pb (k * c) cb]), TF) :: (b4, .var (.agg #[.int .i64 (r : Int), .int .i64 (k : Int), .slice pa (r * k) ca]), TF) :: (D ++ M)) (ULe.refl _) sbk ?_
    refine st_loop (fun z E U' M' => ∃ (t : Nat) (q : Option Addr) (c' : Nat), t ≤ k ∧ Vrs (Vf P) c U' (.slice q c c') (fun j => La.sm t fun s => Ofm P A i s * Ofm P B s j) ∧ E = [(12, .int .i64 (t : Int)), (11, .slice q c c'), (10, .int .i64 (i : Int)), (9, .slice Q i C), (7, .slice px r cx), (8, .slice py k cy), (6, .pointer (some ⟨b6, 0, none⟩)), (5, .pointer (some ⟨b5, 0, none⟩)), (4, .pointer (some ⟨b4, 0, none⟩)), (0, .int .i64 (P.1 : Int))] ∧ ULe U6 U' ∧ M' = (b6, .var zFM, TF) :: (b5, .var (.agg #[.int .i64 (k : Int), .int .i64 (c : Int), .slice pb (k * c) cb]), TF) :: (b4, .var (.agg #[.int .i64 (r : Int), .int .i64 (k : Int), .slice pa (r * k) ca]), TF) :: (D ++ M) ∧ z = k - t) (n0 := k - 0) (E0 := [(12, .int .i64 ((0 : Nat) : Int)), (11, .slice (some ⟨b11, 0, none⟩) c c), (10, .int .i64 (i : Int)), (9, .slice Q i C), (7, .slice px r cx), (8, .slice py k cy), (6, .pointer (some ⟨b6, 0, none⟩)), (5, .pointer (some ⟨b5, 0, none⟩)), (4, .pointer (some ⟨b4, 0, none⟩)), (0, .int .i64 (P.1 : Int))]) ⟨rfl, rfl, rfl, rfl, rfl, rfl, rfl, rfl, rfl, rfl, trivial⟩ ⟨0, some ⟨b11, 0, none⟩, c, by omega, h0, rfl, uc, rfl, rfl⟩ ?_
    clear h0
    rintro z E U7 M' ⟨t, q, c', ht, hs, rfl, hU7, rfl, rfl⟩
    try refine run_s ?_
    refine st_dec rfl (fun h2 => ?_) (fun h2 => ?_)
    · have htk : t < k := by omega
      obtain ⟨v1, hv1⟩ := rx.at hir
      obtain ⟨p1, c1, us1, rfl, -, ru1, eu1⟩ := ex _ _ hv1
      obtain ⟨v2, hv2⟩ := ru1.at htk
      obtain rfl := eu1 _ _ hv2
      obtain ⟨v3, hv3⟩ := ry.at htk
      have e3 := ey _ _ hv3
      obtain ⟨p3, c3, us3, rfl, -⟩ := id e3
      try refine run_s ?_
      refine st_drawM [13, 14] [0, 1, 2, 3, 4, 5, 6, 7, 8, 9, 10, 11, 12, 13, 14] sym (by kernel_rfl) ?_
      try refine run_s ?_
      refine sl_y (yl_index sym rfl rfl rfl rfl rfl rfl ((rx.up uc sb).lt hv1) ((rx.up uc sb).get _ _ hv1).1) rfl rfl rfl rfl ?_; refine sl_y (yl_loadR1 sym rfl rfl rfl rfl (rx.up uc sb) hv1 rfl) rfl rfl rfl rfl ?_
      try refine run_s ?_
      refine sl_y (yl_index sym rfl rfl rfl rfl rfl rfl ((ru1.up uc sb).lt hv2) ((ru1.up uc sb).get _ _ hv2).1) rfl rfl rfl rfl ?_; refine sl_y (yl_loadR1 sym rfl rfl rfl rfl (ru1.up uc sb) hv2 rfl) rfl rfl rfl rfl ?_
      try refine run_s ?_
      refine sl_y (yl_index sym rfl rfl rfl rfl rfl rfl ((ry.up uc sb).lt hv3) ((ry.up uc sb).get _ _ hv3).1) rfl rfl rfl rfl ?_; refine sl_y (yl_loadR1 sym rfl rfl rfl rfl (ry.up uc sb) hv3 rfl) rfl rfl rfl rfl ?_
      try refine run_s ?_
      refine sl_call rfl rfl rfl rfl rfl rfl (fun _ => z13Combine_ct (P := P) (n := c) (a := Ofm P A i t) (hs.ls uc) (Vrs.ls e3 uc) hp (by omega)) ?_
      rintro v8 U8 D8 hU8 ⟨h8, rfl⟩
      obtain ⟨p8, c8, us8, rfl, h8b⟩ := id h8
      rw [List.nil_append]
      try refine run_s ?_
      exact sk_again (E' := [(12, .int .i64 ((t : Int) + 1)), (11, .slice p8 c c8), (10, .int .i64 (i : Int)), (9, .slice Q i C), (7, .slice px r cx), (8, .slice py k cy), (6, .pointer (some ⟨b6, 0, none⟩)), (5, .pointer (some ⟨b5, 0, none⟩)), (4, .pointer (some ⟨b4, 0, none⟩)), (0, .int .i64 (P.1 : Int))]) (m := k - (t + 1)) ⟨rfl, rfl, rfl, rfl, rfl, rfl, rfl, rfl, rfl, rfl, trivial⟩ (by omega) ⟨t + 1, p8, c8, by omega, h8, rfl, uc, rfl, rfl⟩
    · obtain rfl : k = t := by omega
      try refine run_s ?_
      refine w_push hrow (X := (b6, .var zFM, TF) :: (b5, .var (.agg #[.int .i64 (k : Int), .int .i64 (c : Int), .slice pb (k * c) cb]), TF) :: (b4, .var (.agg #[.int .i64 (r : Int), .int .i64 (k : Int), .slice pa (r * k) ca]), TF) :: M) pfs (fun b2 P2 C2 D2 hr2 => ?_)
      refine sl_perm (M' := (b6, .var zFM, TF) :: (b5, .var (.agg #[.int .i64 (k : Int), .int .i64 (c : Int), .slice pb (k * c) cb]), TF) :: (b4, .var (.agg #[.int .i64 (r : Int), .int .i64 (k : Int), .slice pa (r * k) ca]), TF) :: (D2 ++ M)) ?_ pf
      try refine run_s ?_
      exact sk_again (E' := [(10, .int .i64 ((i : Int) + 1)), (9, .slice P2 (i + 1) C2), (7, .slice px r cx), (8, .slice py k cy), (6, .pointer (some ⟨b6, 0, none⟩)), (5, .pointer (some ⟨b5, 0, none⟩)), (4, .pointer (some ⟨b4, 0, none⟩)), (0, .int .i64 (P.1 : Int))]) (m := r - (i + 1)) ⟨rfl, rfl, rfl, rfl, rfl, rfl, rfl, rfl, trivial⟩ (by omega) ⟨i + 1, P2, C2, _, D2, by omega, hr2, snoc_ok hrow.len.1 (hel.up KeptC.out uc) hs, rfl, uc, rfl, rfl⟩
  · obtain rfl : r = i := by omega
    try refine run_s ?_
    refine sl_call rfl rfl rfl rfl rfl rfl (fun _ => z13Of_ct (P := P) (r := r) (c := c) ((Lgz.of_s (M := D) ⟨Q, C, us, rfl, hrow.len.2.1, hrow.at (List.Sublist.refl _), hel⟩).up uc sb) (by omega) (by omega)) ?_
    rintro v6 U6 D6 hU6 ⟨⟨_, rfl, p6, c6, us6, rfl, h6⟩, rfl⟩
    rw [List.nil_append]
    repeat (first | refine run_S ?_ | refine w_box (fun _ => ?_) | refine w_al (fun _ => ?_))
    exact sk_ret [] sym rfl (.cons (.cell 0 rfl rfl rfl) .nil) uc sb (.inl rfl) ⟨⟨_, rfl, p6, c6, us6, rfl, h6⟩, rfl⟩

theorem z13Valid_ct {r c : Int} {p : Option Addr} {n cc : Nat} (_ : n ≤ 9223372036854775807) :
    Ct Tryz.prog 56 [.agg #[.int .i64 r, .int .i64 c, .slice p n cc]] G U M fun v U' D => v = .bool (decide (Vld r c n)) ∧ U = U' ∧ D = [] := by
  refine ct_of_st Tryz.func56 rfl rfl rfl rfl ?_
  repeat (first | refine run_S ?_ | refine w_box (fun _ => ?_) | refine w_al (fun _ => ?_))
  refine sl_gdec rfl rfl (fun h1 => ?_) (fun h1 => ?_)
  · repeat (first | refine run_S ?_ | refine w_box (fun _ => ?_) | refine w_al (fun _ => ?_))
    refine sl_gdec rfl rfl (fun h2 => ?_) (fun h2 => ?_)
    · repeat (first | refine run_S ?_ | refine w_box (fun _ => ?_) | refine w_al (fun _ => ?_))
      refine sl_gdec rfl rfl (fun h3 => ?_) (fun h3 => ?_)
      · repeat (first | refine run_S ?_ | refine w_box (fun _ => ?_) | refine w_al (fun _ => ?_))
        refine sl_gdec rfl rfl (fun h4 => ?_) (fun h4 => ?_)
        · have h5 := mul_1024 h1 h2 h3 h4
          repeat (first | refine run_S ?_ | refine w_box (fun _ => ?_) | refine w_al (fun _ => ?_))
          refine sk_ret [] sym rfl (.cons (.tmp rfl) .nil) uc sb (.inl rfl) ⟨?_, rfl, rfl⟩
          show Value.bool (dec ((n : Int) = r * c)) = _
          rw [dec_eq]
          exact congrArg Value.bool (decide_eq_decide.2 ⟨fun h => ⟨h1, h2, h3, h4, h⟩, fun h => h.2.2.2.2⟩)
        · repeat (first | refine run_S ?_ | refine w_box (fun _ => ?_) | refine w_al (fun _ => ?_))
          exact sk_ret [] sym rfl (.cons (.tmp rfl) .nil) uc sb (.inl rfl) ⟨tup_f (fun h => h4 h.2.2.2.1), rfl, rfl⟩
      · repeat (first | refine run_S ?_ | refine w_box (fun _ => ?_) | refine w_al (fun _ => ?_))
        exact sk_ret [] sym rfl (.cons (.tmp rfl) .nil) uc sb (.inl rfl) ⟨tup_f (fun h => h3 h.2.2.1), rfl, rfl⟩
    · repeat (first | refine run_S ?_ | refine w_box (fun _ => ?_) | refine w_al (fun _ => ?_))
      exact sk_ret [] sym rfl (.cons (.tmp rfl) .nil) uc sb (.inl rfl) ⟨tup_f (fun h => h2 h.2.1), rfl, rfl⟩
  · repeat (first | refine run_S ?_ | refine w_box (fun _ => ?_) | refine w_al (fun _ => ?_))
    exact sk_ret [] sym rfl (.cons (.tmp rfl) .nil) uc sb (.inl rfl) ⟨tup_f (fun h => h1 h.1), rfl, rfl⟩

/-- What 'light' tells of a matrix of integers. -/
theorem light13_ct {most m : Nat} {pl : Option Addr} {cl : Nat} {vs : List Value} {r c : Nat → Int} {n : Nat → Nat} {f : Nat → Nat → Int} (rl : RowAt U M 3 pl m vs) (hv : ∀ k v, vs[k]? = some v → RawO Vz 1 U v (r k) (c k) (n k) (f k)) (hm2 : m ≤ 100) :
    Ct Tryz.prog 15 [.int .i64 (most : Int), .slice pl m cl] G U M fun v U' D => ∃ b : Bool, v = .bool b ∧ (b = true ↔ ∀ k, k < m → Vld (r k) (c k) (n k) ∧ r k ≤ most ∧ c k ≤ most) ∧ U = U' ∧ D = [] := by
  refine ct_of_st Tryz.func15 rfl rfl rfl rfl ?_
  repeat (first | refine run_S ?_ | refine w_box (fun _ => ?_) | refine w_al (fun _ => ?_))
  try refine st_anti (M' := M) (ULe.refl _) sbk ?_
  refine st_loop (fun z E U' M' => ∃ (i : Nat), i ≤ m ∧ (∀ k, k < i → Vld (r k) (c k) (n k) ∧ r k ≤ most ∧ c k ≤ most) ∧ U = U' ∧ E = [(5, .int .i64 (i : Int)), (0, .int .i64 (most : Int)), (1, .slice pl m cl)] ∧ ULe U U' ∧ M' = M ∧ z = m - i) (n0 := m - 0) (E0 := [(5, .int .i64 ((0 : Nat) : Int)), (0, .int .i64 (most : Int)), (1, .slice pl m cl)]) ⟨rfl, rfl, rfl, trivial⟩ ⟨0, by omega, (fun k h => absurd h (Nat.not_lt_zero k)), rfl, rfl, uc, rfl, rfl⟩ ?_
  rintro z E U1 M' ⟨i, hi, hall, rfl, rfl, hU1, rfl, rfl⟩
  try refine run_s ?_
  refine st_dec rfl (fun h => ?_) (fun h => ?_)
  · have him : i < m := by omega
    obtain ⟨v1, hv1⟩ := rl.at him
    obtain ⟨hr, hc, hn, _, rfl, p1, c1, as1, rfl, -⟩ := hv _ _ hv1
    have hp := (rl.get _ _ hv1).1
    have no : ¬ (Vld (r i) (c i) (n i) ∧ r i ≤ most ∧ c i ≤ most) → ((false = true) ↔ ∀ k, k < m → Vld (r k) (c k) (n k) ∧ r k ≤ most ∧ c k ≤ most) := fun h => ⟨fun e => (by cases e), fun e => absurd (e i him) h⟩
    repeat (first | refine run_S ?_ | refine w_box (fun _ => ?_) | refine w_al (fun _ => ?_))
    refine sl_y (yl_index sym rfl rfl rfl rfl rfl rfl (rl.lt hv1) (rl.get _ _ hv1).1) rfl rfl rfl rfl ?_; refine sl_y (yl_loadRs sym rfl rfl rfl rfl rfl rl hv1) rfl rfl rfl rfl ?_
    repeat (first | refine run_S ?_ | refine w_box (fun _ => ?_) | refine w_al (fun _ => ?_))
    refine sl_call rfl rfl rfl rfl rfl rfl (fun _ => z13Valid_ct (r := r i) (c := c i) (p := p1) (cc := c1) hn) ?_
    rintro v U' D hU ⟨rfl, rfl, rfl⟩
    repeat (first | refine run_S ?_ | refine w_box (fun _ => ?_) | refine w_al (fun _ => ?_))
    by_cases hV : Vld (r i) (c i) (n i)
    · rw [decide_eq_true hV]
      repeat (first | refine run_S ?_ | refine w_box (fun _ => ?_) | refine w_al (fun _ => ?_))
      refine w_addr (j := i) him hp ?_
      repeat (first | refine run_S ?_ | refine w_box (fun _ => ?_) | refine w_al (fun _ => ?_))
      refine sl_y (yl_loadRc (j := 0) (u := .int .i64 (r i)) sym rfl rfl (by rw [elt_add]) rfl rfl rl hv1 rfl) rfl rfl rfl rfl ?_
      repeat (first | refine run_S ?_ | refine w_box (fun _ => ?_) | refine w_al (fun _ => ?_))
      refine sl_gdec rfl rfl (fun h2 => ?_) (fun h2 => ?_)
      · repeat (first | refine run_S ?_ | refine w_box (fun _ => ?_) | refine w_al (fun _ => ?_))
        exact sk_ret [] sym rfl (.cons (.tmp rfl) .nil) uc sb (.inl rfl) ⟨false, rfl, no (fun h => by omega), rfl, rfl⟩
      · repeat (first | refine run_S ?_ | refine w_box (fun _ => ?_) | refine w_al (fun _ => ?_))
        refine w_addr (j := i) him hp ?_
        repeat (first | refine run_S ?_ | refine w_box (fun _ => ?_) | refine w_al (fun _ => ?_))
        refine sl_y (yl_loadRc (j := 1) (u := .int .i64 (c i)) sym rfl rfl (by rw [elt_add]) rfl rfl rl hv1 rfl) rfl rfl rfl rfl ?_
        repeat (first | refine run_S ?_ | refine w_box (fun _ => ?_) | refine w_al (fun _ => ?_))
        refine st_dec rfl (fun h3 => ?_) (fun h3 => ?_)
        · repeat (first | refine run_S ?_ | refine w_box (fun _ => ?_) | refine w_al (fun _ => ?_))
          exact sk_ret [] sym rfl (.cons (.tmp rfl) .nil) uc sb (.inl rfl) ⟨false, rfl, no (fun h => by omega), rfl, rfl⟩
        · repeat (first | refine run_S ?_ | refine w_box (fun _ => ?_) | refine w_al (fun _ => ?_))
          exact sk_again (E' := [(5, .int .i64 ((i : Int) + 1)), (0, .int .i64 (most : Int)), (1, .slice pl m cl)]) (m := m - (i + 1)) ⟨rfl, rfl, rfl, trivial⟩ (by omega) ⟨i + 1, by omega, (fun k hk => by
            rcases Nat.lt_or_eq_of_le (Nat.le_of_lt_succ hk) with h5 | h5
            · exact hall k h5
            · rw [h5]; exact ⟨hV, by omega, by omega⟩), rfl, rfl, uc, rfl, rfl⟩
    · rw [decide_eq_false hV]
      repeat (first | refine run_S ?_ | refine w_box (fun _ => ?_) | refine w_al (fun _ => ?_))
      exact sk_ret [] sym rfl (.cons (.tmp rfl) .nil) uc sb (.inl rfl) ⟨false, rfl, no (fun h => hV h.1), rfl, rfl⟩
  · obtain rfl : i = m := by omega
    repeat (first | refine run_S ?_ | refine w_box (fun _ => ?_) | refine w_al (fun _ => ?_))
    exact sk_ret [] sym rfl (.cons (.tmp rfl) .nil) uc sb (.inl rfl) ⟨true, rfl, ⟨fun _ => hall, fun _ => rfl⟩, rfl, rfl⟩
end Go.Proofs.YtpigpikhjlmdoaaGreat

/- Walks of the reference of layer 13: echelon forms. -/
namespace Go.Proofs.YtpigpikhjlmdoaaGreat
open Go.Hp
open Go.Fq (Pm Fp Prm)
variable {G : World} {U U' : UH} {M : MH}

/-- The row that is the pivot, or none yet. -/
inductive Piv (P : Pm) (n i : Nat) (U : UH) (A : Nat → Nat → Fp P) (c : Nat) : Option Addr → Nat → Nat → Nat → List Value → Prop where
  | none {us : List Value} : (∀ u, u < i → A u c = 0) → El (Vrs (Vf P) n) U us A → Piv P n i U A c none 0 0 i us
  | some {a : Addr} {cq t k : Nat} {Q : Nat → Fp P} {us : List Value} : t < i → k + 1 = i → A t c ≠ 0 → Vrs (Vf P) n U (.slice (some a) n cq) Q → (∀ j, j < n → Q j = (A t c)⁻¹ * A t j) → El (Vrs (Vf P) n) U us (fun s => A (La.skip t s)) → Piv P n i U A c (some a) n cq k us
theorem Piv.up {P : Pm} {n i c n' c' k : Nat} {A : Nat → Nat → Fp P} {p : Option Addr} {us : List Value} (h : Piv P n i U A c p n' c' k us) (hU : ULe U U') : Piv P n i U' A c p n' c' k us := by
  cases h with
  | none h1 h2 => exact .none h1 (h2.up KeptC.out hU)
  | some h1 h2 h3 h4 h5 h6 => exact .some h1 h2 h3 (KeptC.out _ _ _ _ hU h4) h5 (h6.up KeptC.out hU)

theorem z13Echelon_co {P : Pm} {m n : Nat} {vr : Value} {A0 : Nat → Nat → Fp P} (hv : Ls (Vrs (Vf P) n) 1 m U M vr A0) (hp : P.1 ≤ 65536) (hn : n ≤ 1000000) (hm : m ≤ 1000000) :
    Ct Tryz.prog 21 [.int .i64 (P.1 : Int), .int .i64 (n : Int), vr] G U M fun v U' D => ∃ (r : Nat) (R : Nat → Nat → Fp P) (p : Nat → Nat) (vR vp : Value) (D1 D2 : MH), v = .tuple #[vR, vp] ∧ Lo (Vrs (Vf P) n) TIs 1 r U' D1 vR R ∧ Lo Vi TInt 1 r U' D2 vp p ∧ D = D1 ++ D2 ∧ ULe U U' ∧
      La.Ech r n R p ∧ La.Same r m n R A0 ∧ r ≤ m := by
  have hp2 := P.2.two
  obtain ⟨p1, c1, as1, rfl, -, ra, ea⟩ := hv
  refine ct_of_st Tryz.func21 rfl rfl rfl rfl ?_
  repeat (first | refine run_S ?_ | refine w_box (fun _ => ?_) | refine w_al (fun _ => ?_))
  refine w_app0 ra (ea.ones fun _ _ h => one_rs h) (fun pa ca Da hra => ?_)
  repeat (first | refine run_S ?_ | refine w_box (fun _ => ?_) | refine w_al (fun _ => ?_))
  try refine st_anti (M' := Da ++ (([]) ++ (([]) ++ M))) (ULe.refl _) sbk ?_
  refine st_loop (fun z E U' M' => ∃ (c r : Nat) (R : Nat → Nat → Fp P) (p : Nat → Nat) (ma : Nat) (A : Nat → Nat → Fp P) (pa : Option Addr) (ca : Nat) (avs : List Value) (Da : MH) (po : Option Addr) (co : Nat) (ovs : List Value) (Do : MH) (pp : Option Addr) (cp : Nat) (pvs : List Value) (Dp : MH), RowO TIs 1 Da pa ma ca avs ∧ El (Vrs (Vf P) n) U' avs A ∧ RowO TIs 1 Do po r co ovs ∧ El (Vrs (Vf P) n) U' ovs R ∧ RowO TInt 1 Dp pp r cp pvs ∧ El Vi U' pvs p ∧ La.Elm m n A0 c r R p ma A ∧ c ≤ n ∧ E = [(8, .slice pa ma ca), (9, .slice po r co), (10, .slice pp r cp), (11, .int .i64 (c : Int)), (0, .int .i64 (P.1 : Int)), (1, .int .i64 (n : Int))] ∧ ULe U U' ∧ M' = Da ++ (Do ++ (Dp ++ M)) ∧ z = n - c) (n0 := n - 0) (E0 := [(8, .slice pa m ca), (9, .slice none 0 0), (10, .slice none 0 0), (11, .int .i64 ((0 : Nat) : Int)), (0, .int .i64 (P.1 : Int)), (1, .int .i64 (n : Int))]) ⟨rfl, rfl, rfl, rfl, rfl, rfl, trivial⟩ ⟨0, 0, A0, id, m, A0, pa, ca, as1, Da, none, 0, [], [], none, 0, [], [], hra, ea, RowO.nil, El.nil, RowO.nil, El.nil, La.Elm.start, by omega, rfl, uc, rfl, rfl⟩ ?_
  clear hra ra ea
  rintro z E U1 M' ⟨c, r, R, p, ma, A, pa, ca, avs, Da, po, co, ovs, Do, pp, cp, pvs, Dp, hra, ea, hro, eo, hrp, ep, hE, hcn, rfl, hU1, rfl, rfl⟩
  try refine run_s ?_
  have hcnt := hE.cnt
  have hrc := hE.le_c
  try refine run_s ?_
  refine st_dec rfl (fun h1 => ?_) (fun h1 => ?_)
  · have hc : c < n := by omega
    try refine run_s ?_
    try refine st_anti (M' := ([]) ++ (Da ++ (Do ++ (Dp ++ M)))) (ULe.refl _) sbk ?_
    refine st_loop (fun z E U' M' => ∃ (i : Nat) (pq : Option Addr) (nq cq k : Nat) (pr : Option Addr) (cr : Nat) (rvs : List Value) (Dr : MH), i ≤ ma ∧ RowO TIs 1 Dr pr k cr rvs ∧ Piv P n i U' A c pq nq cq k rvs ∧ E = [(14, .int .i64 (i : Int)), (12, .slice pq nq cq), (13, .slice pr k cr), (8, .slice pa ma ca), (9, .slice po r co), (10, .slice pp r cp), (11, .int .i64 (c : Int)), (0, .int .i64 (P.1 : Int)), (1, .int .i64 (n : Int))] ∧ ULe U1 U' ∧ M' = Dr ++ (Da ++ (Do ++ (Dp ++ M))) ∧ z = ma - i) (n0 := ma - 0) (E0 := [(14, .int .i64 ((0 : Nat) : Int)), (12, .slice none 0 0), (13, .slice none 0 0), (8, .slice pa ma ca), (9, .slice po r co), (10, .slice pp r cp), (11, .int .i64 (c : Int)), (0, .int .i64 (P.1 : Int)), (1, .int .i64 (n : Int))]) ⟨rfl, rfl, rfl, rfl, rfl, rfl, rfl, rfl, rfl, trivial⟩ ⟨0, none, 0, 0, 0, none, 0, [], [], by omega, RowO.nil, .none (fun u h => absurd h (Nat.not_lt_zero u)) El.nil, rfl, uc, rfl, rfl⟩ ?_
    rintro z E U2 M' ⟨i, pq, nq, cq, k, pr, cr, rvs, Dr, hi, hrr, hpv, rfl, hU2, rfl, rfl⟩
    try refine run_s ?_
    refine st_dec rfl (fun h2 => ?_) (fun h2 => ?_)
    · have him : i < ma := by omega
      have rA := hra.at (U := U2) (M := Dr ++ (Da ++ (Do ++ (Dp ++ M)))) sb
      obtain ⟨v1, hv1⟩ := rA.at him
      have e1 : Vrs (Vf P) n U2 v1 (A i) := KeptC.out _ _ _ _ uc (ea _ _ hv1)
      obtain ⟨p2, c2, us2, rfl, -, rw2, el2⟩ := id e1
      obtain ⟨v2, hv2⟩ := rw2.at hc
      obtain rfl := el2 _ _ hv2
      cases hpv with
      | none hz her =>
        try refine run_s ?_
        refine sl_y (yl_index sym rfl rfl rfl rfl rfl rfl (rA.lt hv1) (rA.get _ _ hv1).1) rfl rfl rfl rfl ?_; refine sl_y (yl_loadR1 sym rfl rfl rfl rfl rA hv1 rfl) rfl rfl rfl rfl ?_
        try refine run_s ?_
        refine sl_y (yl_index sym rfl rfl rfl rfl rfl rfl ((rw2.up uc sb).lt hv2) ((rw2.up uc sb).get _ _ hv2).1) rfl rfl rfl rfl ?_; refine sl_y (yl_loadR1 sym rfl rfl rfl rfl (rw2.up uc sb) hv2 rfl) rfl rfl rfl rfl ?_
        try refine run_s ?_
        refine st_ne rfl (fun hq => ?_) (fun hq => ?_)
        · have hq0 : A i c ≠ 0 := fun e => hq (by rw [e, Fq.v_zero]; rfl)
          try refine run_s ?_
          refine sl_y (yl_index sym rfl rfl rfl rfl rfl rfl (rA.lt hv1) (rA.get _ _ hv1).1) rfl rfl rfl rfl ?_; refine sl_y (yl_loadR1 sym rfl rfl rfl rfl rA hv1 rfl) rfl rfl rfl rfl ?_
          try refine run_s ?_
          refine sl_y (yl_index sym rfl rfl rfl rfl rfl rfl ((rw2.up uc sb).lt hv2) ((rw2.up uc sb).get _ _ hv2).1) rfl rfl rfl rfl ?_; refine sl_y (yl_loadR1 sym rfl rfl rfl rfl (rw2.up uc sb) hv2 rfl) rfl rfl rfl rfl ?_
          try refine run_s ?_
          refine sl_call rfl rfl rfl rfl rfl rfl (fun _ => z3Inverse_ct (P := P) (a := A i c) hq0 (by omega)) ?_
          rintro v U' D hU ⟨rfl, rfl, rfl⟩
          repeat (first | refine run_S ?_ | refine w_box (fun _ => ?_) | refine w_al (fun _ => ?_))
          refine st_drawM [8, 9] [0, 1, 3, 4, 5, 6, 7, 2, 8, 9] sym (by kernel_rfl) ?_
          try refine run_s ?_
          refine sl_y (yl_index sym rfl rfl rfl rfl rfl rfl (rA.lt hv1) (rA.get _ _ hv1).1) rfl rfl rfl rfl ?_; refine sl_y (yl_loadR1 sym rfl rfl rfl rfl rA hv1 rfl) rfl rfl rfl rfl ?_
          try refine run_s ?_
          refine sl_make (m := n) (n := n) sym rfl rfl rfl rfl rfl rfl rfl rfl rfl (Nat.le_refl n) (by omega) (by omega) rfl rfl rfl rfl (fun b59 => ?_)
          have hmk := rowO_make (e := TInt) (s := 1) (b := b59) (n := n) (z := .int .i64 0) rfl (by omega)
          have hz0 : El (Vf P) U2 (List.replicate n (.int .i64 0)) (fun _ => (0 : Fp P)) := fun j x hj => by
            rw [List.getElem?_replicate] at hj
            split at hj
            case isFalse => cases hj
            cases hj
            show _ = Value.int .i64 (((0 : Fp P).v : Nat) : Int)
            rw [Fq.v_zero]; rfl
          refine sl_call rfl rfl rfl rfl rfl rfl (fun _ => z13Combine_ct (P := P) (n := n) (a := (A i c)⁻¹) (f := fun _ => 0) ⟨_, _, _, rfl, Nat.le_refl _, hmk.at sb, hz0⟩ (Vrs.ls e1 uc) hp (by omega)) ?_
          rintro v8 U8 D8 hU8 ⟨h8, rfl⟩
          obtain ⟨p8, c8, us8, rfl, hc8, r8, e8⟩ := id h8
          obtain ⟨x8, hx8⟩ := r8.at hc
          obtain ⟨a8, rfl⟩ := Option.isSome_iff_exists.1 (r8.get _ _ hx8).1
          rw [List.nil_append]
          try refine run_s ?_
          refine sk_anti (M' := Dr ++ (Da ++ (Do ++ (Dp ++ M)))) (ULe.refl _) sbk ?_
          exact sk_again (E' := [(14, .int .i64 ((i : Int) + 1)), (12, .slice (some a8) n c8), (13, .slice pr i cr), (8, .slice pa ma ca), (9, .slice po r co), (10, .slice pp r cp), (11, .int .i64 (c : Int)), (0, .int .i64 (P.1 : Int)), (1, .int .i64 (n : Int))]) (m := ma - (i + 1)) ⟨rfl, rfl, rfl, rfl, rfl, rfl, rfl, rfl, rfl, trivial⟩ (by omega) ⟨i + 1, some a8, n, c8, i, pr, cr, rvs, Dr, by omega, hrr, .some (Nat.lt_succ_self i) rfl hq0 h8 (fun j _ => La.zero_add _) ((her.up KeptC.out uc).congr hrr.len.1 (fun s hs => by rw [show La.skip i s = s from if_pos hs])), rfl, uc, rfl, rfl⟩
        · have hq0 : A i c = 0 := Fq.v_eq_zero.1 (by omega)
          try refine run_s ?_
          refine sl_y (yl_index sym rfl rfl rfl rfl rfl rfl (rA.lt hv1) (rA.get _ _ hv1).1) rfl rfl rfl rfl ?_; refine sl_y (yl_loadR1 sym rfl rfl rfl rfl rA hv1 rfl) rfl rfl rfl rfl ?_
          try refine run_s ?_
          refine w_push hrr (X := Da ++ (Do ++ (Dp ++ M))) (List.Perm.refl _) (fun b2 P2 C2 D2 hr2 => ?_)
          try refine run_s ?_
          exact sk_again (E' := [(14, .int .i64 ((i : Int) + 1)), (12, .slice none 0 0), (13, .slice P2 (i + 1) C2), (8, .slice pa ma ca), (9, .slice po r co), (10, .slice pp r cp), (11, .int .i64 (c : Int)), (0, .int .i64 (P.1 : Int)), (1, .int .i64 (n : Int))]) (m := ma - (i + 1)) ⟨rfl, rfl, rfl, rfl, rfl, rfl, rfl, rfl, rfl, trivial⟩ (by omega) ⟨i + 1, none, 0, 0, i + 1, P2, C2, _, D2, by omega, hr2, .none (fun u hu => by
            rcases Nat.lt_or_eq_of_le (Nat.le_of_lt_succ hu) with h | h
            · exact hz u h
            · rw [h]; exact hq0) (snoc_ok hrr.len.1 her e1), rfl, uc, rfl, rfl⟩
      | @some a cq t k Q us k1 k2 k3 k4 k5 k6 =>
        try refine run_s ?_
        refine sl_y (yl_index sym rfl rfl rfl rfl rfl rfl (rA.lt hv1) (rA.get _ _ hv1).1) rfl rfl rfl rfl ?_; refine sl_y (yl_loadR1 sym rfl rfl rfl rfl rA hv1 rfl) rfl rfl rfl rfl ?_
        try refine run_s ?_
        refine w_push hrr (X := Da ++ (Do ++ (Dp ++ M))) (List.Perm.refl _) (fun b2 P2 C2 D2 hr2 => ?_)
        try refine run_s ?_
        exact sk_again (E' := [(14, .int .i64 ((i : Int) + 1)), (12, .slice (some a) n cq), (13, .slice P2 (k + 1) C2), (8, .slice pa ma ca), (9, .slice po r co), (10, .slice pp r cp), (11, .int .i64 (c : Int)), (0, .int .i64 (P.1 : Int)), (1, .int .i64 (n : Int))]) (m := ma - (i + 1)) ⟨rfl, rfl, rfl, rfl, rfl, rfl, rfl, rfl, rfl, trivial⟩ (by omega) ⟨i + 1, some a, n, cq, k + 1, P2, C2, _, D2, by omega, hr2, .some (by omega) (by omega) k3 k4 k5 (snoc_ok hrr.len.1 k6 (by rw [show La.skip t k = i by unfold La.skip; rw [if_neg (by omega)]; omega]; exact e1)), rfl, uc, rfl, rfl⟩
    · obtain rfl : i = ma := by omega
      cases hpv with
      | none hz her =>
        try refine run_s ?_
        refine sk_anti (M' := Da ++ (Do ++ (Dp ++ M))) (ULe.refl _) sbk ?_
        exact sk_again (E' := [(8, .slice pa i ca), (9, .slice po r co), (10, .slice pp r cp), (11, .int .i64 ((c : Int) + 1)), (0, .int .i64 (P.1 : Int)), (1, .int .i64 (n : Int))]) (m := n - (c + 1)) ⟨rfl, rfl, rfl, rfl, rfl, rfl, trivial⟩ (by omega) ⟨c + 1, r, R, p, i, A, pa, ca, avs, Da, po, co, ovs, Do, pp, cp, pvs, Dp, hra, ea.up KeptC.out uc, hro, eo.up KeptC.out uc, hrp, ep, hE.pass hz, by omega, rfl, uc, rfl, rfl⟩
      | @some a cq t k Q us k1 k2 k3 k4 k5 k6 =>
        have sgn : ∀ x : Fp P, IntKind.i64.wrap (0 - (x.v : Int)) % (P.1 : Int) = ((-x).v : Int) := fun x => by
          have := x.lt
          rw [show IntKind.i64.wrap (0 - (x.v : Int)) = 0 - (x.v : Int) from IntWalk.i64_in _ (by omega), Int.zero_sub, ← Fq.of_val, Fq.of_neg, Fq.of_v]
        try refine run_s ?_
        try refine st_anti (M' := Dr ++ (Do ++ (Dp ++ M))) (ULe.refl _) sbk ?_
        refine st_loop (fun z E U' M' => ∃ (s : Nat) (rvs : List Value) (Dr : MH), s ≤ k ∧ RowO TIs 1 Dr pr k cr rvs ∧ El (Vrs (Vf P) n) U' rvs (fun u => if u < s then La.clr (A (La.skip t u)) Q c else A (La.skip t u)) ∧ E = [(17, .int .i64 (s : Int)), (13, .slice pr k cr), (12, .slice (some a) n cq), (9, .slice po r co), (10, .slice pp r cp), (11, .int .i64 (c : Int)), (0, .int .i64 (P.1 : Int)), (1, .int .i64 (n : Int))] ∧ ULe U2 U' ∧ M' = Dr ++ (Do ++ (Dp ++ M)) ∧ z = k - s) (n0 := k - 0) (E0 := [(17, .int .i64 ((0 : Nat) : Int)), (13, .slice pr k cr), (12, .slice (some a) n cq), (9, .slice po r co), (10, .slice pp r cp), (11, .int .i64 (c : Int)), (0, .int .i64 (P.1 : Int)), (1, .int .i64 (n : Int))]) ⟨rfl, rfl, rfl, rfl, rfl, rfl, rfl, rfl, trivial⟩ ⟨0, _, Dr, by omega, hrr, (k6.up KeptC.out uc).congr hrr.len.1 (fun u _ => (if_neg (Nat.not_lt_zero u)).symm), rfl, uc, rfl, rfl⟩ ?_
        clear hrr k6
        rintro z E U3 M' ⟨s, rvs, Dr, hs, hrr, k6, rfl, hU3, rfl, rfl⟩
        try refine run_s ?_
        refine st_dec rfl (fun h3 => ?_) (fun h3 => ?_)
        · have hsk : s < k := by omega
          have rA := hrr.at (U := U3) (M := Dr ++ (Do ++ (Dp ++ M))) sb
          obtain ⟨v1, hv1⟩ := rA.at hsk
          have e1 : Vrs (Vf P) n U3 v1 (A (La.skip t s)) := by
            have := k6 _ _ hv1
            simpa using this
          obtain ⟨p2, c2, us2, rfl, -, rw2, el2⟩ := id e1
          obtain ⟨v2, hv2⟩ := rw2.at hc
          obtain rfl := el2 _ _ hv2
          try refine run_s ?_
          refine st_drawM [18, 19, 20] [0, 1, 2, 3, 4, 5, 6, 7, 8, 9, 10, 11, 12, 13, 14, 15, 17, 16, 18, 19, 20] sym (by kernel_rfl) ?_
          try refine run_s ?_
          refine sl_y (yl_index sym rfl rfl rfl rfl rfl rfl (rA.lt hv1) (rA.get _ _ hv1).1) rfl rfl rfl rfl ?_; refine sl_y (yl_loadR1 sym rfl rfl rfl rfl rA hv1 rfl) rfl rfl rfl rfl ?_
          try refine run_s ?_
          refine sl_y (yl_index sym rfl rfl rfl rfl rfl rfl (rA.lt hv1) (rA.get _ _ hv1).1) rfl rfl rfl rfl ?_; refine sl_y (yl_loadR1 sym rfl rfl rfl rfl rA hv1 rfl) rfl rfl rfl rfl ?_
          try refine run_s ?_
          refine sl_y (yl_index sym rfl rfl rfl rfl rfl rfl ((rw2.up uc sb).lt hv2) ((rw2.up uc sb).get _ _ hv2).1) rfl rfl rfl rfl ?_; refine sl_y (yl_loadR1 sym rfl rfl rfl rfl (rw2.up uc sb) hv2 rfl) rfl rfl rfl rfl ?_
          try refine run_s ?_
          refine sl_call rfl rfl rfl rfl rfl rfl (fun _ => z3Mod_ct (z := IntKind.i64.wrap (0 - ((A (La.skip t s) c).v : Int))) (m := (P.1 : Int)) (by omega) (by omega)) ?_
          rintro v U' D hU ⟨rfl, rfl, rfl⟩
          repeat (first | refine run_S ?_ | refine w_box (fun _ => ?_) | refine w_al (fun _ => ?_))
          rw [sgn]
          refine sl_call rfl rfl rfl rfl rfl rfl (fun _ => z13Combine_ct (P := P) (n := n) (a := -(A (La.skip t s) c)) (Vrs.ls e1 uc) (Vrs.ls k4 uc) hp (by omega)) ?_
          rintro v8 U8 D8 hU8 ⟨h8, rfl⟩
          obtain ⟨p8, c8, us8, rfl, h8b⟩ := id h8
          rw [List.nil_append]
          refine w_addr (j := s) hsk (hrr.some (by omega)) ?_
          refine w_storeR (X := Do ++ (Dp ++ M)) hrr (List.Perm.refl _) hsk (fun D2 hr2 => ?_)
          try refine run_s ?_
          exact sk_again (E' := [(17, .int .i64 ((s : Int) + 1)), (13, .slice pr k cr), (12, .slice (some a) n cq), (9, .slice po r co), (10, .slice pp r cp), (11, .int .i64 (c : Int)), (0, .int .i64 (P.1 : Int)), (1, .int .i64 (n : Int))]) (m := k - (s + 1)) ⟨rfl, rfl, rfl, rfl, rfl, rfl, rfl, rfl, trivial⟩ (by omega) ⟨s + 1, _, D2, by omega, hr2, set_ok (fun u x hu hne => by
            have := (k6.up (U' := U8) KeptC.out uc) u x hu
            simp only at this ⊢
            by_cases e : u < s
            · rw [if_pos e] at this; rw [if_pos (by omega)]; exact this
            · rw [if_neg e] at this; rw [if_neg (by omega)]; exact this) (by simp only [if_pos (Nat.lt_succ_self s)]; exact h8), rfl, uc, rfl, rfl⟩
        · obtain rfl : s = k := by omega
          have k7 : El (Vrs (Vf P) n) U3 rvs (fun u => La.clr (A (La.skip t u)) Q c) := k6.congr hrr.len.1 fun u hu => by rw [if_pos hu]
          clear k6
          try refine run_s ?_
          try refine st_anti (M' := Dr ++ (Do ++ (Dp ++ M))) (ULe.refl _) sbk ?_
          refine st_loop (fun z E U' M' => ∃ (j : Nat) (ovs : List Value) (Do : MH), j ≤ r ∧ RowO TIs 1 Do po r co ovs ∧ El (Vrs (Vf P) n) U' ovs (fun u => if u < j then La.clr (R u) Q c else R u) ∧ E = [(18, .int .i64 (j : Int)), (13, .slice pr s cr), (12, .slice (some a) n cq), (9, .slice po r co), (10, .slice pp r cp), (11, .int .i64 (c : Int)), (0, .int .i64 (P.1 : Int)), (1, .int .i64 (n : Int))] ∧ ULe U3 U' ∧ M' = Dr ++ (Do ++ (Dp ++ M)) ∧ z = r - j) (n0 := r - 0) (E0 := [(18, .int .i64 ((0 : Nat) : Int)), (13, .slice pr s cr), (12, .slice (some a) n cq), (9, .slice po r co), (10, .slice pp r cp), (11, .int .i64 (c : Int)), (0, .int .i64 (P.1 : Int)), (1, .int .i64 (n : Int))]) ⟨rfl, rfl, rfl, rfl, rfl, rfl, rfl, rfl, trivial⟩ ⟨0, ovs, Do, by omega, hro, (eo.up KeptC.out uc).congr hro.len.1 (fun u _ => (if_neg (Nat.not_lt_zero u)).symm), rfl, uc, rfl, rfl⟩ ?_
          clear hro eo
          rintro z E U4 M' ⟨j, ovs, Do, hj, hro, eo, rfl, hU4, rfl, rfl⟩
          try refine run_s ?_
          refine st_dec rfl (fun h4 => ?_) (fun h4 => ?_)
          · have hjr : j < r := by omega
            have rO := hro.at (U := U4) (M := Dr ++ (Do ++ (Dp ++ M))) sb
            obtain ⟨v1, hv1⟩ := rO.at hjr
            have e1 : Vrs (Vf P) n U4 v1 (R j) := by
              have := eo _ _ hv1
              simpa using this
            obtain ⟨p2, c2, us2, rfl, -, rw2, el2⟩ := id e1
            obtain ⟨v2, hv2⟩ := rw2.at hc
            obtain rfl := el2 _ _ hv2
            try refine run_s ?_
            refine st_drawM [18, 19, 20] [0, 1, 2, 3, 4, 5, 6, 7, 8, 9, 10, 11, 12, 13, 14, 15, 17, 16, 18, 19, 20] sym (by kernel_rfl) ?_
            try refine run_s ?_
            refine sl_y (yl_index sym rfl rfl rfl rfl rfl rfl (rO.lt hv1) (rO.get _ _ hv1).1) rfl rfl rfl rfl ?_; refine sl_y (yl_loadR1 sym rfl rfl rfl rfl rO hv1 rfl) rfl rfl rfl rfl ?_
            try refine run_s ?_
            refine sl_y (yl_index sym rfl rfl rfl rfl rfl rfl (rO.lt hv1) (rO.get _ _ hv1).1) rfl rfl rfl rfl ?_; refine sl_y (yl_loadR1 sym rfl rfl rfl rfl rO hv1 rfl) rfl rfl rfl rfl ?_
            try refine run_s ?_
            refine sl_y (yl_index sym rfl rfl rfl rfl rfl rfl ((rw2.up uc sb).lt hv2) ((rw2.up uc sb).get _ _ hv2).1) rfl rfl rfl rfl ?_; refine sl_y (yl_loadR1 sym rfl rfl rfl rfl (rw2.up uc sb) hv2 rfl) rfl rfl rfl rfl ?_
            try refine run_s ?_
            refine sl_call rfl rfl rfl rfl rfl rfl (fun _ => z3Mod_ct (z := IntKind.i64.wrap (0 - ((R j c).v : Int))) (m := (P.1 : Int)) (by omega) (by omega)) ?_
            rintro v U' D hU ⟨rfl, rfl, rfl⟩
            repeat (first | refine run_S ?_ | refine w_box (fun _ => ?_) | refine w_al (fun _ => ?_))
            rw [sgn]
            refine sl_call rfl rfl rfl rfl rfl rfl (fun _ => z13Combine_ct (P := P) (n := n) (a := -(R j c)) (Vrs.ls e1 uc) (Vrs.ls k4 uc) hp (by omega)) ?_
            rintro v8 U8 D8 hU8 ⟨h8, rfl⟩
            obtain ⟨p8, c8, us8, rfl, h8b⟩ := id h8
            rw [List.nil_append]
            refine w_addr (j := j) hjr (hro.some (by omega)) ?_
            refine w_storeR (X := Dr ++ (Dp ++ M)) hro pf hjr (fun D2 hr2 => ?_)
            refine sl_perm (M' := Dr ++ (D2 ++ (Dp ++ M))) ?_ pf
            try refine run_s ?_
            exact sk_again (E' := [(18, .int .i64 ((j : Int) + 1)), (13, .slice pr s cr), (12, .slice (some a) n cq), (9, .slice po r co), (10, .slice pp r cp), (11, .int .i64 (c : Int)), (0, .int .i64 (P.1 : Int)), (1, .int .i64 (n : Int))]) (m := r - (j + 1)) ⟨rfl, rfl, rfl, rfl, rfl, rfl, rfl, rfl, trivial⟩ (by omega) ⟨j + 1, _, D2, by omega, hr2, set_ok (fun u x hu hne => by
              have := (eo.up (U' := U8) KeptC.out uc) u x hu
              simp only at this ⊢
              by_cases e : u < j
              · rw [if_pos e] at this; rw [if_pos (by omega)]; exact this
              · rw [if_neg e] at this; rw [if_neg (by omega)]; exact this) (by simp only [if_pos (Nat.lt_succ_self j)]; exact h8), rfl, uc, rfl, rfl⟩
          · obtain rfl : j = r := by omega
            try refine run_s ?_
            refine w_push hro (X := Dr ++ (Dp ++ M)) pf (fun b1 p1 c1 D1 hr1 => ?_)
            try refine run_s ?_
            refine w_push hrp (X := D1 ++ (Dr ++ M)) pf (fun b2 p2 c2 D2 hr2 => ?_)
            try refine run_s ?_
            refine sk_perm (M' := Dr ++ (D1 ++ (D2 ++ M))) pf ?_
            have hE2 : La.Elm m n A0 (c + 1) (j + 1) (fun u => if u < j then La.clr (R u) Q c else Q) (fun u => if u < j then p u else c) (i - 1) (fun u => La.clr (A (La.skip t u)) Q c) :=
              hE.step hc k1 k3 k5 (fun u l hu _ => by simp only [if_pos hu]) (fun l _ => by simp only [if_neg (Nat.lt_irrefl j)]) (fun u hu => if_pos hu) (if_neg (Nat.lt_irrefl j))
                (fun u hu => ⟨La.skip t u, by unfold La.skip; split <;> omega, by unfold La.skip; split <;> omega, fun _ _ => rfl⟩)
                (fun u hu hne => ⟨if u < t then u else u - 1, by split <;> omega, fun l _ => by
                  rw [show La.skip t (if u < t then u else u - 1) = u by
                    unfold La.skip
                    by_cases e : u < t
                    · rw [if_pos e, if_pos e]
                    · rw [if_neg e, if_neg (by omega)]; omega]⟩)
            have hs1 : s = i - 1 := by omega
            subst hs1
            exact sk_again (E' := [(8, .slice pr (i - 1) cr), (9, .slice p1 (j + 1) c1), (10, .slice p2 (j + 1) c2), (11, .int .i64 ((c : Int) + 1)), (0, .int .i64 (P.1 : Int)), (1, .int .i64 (n : Int))]) (m := n - (c + 1)) ⟨rfl, rfl, rfl, rfl, rfl, rfl, trivial⟩ (by omega) ⟨c + 1, j + 1, fun u => if u < j then La.clr (R u) Q c else Q, fun u => if u < j then p u else c, i - 1, fun u => La.clr (A (La.skip t u)) Q c, pr, cr, rvs, Dr, p1, c1, _, D1, p2, c2, _, D2, hrr, k7.up KeptC.out uc, hr1, snoc_ok hro.len.1 ((eo.up KeptC.out uc).congr hro.len.1 (fun u hu => by simp only [if_pos hu])) (by simp only [if_neg (Nat.lt_irrefl j)]; exact KeptC.out _ _ _ _ uc k4), hr2, snoc_ok hrp.len.1 ((ep.up kept_i uc).congr hrp.len.1 (fun u hu => by simp only [if_pos hu])) (by simp only [if_neg (Nat.lt_irrefl j)]; rfl), hE2, by omega, rfl, uc, rfl, rfl⟩
  · obtain rfl : c = n := by omega
    obtain ⟨g1, g2⟩ := hE.done (.inl rfl)
    try refine run_s ?_
    exact sk_ret (Do ++ Dp) sym rfl (.cons (.tmp rfl) (.cons (.tmp rfl) .nil)) uc sb (.inl rfl) ⟨r, R, p, _, _, Do, Dp, rfl, ⟨_, _, _, rfl, hro, eo⟩, ⟨_, _, _, rfl, hrp, ep⟩, rfl, hU1, g1, g2, by omega⟩
theorem z13Echelon_ct {P : Pm} {m n : Nat} {vr : Value} {A0 : Nat → Nat → Fp P} (hv : Ls (Vrs (Vf P) n) 1 m U M vr A0) (hp : P.1 ≤ 65536) (hn : n ≤ 1000000) (hm : m ≤ 1000000) :
    Ct Tryz.prog 21 [.int .i64 (P.1 : Int), .int .i64 (n : Int), vr] G U M fun v U' D => ∃ (r : Nat) (R : Nat → Nat → Fp P) (p : Nat → Nat) (vR vp : Value), v = .tuple #[vR, vp] ∧ Ls (Vrs (Vf P) n) 1 r U' [] vR R ∧ Ls Vi 1 r U' [] vp p ∧ D = [] ∧
      La.Ech r n R p ∧ La.Same r m n R A0 ∧ r ≤ m :=
  (z13Echelon_co hv hp hn hm).settle.mono fun _ _ _ _ ⟨h1, _, _, ⟨r, R, p, vR, vp, _, _, h2, h3, h4, h5, _, h6⟩, _, h7, h8⟩ =>
    ⟨r, R, p, vR, vp, h2, h3.sett KeptC.out h7 (h5 ▸ h8).left, h4.sett kept_i h7 (h5 ▸ h8).right, h1, h6⟩
end Go.Proofs.YtpigpikhjlmdoaaGreat

/- Walks of the reference of layer 13: kernels. -/
namespace Go.Proofs.YtpigpikhjlmdoaaGreat
open Go.Hp
open Go.Fq (Pm Fp Prm)
variable {G : World} {U U' : UH} {M M' : MH}

theorem sk_setAll {K : Kont} {N : Nat} {e : Exit} {E : Env} {D M : MH} (h : ∀ U', ULe U U' → Sett U U' D → SK K N G e E U' M) : SK K N G e E U (D ++ M) :=
  ⟨fun a w ha hw => by
    obtain ⟨U', h1, h2, h3⟩ := mem_settleAll hw
    exact (h U' h1 h3).run a w ha h2⟩

theorem z13Kernel_ct {P : Pm} {m n : Nat} {vm : Value} {A : Nat → Nat → Int} (hm : Vmm Vz m n U M vm A) (hp : P.1 ≤ 65536) (hm1 : m ≤ 1000) (hn1 : n ≤ 1000) :
    Ct Tryz.prog 25 [.int .i64 (P.1 : Int), vm] G U M fun v U' D => ∃ (s : Nat) (K : Nat → Nat → Fp P) (q : Nat → Nat), Vmz (Vf P) s m U' v K ∧ D = [] ∧ La.KerOf m n s (Ofm P A) K q := by
  have hp2 := P.2.two
  have hmn : m * n ≤ 1000 * 1000 := Nat.mul_le_mul hm1 hn1
  have hm2 := hm
  obtain ⟨_, rfl, pa, cm, ms, rfl, -⟩ := hm
  obtain ⟨T, hT⟩ : ∃ T, T = Ofm P A := ⟨_, rfl⟩
  refine ct_of_st Tryz.func25 rfl rfl rfl rfl ?_
  repeat (first | refine run_S ?_ | refine w_box (fun _ => ?_) | refine w_al (fun _ => ?_))
  rename_i b3 b4
  refine sl_call rfl rfl rfl rfl rfl rfl (fun _ => z13Rows_co (P := P) (hm2.up uc sb) hp (by omega) (by omega) (by omega)) ?_
  rintro v1 U1 D1 hU1 ⟨⟨Do, F, pg, cg, svs, rfl, rfl, hro, hgs⟩, -⟩
  rw [← hT] at hgs
  refine sl_perm (M' := (b4, .var (.agg #[.int .i64 0, .int .i64 0, .slice none 0 0]), TF) :: (b3, .var (.agg #[.int .i64 (m : Int), .int .i64 (n : Int), .slice pa (m * n) cm]), TF) :: (Do ++ (F.flatten ++ M))) ?_ pf
  try refine run_s ?_
  try refine st_anti (M' := (b4, .var (.agg #[.int .i64 0, .int .i64 0, .slice none 0 0]), TF) :: (b3, .var (.agg #[.int .i64 (m : Int), .int .i64 (n : Int), .slice pa (m * n) cm]), TF) :: (Do ++ (F.flatten ++ M))) (ULe.refl _) sbk ?_
  refine st_loop (fun z E U' M' => ∃ (i : Nat) (svs : List Value) (F : List MH) (Do : MH), i ≤ m ∧ RowO TIs 1 Do pg m cg svs ∧ (∀ k v, k < i → svs[k]? = some v → Vrs (Vf P) (n + m) U' v (La.aug n T k)) ∧ Gz (Vf P) zO n U' (svs.drop i) F (fun k => T (i + k)) ∧ E = [(6, .int .i64 (i : Int)), (5, .slice pg m cg), (3, .pointer (some ⟨b3, 0, none⟩)), (4, .pointer (some ⟨b4, 0, none⟩)), (0, .int .i64 (P.1 : Int))] ∧ ULe U1 U' ∧ M' = (b4, .var (.agg #[.int .i64 0, .int .i64 0, .slice none 0 0]), TF) :: (b3, .var (.agg #[.int .i64 (m : Int), .int .i64 (n : Int), .slice pa (m * n) cm]), TF) :: (Do ++ (F.flatten ++ M)) ∧ z = m - i) (n0 := m - 0) (E0 := [(6, .int .i64 ((0 : Nat) : Int)), (5, .slice pg m cg), (3, .pointer (some ⟨b3, 0, none⟩)), (4, .pointer (some ⟨b4, 0, none⟩)), (0, .int .i64 (P.1 : Int))]) ⟨rfl, rfl, rfl, rfl, rfl, trivial⟩ ⟨0, svs, F, Do, by omega, hro, (fun k v h => absurd h (Nat.not_lt_zero k)), (by simp only [Nat.zero_add, List.drop_zero]; exact hgs.up uc), rfl, uc, rfl, rfl⟩ ?_
  clear hro hgs
  rintro z E U2 M' ⟨i, svs, F, Do, hi, hro, hN, hgs, rfl, hU2, rfl, rfl⟩
  try refine run_s ?_
  have hsl := hro.len.1
  refine st_dec rfl (fun h => ?_) (fun h => ?_)
  · have him : i < m := by omega
    obtain ⟨q, c', vs, Di, hv, hF, hcc, hR, hel, hFl, -⟩ := hgs.put (i := 0) (by rw [List.length_drop]; omega)
    obtain ⟨F, rfl⟩ : ∃ F', F = Di :: F' := by
      cases F with
      | nil => simp at hF
      | cons a l => simp at hF; exact ⟨l, by rw [hF]⟩
    rw [List.getElem?_drop, Nat.add_zero] at hv
    try refine run_s ?_
    refine sl_make (m := m) (n := m) sym rfl rfl rfl rfl rfl rfl rfl rfl rfl (Nat.le_refl m) (by omega) (by omega) rfl rfl rfl rfl (fun b7 => ?_)
    have hmk := rowO_make (e := TInt) (s := 1) (b := b7) (n := m) (z := .int .i64 0) rfl (by omega)
    try refine run_s ?_
    refine w_addr (j := i) him rfl ?_
    refine w_storeR (v := .int .i64 1) (X := (b4, .var (.agg #[.int .i64 0, .int .i64 0, .slice none 0 0]), TF) :: (b3, .var (.agg #[.int .i64 (m : Int), .int .i64 (n : Int), .slice pa (m * n) cm]), TF) :: (Do ++ ((Di :: F).flatten ++ M))) hmk pf him (fun D3 hru => ?_)
    have hel3 : El (Vf P) U2 ((List.replicate m (Value.int .i64 0)).set i (.int .i64 1)) (fun j => if j = i then (1 : Fp P) else 0) := set_ok (fun t x ht hne => by
      rw [List.getElem?_replicate] at ht
      split at ht
      case isFalse => cases ht
      cases ht
      simp only [if_neg hne]
      show _ = Value.int .i64 (((0 : Fp P).v : Nat) : Int)
      rw [Fq.v_zero]; rfl) (by
      simp only [if_true]
      show _ = Value.int .i64 (((1 : Fp P).v : Nat) : Int)
      rw [Fq.v_one]; rfl)
    try refine run_s ?_
    have rA := hro.at (U := U2) (M := D3 ++ ((b4, .var (.agg #[.int .i64 0, .int .i64 0, .slice none 0 0]), TF) :: (b3, .var (.agg #[.int .i64 (m : Int), .int .i64 (n : Int), .slice pa (m * n) cm]), TF) :: (Do ++ ((Di :: F).flatten ++ M)))) sb
    refine sl_y (yl_index sym rfl rfl rfl rfl rfl rfl (rA.lt hv) (rA.get _ _ hv).1) rfl rfl rfl rfl ?_; refine sl_y (yl_loadR1 sym rfl rfl rfl rfl rA hv rfl) rfl rfl rfl rfl ?_
    try refine run_s ?_
    refine w_app (X := D3 ++ ((b4, .var (.agg #[.int .i64 0, .int .i64 0, .slice none 0 0]), TF) :: (b3, .var (.agg #[.int .i64 (m : Int), .int .i64 (n : Int), .slice pa (m * n) cm]), TF) :: (Do ++ (F.flatten ++ M)))) hR pf (hru.at sb) (El.ones hel3 fun _ _ h => one_f h) (fun p4 c4 D4 hr4 => ?_)
    try refine run_s ?_
    refine w_addr (j := i) him (hro.some (by omega)) ?_
    refine w_storeR (X := D4 ++ (D3 ++ ((b4, .var (.agg #[.int .i64 0, .int .i64 0, .slice none 0 0]), TF) :: (b3, .var (.agg #[.int .i64 (m : Int), .int .i64 (n : Int), .slice pa (m * n) cm]), TF) :: (F.flatten ++ M)))) hro pf him (fun D5 hr5 => ?_)
    refine sl_drop (M' := D5 ++ (D4 ++ ((b4, .var (.agg #[.int .i64 0, .int .i64 0, .slice none 0 0]), TF) :: (b3, .var (.agg #[.int .i64 (m : Int), .int .i64 (n : Int), .slice pa (m * n) cm]), TF) :: (F.flatten ++ M)))) sbk ?_
    refine sl_perm (M' := D4 ++ ((b4, .var (.agg #[.int .i64 0, .int .i64 0, .slice none 0 0]), TF) :: (b3, .var (.agg #[.int .i64 (m : Int), .int .i64 (n : Int), .slice pa (m * n) cm]), TF) :: (D5 ++ (F.flatten ++ M)))) ?_ pf
    try refine run_s ?_
    refine sk_setAll fun U4 hU4 hs4 => ?_
    refine sk_again (E' := [(6, .int .i64 ((i : Int) + 1)), (5, .slice pg m cg), (3, .pointer (some ⟨b3, 0, none⟩)), (4, .pointer (some ⟨b4, 0, none⟩)), (0, .int .i64 (P.1 : Int))]) (m := m - (i + 1)) ⟨rfl, rfl, rfl, rfl, rfl, trivial⟩ (by omega)
      ⟨i + 1, _, F, D5, by omega, hr5, (fun k v hk hv => ?_), ?_, rfl, uc, rfl, rfl⟩
    · by_cases ek : k = i
      · subst ek
        rw [List.getElem?_set_self (by omega)] at hv
        cases hv
        refine ⟨p4, c4, _, rfl, hr4.len.2.1, hr4.sett hs4, app_ok (g := La.aug n T k) hR.len.1 ?_ ?_⟩
        · exact (El.congr hel hR.len.1 fun j hj => (La.aug_l hj).symm).up KeptC.out uc
        · intro t x ht
          rw [La.aug_r]
          have h5 := hel3 t x ht
          simp only at h5
          unfold La.idm
          by_cases e5 : t = k
          · rw [if_pos e5] at h5; rw [if_pos e5.symm]; exact h5
          · rw [if_neg e5] at h5; rw [if_neg (Ne.symm e5)]; exact h5
      · rw [List.getElem?_set_ne (Ne.symm ek)] at hv
        exact KeptC.out _ _ _ _ uc (hN k v (by omega) hv)
    · have h6 := hgs.tail
      rw [List.tail_drop] at h6
      rw [List.drop_set_of_lt (by omega)]
      refine Gz.cong2 (h6.up uc) fun k => ?_
      rw [show i + (k + 1) = i + 1 + k by omega]
  obtain rfl : m = i := by omega
  rw [List.drop_of_length_le (by omega)] at hgs
  have hF0 : F = [] := List.eq_nil_of_length_eq_zero (by rw [← hgs.1]; rfl)
  subst hF0
  have hLs : Ls (Vrs (Vf P) (n + m)) 1 m U2 Do (.slice pg m cg) (La.aug n T) :=
    ⟨pg, cg, svs, rfl, hro.len.2.1, hro.at (List.Sublist.refl _), fun k v hv => hN k v (by rw [← hsl]; exact (List.getElem?_eq_some_iff.1 hv).1) hv⟩
  try refine run_s ?_
  refine sl_call rfl rfl rfl rfl rfl rfl (fun _ => z13Echelon_ct (P := P) (n := n + m) (Ls.up (M' := _) hLs KeptC.out uc sb) hp (by omega) (by omega)) ?_
  rintro v3 U3 D hU3 ⟨r, R, p, vR, vp, rfl, h3, h4, rfl, hE, hS, -⟩
  rw [List.nil_append]
  obtain ⟨s, hsr, hp1, hp2⟩ := La.split_pivots (n := n) hE.mono
  obtain ⟨hk, -, -, hrm⟩ := La.kern_ref hE hS hsr hp1 hp2
  obtain rfl : m = r := hrm.symm
  obtain ⟨pR, cR, rs, rfl, hcR, rR, eR⟩ := h3
  obtain ⟨pp, cp, ps, rfl, hcp, rp, ep⟩ := h4
  try refine run_s ?_
  try refine st_anti (M' := (b4, .var (.agg #[.int .i64 0, .int .i64 0, .slice none 0 0]), TF) :: (b3, .var (.agg #[.int .i64 (m : Int), .int .i64 (n : Int), .slice pa (m * n) cm]), TF) :: (([]) ++ M)) (ULe.refl _) sbk ?_
  refine st_loop (fun z E U' M' => ∃ (i k : Nat) (po : Option Addr) (co : Nat) (ovs : List Value) (Do : MH), k = i - s ∧ i ≤ m ∧ RowO TIs 1 Do po k co ovs ∧ El (Vrs (Vf P) m) U' ovs (fun a j => R (s + a) (n + j)) ∧ U3 = U' ∧ E = [(11, .int .i64 (i : Int)), (10, .slice po k co), (8, .slice pR m cR), (9, .slice pp m cp), (3, .pointer (some ⟨b3, 0, none⟩)), (4, .pointer (some ⟨b4, 0, none⟩))] ∧ ULe U3 U' ∧ M' = (b4, .var (.agg #[.int .i64 0, .int .i64 0, .slice none 0 0]), TF) :: (b3, .var (.agg #[.int .i64 (m : Int), .int .i64 (n : Int), .slice pa (m * n) cm]), TF) :: (Do ++ M) ∧ z = m - i) (n0 := m - 0) (E0 := [(11, .int .i64 ((0 : Nat) : Int)), (10, .slice none 0 0), (8, .slice pR m cR), (9, .slice pp m cp), (3, .pointer (some ⟨b3, 0, none⟩)), (4, .pointer (some ⟨b4, 0, none⟩))]) ⟨rfl, rfl, rfl, rfl, rfl, rfl, trivial⟩ ⟨0, 0, none, 0, [], [], (Nat.zero_sub s).symm, by omega, RowO.nil, El.nil, rfl, rfl, uc, rfl, rfl⟩ ?_
  rintro z E U4 M' ⟨i, k, po, co, ovs, Do, hki, hi, hrow, hel, rfl, rfl, hU4, rfl, rfl⟩
  try refine run_s ?_
  refine st_dec rfl (fun h5 => ?_) (fun h5 => ?_)
  · have hir : i < m := by omega
    have rp2 := rp.ls (U' := U3) (M := (b4, .var (.agg #[.int .i64 0, .int .i64 0, .slice none 0 0]), TF) :: (b3, .var (.agg #[.int .i64 (m : Int), .int .i64 (n : Int), .slice pa (m * n) cm]), TF) :: (Do ++ M)) (ULe.refl _)
    obtain ⟨v1, hv1⟩ := rp2.at hir
    obtain rfl := ep _ _ hv1
    try refine run_s ?_
    refine st_draw [0, 1, 2, 3, 4, 5, 6] sym (by kernel_rfl) ?_
    try refine run_s ?_
    refine sl_y (yl_index sym rfl rfl rfl rfl rfl rfl (rp2.lt hv1) (rp2.get _ _ hv1).1) rfl rfl rfl rfl ?_; refine sl_y (yl_loadR1 sym rfl rfl rfl rfl rp2 hv1 rfl) rfl rfl rfl rfl ?_
    try refine run_s ?_
    refine st_dec rfl (fun h6 => ?_) (fun h6 => ?_)
    · have hsi : s ≤ i := by
        rcases Nat.lt_or_ge i s with h7 | h7
        · have := hp1 i h7; omega
        · exact h7
      have rR2 := rR.ls (U' := U3) (M := (b4, .var (.agg #[.int .i64 0, .int .i64 0, .slice none 0 0]), TF) :: (b3, .var (.agg #[.int .i64 (m : Int), .int .i64 (n : Int), .slice pa (m * n) cm]), TF) :: (Do ++ M)) (ULe.refl _)
      obtain ⟨v2, hv2⟩ := rR2.at hir
      obtain ⟨q2, c2, us, rfl, hc2, ru, eu⟩ := eR _ _ hv2
      try refine run_s ?_
      refine st_drawM [7, 8, 9, 10] [0, 1, 2, 3, 4, 5, 6, 7, 8, 9, 10] sym (by kernel_rfl) ?_
      try refine run_s ?_
      refine sl_y (yl_index sym rfl rfl rfl rfl rfl rfl (rR2.lt hv2) (rR2.get _ _ hv2).1) rfl rfl rfl rfl ?_; refine sl_y (yl_loadR1 sym rfl rfl rfl rfl rR2 hv2 rfl) rfl rfl rfl rfl ?_
      try refine run_s ?_
      refine w_sFrom (lo := n) (n := n + m) (by omega) hc2 ?_
      have hpart := ru.drop (l := n) (by omega) hc2
      have e1 : n + m - n = m := by omega
      rw [e1] at hpart ⊢
      generalize (if c2 = n then q2 else q2.map (·.add (n * 1))) = q3 at hpart ⊢
      try refine run_s ?_
      refine w_push hrow (X := (b4, .var (.agg #[.int .i64 0, .int .i64 0, .slice none 0 0]), TF) :: (b3, .var (.agg #[.int .i64 (m : Int), .int .i64 (n : Int), .slice pa (m * n) cm]), TF) :: M) pfs (fun b2 P2 C2 D2 hr2 => ?_)
      refine sl_perm (M' := (b4, .var (.agg #[.int .i64 0, .int .i64 0, .slice none 0 0]), TF) :: (b3, .var (.agg #[.int .i64 (m : Int), .int .i64 (n : Int), .slice pa (m * n) cm]), TF) :: (D2 ++ M)) ?_ pf
      try refine run_s ?_
      refine sk_again (E' := [(11, .int .i64 ((i : Int) + 1)), (10, .slice P2 (k + 1) C2), (8, .slice pR m cR), (9, .slice pp m cp), (3, .pointer (some ⟨b3, 0, none⟩)), (4, .pointer (some ⟨b4, 0, none⟩))]) (m := m - (i + 1)) ⟨rfl, rfl, rfl, rfl, rfl, rfl, trivial⟩ (by omega) ⟨i + 1, k + 1, P2, C2, _, D2, by omega, by omega, hr2, snoc_ok hrow.len.1 hel ⟨q3, c2 - n, _, rfl, by omega, hpart, fun t x ht => by
          rw [List.getElem?_drop] at ht
          rw [show s + k = i by omega]
          exact eu _ _ ht⟩, rfl, rfl, uc, rfl, rfl⟩
    · have hsi : i < s := by
        rcases Nat.lt_or_ge i s with h7 | h7
        · exact h7
        · have := hp2 i h7 hir; omega
      try refine run_s ?_
      exact sk_again (E' := [(11, .int .i64 ((i : Int) + 1)), (10, .slice po k co), (8, .slice pR m cR), (9, .slice pp m cp), (3, .pointer (some ⟨b3, 0, none⟩)), (4, .pointer (some ⟨b4, 0, none⟩))]) (m := m - (i + 1)) ⟨rfl, rfl, rfl, rfl, rfl, rfl, trivial⟩ (by omega) ⟨i + 1, k, po, co, ovs, Do, by omega, by omega, hrow, hel, rfl, rfl, uc, rfl, rfl⟩
  · obtain rfl : m = i := by omega
    subst hki
    have hri : (m - s) * m ≤ 1000 * 1000 := Nat.mul_le_mul (by omega) hm1
    try refine run_s ?_
    refine sl_call rfl rfl rfl rfl rfl rfl (fun _ => z13Of_ct (P := P) (r := m - s) (c := m) ((Lgz.of_s (M := Do) ⟨po, co, ovs, rfl, hrow.len.2.1, hrow.at (List.Sublist.refl _), hel⟩).up uc sb) (by omega) (by omega)) ?_
    rintro v8 U8 D8 hU8 ⟨⟨_, rfl, p8, c8, va, rfl, h9⟩, rfl⟩
    rw [List.nil_append]
    repeat (first | refine run_S ?_ | refine w_box (fun _ => ?_) | refine w_al (fun _ => ?_))
    exact sk_ret [] sym rfl (.cons (.cell 0 rfl rfl rfl) .nil) uc sb (.inl rfl) ⟨m - s, _, _, ⟨_, rfl, p8, c8, va, rfl, h9⟩, rfl, hT ▸ hk⟩
end Go.Proofs.YtpigpikhjlmdoaaGreat
