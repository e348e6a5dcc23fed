/- Texts of this seat's own, merged: each begins with its own remark. -/
import Derived.Test.YtpigpikhjlmdoaaGreatM45
import Derived.Test.YtpigpikhjlmdoaaGreatM42
import Derived.Test.YtpigpikhjlmdoaaGreatM48
/- Walks of modmatrix: products. -/
namespace Go.Proofs.YtpigpikhjlmdoaaGreat
open Go.Hp
open Go.Fq (Pm Fp Prm)
variable {G : World} {U U' : UH} {M M' : MH}
theorem fMul_ct {P : Pm} {r k c : Nat} {va vb : Value} {A B : Nat → Nat → Int} (ha : Vmm Vz r k U M va A) (hb : Vmm Vz k c U M vb B) (hp : P.1 ≤ 65521) (hr : r ≤ 1000) (hk : k ≤ 1000) (hc : c ≤ 1000) :
    Ct Tryz.prog 16 [.int .i64 (P.1 : Int), va, vb] G U M fun v U' D => ∃ vR : Value, v = .tuple #[vR, .int .i64 0] ∧ Vmz (Vf P) r c U' vR (La.mm k (Ofm P A) (Ofm P B)) ∧ D = [] := by
  have hp2 := P.2.two
  have h1 : r * k ≤ 1000 * 1000 := Nat.mul_le_mul hr hk
  have h2 : k * c ≤ 1000 * 1000 := Nat.mul_le_mul hk hc
  have h3 : r * c ≤ 1000 * 1000 := Nat.mul_le_mul hr hc
  suffices H : Ct Tryz.prog 16 [.int .i64 (P.1 : Int), va, vb] G U M fun v U' D => ∃ vR : Value, v = .tuple #[vR, .int .i64 0] ∧ Vmoz (Vf P) r c U' D vR (La.mm k (Ofm P A) (Ofm P B)) ∧ ULe U U' from
    H.settle.mono fun _ _ _ _ ⟨g1, _, _, ⟨vR, g2, ⟨a, g3, g4⟩, _⟩, _, g5, g6⟩ => ⟨vR, g2, ⟨a, g3, g4.sett KeptC.out g5 g6⟩, g1⟩
  have ha2 := ha
  have hb2 := hb
  obtain ⟨_, rfl, pa, ca, xa, rfl, -⟩ := ha
  obtain ⟨_, rfl, pb, cb, xb, rfl, -⟩ := hb
  refine ct_of_st Tryz.func16 rfl rfl rfl rfl ?_
  repeat (first | refine run_S ?_ | refine w_box (fun _ => ?_) | refine w_al (fun _ => ?_))
  rename_i b4 b5 b6
  refine sl_bslice (vs := [.agg #[.int .i64 (r : Int), .int .i64 (k : Int), .slice pa (r * k) ca], .agg #[.int .i64 (k : Int), .int .i64 (c : Int), .slice pb (k * c) cb]]) sym rfl rfl rfl rfl rfl rfl (all_size rfl) rfl rfl rfl rfl rfl rfl (fun b21 => ?_)
  repeat (first | refine run_S ?_ | refine w_box (fun _ => ?_) | refine w_al (fun _ => ?_))
  try refine st_anti (M' := (b21, .arr [.agg #[.int .i64 (r : Int), .int .i64 (k : Int), .slice pa (r * k) ca], .agg #[.int .i64 (k : Int), .int .i64 (c : Int), .slice pb (k * c) cb]], TF) :: (b6, .var (.agg #[.int .i64 0, .int .i64 0, .slice none 0 0]), TF) :: (b5, .var (.agg #[.int .i64 (k : Int), .int .i64 (c : Int), .slice pb (k * c) cb]), TF) :: (b4, .var (.agg #[.int .i64 (r : Int), .int .i64 (k : Int), .slice pa (r * k) ca]), TF) :: M) (ULe.refl _) sbk ?_
  refine st_loop (fun z E U' M' => ∃ (i : Nat), i ≤ 2 ∧ U = U' ∧ E = [(23, .int .i64 (i : Int)), (22, .int .i64 2), (21, .slice (some ⟨b21, 0, none⟩) 2 2), (7, .int .i64 0), (6, .pointer (some ⟨b6, 0, none⟩)), (5, .pointer (some ⟨b5, 0, none⟩)), (4, .pointer (some ⟨b4, 0, none⟩)), (0, .int .i64 (P.1 : Int))] ∧ ULe U U' ∧ M' = (b21, .arr [.agg #[.int .i64 (r : Int), .int .i64 (k : Int), .slice pa (r * k) ca], .agg #[.int .i64 (k : Int), .int .i64 (c : Int), .slice pb (k * c) cb]], TF) :: (b6, .var (.agg #[.int .i64 0, .int .i64 0, .slice none 0 0]), TF) :: (b5, .var (.agg #[.int .i64 (k : Int), .int .i64 (c : Int), .slice pb (k * c) cb]), TF) :: (b4, .var (.agg #[.int .i64 (r : Int), .int .i64 (k : Int), .slice pa (r * k) ca]), TF) :: M ∧ z = 2 - i) (n0 := 2 - 0) (E0 := [(23, .int .i64 ((0 : Nat) : Int)), (22, .int .i64 2), (21, .slice (some ⟨b21, 0, none⟩) 2 2), (7, .int .i64 0), (6, .pointer (some ⟨b6, 0, none⟩)), (5, .pointer (some ⟨b5, 0, none⟩)), (4, .pointer (some ⟨b4, 0, none⟩)), (0, .int .i64 (P.1 : Int))]) ⟨rfl, rfl, rfl, rfl, rfl, rfl, rfl, rfl, trivial⟩ ⟨0, by omega, rfl, rfl, uc, rfl, rfl⟩ ?_
  rintro z E U1 M' ⟨i, hi, rfl, rfl, hU1, rfl, rfl⟩
  try refine run_s ?_
  have hrl := (RowO.mk (e := TF) (s := 3) (b := b21) (n := 2) (vs := [.agg #[.int .i64 (r : Int), .int .i64 (k : Int), .slice pa (r * k) ca], .agg #[.int .i64 (k : Int), .int .i64 (c : Int), .slice pb (k * c) cb]]) rfl (all_size rfl) (by omega)).at (U := U) (M := (b21, .arr [.agg #[.int .i64 (r : Int), .int .i64 (k : Int), .slice pa (r * k) ca], .agg #[.int .i64 (k : Int), .int .i64 (c : Int), .slice pb (k * c) cb]], TF) :: (b6, .var (.agg #[.int .i64 0, .int .i64 0, .slice none 0 0]), TF) :: (b5, .var (.agg #[.int .i64 (k : Int), .int .i64 (c : Int), .slice pb (k * c) cb]), TF) :: (b4, .var (.agg #[.int .i64 (r : Int), .int .i64 (k : Int), .slice pa (r * k) ca]), TF) :: M) sb
  refine st_dec rfl (fun h => ?_) (fun h => ?_)
  · rcases (show i = 0 ∨ i = 1 by omega) with rfl | rfl
    · have hv0 : ([.agg #[.int .i64 (r : Int), .int .i64 (k : Int), .slice pa (r * k) ca], .agg #[.int .i64 (k : Int), .int .i64 (c : Int), .slice pb (k * c) cb]] : List Value)[0]? = some (.agg #[.int .i64 (r : Int), .int .i64 (k : Int), .slice pa (r * k) ca]) := rfl
      repeat (first | refine run_S ?_ | refine w_box (fun _ => ?_) | refine w_al (fun _ => ?_))
      refine sl_y (yl_index sym rfl rfl rfl rfl rfl rfl (hrl.lt hv0) (hrl.get _ _ hv0).1) rfl rfl rfl rfl ?_; refine sl_y (yl_loadRs sym rfl rfl rfl rfl rfl hrl hv0) rfl rfl rfl rfl ?_
      repeat (first | refine run_S ?_ | refine w_box (fun _ => ?_) | refine w_al (fun _ => ?_))
      rename_i b9
      refine sl_call rfl rfl rfl rfl rfl rfl (fun _ => fcheck_ct (z := (P.1 : Int)) (r := (r : Int)) (c := (k : Int)) (n := r * k) (p := pa) (cc := ca) (by omega)) ?_
      rintro v U' D hU ⟨rfl, rfl, rfl⟩
      repeat (first | refine run_S ?_ | refine w_box (fun _ => ?_) | refine w_al (fun _ => ?_))
      rw [errF_ok hp (by omega) (by omega)]
      refine st_ne rfl (fun h => absurd rfl h) (fun _ => ?_)
      repeat (first | refine run_S ?_ | refine w_box (fun _ => ?_) | refine w_al (fun _ => ?_))
      refine sk_anti (M' := (b21, .arr [.agg #[.int .i64 (r : Int), .int .i64 (k : Int), .slice pa (r * k) ca], .agg #[.int .i64 (k : Int), .int .i64 (c : Int), .slice pb (k * c) cb]], TF) :: (b6, .var (.agg #[.int .i64 0, .int .i64 0, .slice none 0 0]), TF) :: (b5, .var (.agg #[.int .i64 (k : Int), .int .i64 (c : Int), .slice pb (k * c) cb]), TF) :: (b4, .var (.agg #[.int .i64 (r : Int), .int .i64 (k : Int), .slice pa (r * k) ca]), TF) :: M) (ULe.refl _) sbk ?_
      exact sk_again (E' := [(23, .int .i64 ((1 : Nat) : Int)), (22, .int .i64 2), (21, .slice (some ⟨b21, 0, none⟩) 2 2), (7, .int .i64 0), (6, .pointer (some ⟨b6, 0, none⟩)), (5, .pointer (some ⟨b5, 0, none⟩)), (4, .pointer (some ⟨b4, 0, none⟩)), (0, .int .i64 (P.1 : Int))]) (m := 2 - 1) ⟨rfl, rfl, rfl, rfl, rfl, rfl, rfl, rfl, trivial⟩ (by omega) ⟨1, by omega, rfl, rfl, uc, rfl, rfl⟩
    · have hv0 : ([.agg #[.int .i64 (r : Int), .int .i64 (k : Int), .slice pa (r * k) ca], .agg #[.int .i64 (k : Int), .int .i64 (c : Int), .slice pb (k * c) cb]] : List Value)[1]? = some (.agg #[.int .i64 (k : Int), .int .i64 (c : Int), .slice pb (k * c) cb]) := rfl
      repeat (first | refine run_S ?_ | refine w_box (fun _ => ?_) | refine w_al (fun _ => ?_))
      refine sl_y (yl_index sym rfl rfl rfl rfl rfl rfl (hrl.lt hv0) (hrl.get _ _ hv0).1) rfl rfl rfl rfl ?_; refine sl_y (yl_loadRs sym rfl rfl rfl rfl rfl hrl hv0) rfl rfl rfl rfl ?_
      repeat (first | refine run_S ?_ | refine w_box (fun _ => ?_) | refine w_al (fun _ => ?_))
      rename_i b9
      refine sl_call rfl rfl rfl rfl rfl rfl (fun _ => fcheck_ct (z := (P.1 : Int)) (r := (k : Int)) (c := (c : Int)) (n := k * c) (p := pb) (cc := cb) (by omega)) ?_
      rintro v U' D hU ⟨rfl, rfl, rfl⟩
      repeat (first | refine run_S ?_ | refine w_box (fun _ => ?_) | refine w_al (fun _ => ?_))
      rw [errF_ok hp (by omega) (by omega)]
      refine st_ne rfl (fun h => absurd rfl h) (fun _ => ?_)
      repeat (first | refine run_S ?_ | refine w_box (fun _ => ?_) | refine w_al (fun _ => ?_))
      refine sk_anti (M' := (b21, .arr [.agg #[.int .i64 (r : Int), .int .i64 (k : Int), .slice pa (r * k) ca], .agg #[.int .i64 (k : Int), .int .i64 (c : Int), .slice pb (k * c) cb]], TF) :: (b6, .var (.agg #[.int .i64 0, .int .i64 0, .slice none 0 0]), TF) :: (b5, .var (.agg #[.int .i64 (k : Int), .int .i64 (c : Int), .slice pb (k * c) cb]), TF) :: (b4, .var (.agg #[.int .i64 (r : Int), .int .i64 (k : Int), .slice pa (r * k) ca]), TF) :: M) (ULe.refl _) sbk ?_
      exact sk_again (E' := [(23, .int .i64 ((2 : Nat) : Int)), (22, .int .i64 2), (21, .slice (some ⟨b21, 0, none⟩) 2 2), (7, .int .i64 0), (6, .pointer (some ⟨b6, 0, none⟩)), (5, .pointer (some ⟨b5, 0, none⟩)), (4, .pointer (some ⟨b4, 0, none⟩)), (0, .int .i64 (P.1 : Int))]) (m := 2 - 2) ⟨rfl, rfl, rfl, rfl, rfl, rfl, rfl, rfl, trivial⟩ (by omega) ⟨2, by omega, rfl, rfl, uc, rfl, rfl⟩
  repeat (first | refine run_S ?_ | refine w_box (fun _ => ?_) | refine w_al (fun _ => ?_))
  refine st_ne rfl (fun h => absurd rfl h) (fun _ => ?_)
  repeat (first | refine run_S ?_ | refine w_box (fun _ => ?_) | refine w_al (fun _ => ?_))
  refine st_drawM [5, 6, 7] [0, 1, 3, 4, 2, 5, 6, 7] sym (by kernel_rfl) ?_
  repeat (first | refine run_S ?_ | refine w_box (fun _ => ?_) | refine w_al (fun _ => ?_))
  refine sl_call rfl rfl rfl rfl rfl rfl (fun _ => ct_setgz (fload_co (P := P) (ha2.up uc sb) (by omega) (by omega) (by omega) (by omega))) ?_
  rintro v3 U3 D3 hU3 ⟨⟨px, cx, xs, rfl, -, rx, ex⟩, rfl⟩
  try rw [List.nil_append]
  repeat (first | refine run_S ?_ | refine w_box (fun _ => ?_) | refine w_al (fun _ => ?_))
  refine sl_call rfl rfl rfl rfl rfl rfl (fun _ => ct_setgz (fload_co (P := P) (hb2.up uc sb) (by omega) (by omega) (by omega) (by omega))) ?_
  rintro v4 U4 D4 hU4 ⟨⟨py, cy, ys, rfl, -, ry, ey⟩, rfl⟩
  try rw [List.nil_append]
  repeat (first | refine run_S ?_ | refine w_box (fun _ => ?_) | refine w_al (fun _ => ?_))
  refine sl_make (m := r) (n := r) sym rfl rfl rfl rfl rfl rfl rfl rfl rfl (Nat.le_refl r) (by omega) (by omega) rfl rfl rfl rfl (fun b13 => ?_)
  have hmk := rowO_make (e := TIs) (s := 1) (b := b13) (n := r) (z := .slice none 0 0) rfl (by omega)
  try refine run_s ?_
  refine st_perm (M' := (b21, .arr [.agg #[.int .i64 (r : Int), .int .i64 (k : Int), .slice pa (r * k) ca], .agg #[.int .i64 (k : Int), .int .i64 (c : Int), .slice pb (k * c) cb]], TF) :: (b6, .var (.agg #[.int .i64 0, .int .i64 0, .slice none 0 0]), TF) :: (b5, .var (.agg #[.int .i64 (k : Int), .int .i64 (c : Int), .slice pb (k * c) cb]), TF) :: (b4, .var (.agg #[.int .i64 (r : Int), .int .i64 (k : Int), .slice pa (r * k) ca]), TF) :: ([(b13, .arr (List.replicate r (.slice none 0 0)), TIs)] ++ M)) pfs ?_
  refine st_anti (M' := (b6, .var (.agg #[.int .i64 0, .int .i64 0, .slice none 0 0]), TF) :: (b5, .var (.agg #[.int .i64 (k : Int), .int .i64 (c : Int), .slice pb (k * c) cb]), TF) :: (b4, .var (.agg #[.int .i64 (r : Int), .int .i64 (k : Int), .slice pa (r * k) ca]), TF) :: ([(b13, .arr (List.replicate r (.slice none 0 0)), TIs)] ++ M)) (ULe.refl _) sbk ?_
  generalize hXX : (fun i j => Fq.of P (A i j)) = X at ex
  generalize hYY : (fun i j => Fq.of P (B i j)) = Y at ey
  have hXY : La.mm k (Ofm P A) (Ofm P B) = La.mm k X Y := by rw [← hXX, ← hYY]
  rw [hXY]
  clear hXY hXX hYY
  try refine st_anti (M' := (b6, .var (.agg #[.int .i64 0, .int .i64 0, .slice none 0 0]), TF) :: (b5, .var (.agg #[.int .i64 (k : Int), .int .i64 (c : Int), .slice pb (k * c) cb]), TF) :: (b4, .var (.agg #[.int .i64 (r : Int), .int .i64 (k : Int), .slice pa (r * k) ca]), TF) :: (([(b13, _, _)]) ++ (([]).flatten ++ M))) (ULe.refl _) sbk ?_
  refine st_loop (fun z E U' M' => ∃ (i : Nat) (svs : List Value) (Do : MH) (F : List MH), i ≤ r ∧ RowO TIs 1 Do (some ⟨b13, 0, none⟩) r r svs ∧ Gz (Vf P) zO c U' (svs.take i) F (La.mm k X Y) ∧ E = [(52, .int .i64 (i : Int)), (51, .int .i64 (r : Int)), (50, .slice px r cx), (12, .slice py k cy), (13, .slice (some ⟨b13, 0, none⟩) r r), (7, .int .i64 0), (6, .pointer (some ⟨b6, 0, none⟩)), (5, .pointer (some ⟨b5, 0, none⟩)), (4, .pointer (some ⟨b4, 0, none⟩)), (0, .int .i64 (P.1 : Int))] ∧ ULe U4 U' ∧ M' = (b6, .var (.agg #[.int .i64 0, .int .i64 0, .slice none 0 0]), TF) :: (b5, .var (.agg #[.int .i64 (k : Int), .int .i64 (c : Int), .slice pb (k * c) cb]), TF) :: (b4, .var (.agg #[.int .i64 (r : Int), .int .i64 (k : Int), .slice pa (r * k) ca]), TF) :: (Do ++ (F.flatten ++ M)) ∧ z = r - i) (n0 := r - 0) (E0 := [(52, .int .i64 ((0 : Nat) : Int)), (51, .int .i64 (r : Int)), (50, .slice px r cx), (12, .slice py k cy), (13, .slice (some ⟨b13, 0, none⟩) r r), (7, .int .i64 0), (6, .pointer (some ⟨b6, 0, none⟩)), (5, .pointer (some ⟨b5, 0, none⟩)), (4, .pointer (some ⟨b4, 0, none⟩)), (0, .int .i64 (P.1 : Int))]) ⟨rfl, rfl, rfl, rfl, rfl, rfl, rfl, rfl, rfl, rfl, trivial⟩ ⟨0, _, [(b13, _, _)], [], by omega, hmk, Gz.nil, rfl, uc, rfl, rfl⟩ ?_
  clear hmk
  rintro z E U5 M' ⟨i, svs, Do, F, hi, hro, hg, rfl, hU5, rfl, rfl⟩
  try refine run_s ?_
  refine st_dec rfl (fun h => ?_) (fun h => ?_)
  · have hir : i < r := by omega
    obtain ⟨v1, hv1⟩ := rx.at hir
    obtain ⟨p1, c1, us1, rfl, -, ru1, eu1⟩ := ex _ _ hv1
    try refine run_s ?_
    refine sl_y (yl_index sym rfl rfl rfl rfl rfl rfl ((rx.up uc sb).lt hv1) ((rx.up uc sb).get _ _ hv1).1) rfl rfl rfl rfl ?_; refine sl_y (yl_loadR1 sym rfl rfl rfl rfl (rx.up uc sb) hv1 rfl) rfl rfl rfl rfl ?_
    try refine run_s ?_
    refine sl_make (m := c) (n := c) sym rfl rfl rfl rfl rfl rfl rfl rfl rfl (Nat.le_refl c) (by omega) (by omega) rfl rfl rfl rfl (fun b61 => ?_)
    have hmk := rowO_make (e := TInt) (s := 1) (b := b61) (n := c) (z := .int .i64 0) rfl (by omega)
    refine w_addr (j := i) hir rfl ?_
    refine w_storeR (X := (b61, .arr (List.replicate c (.int .i64 0)), TInt) :: (b6, .var (.agg #[.int .i64 0, .int .i64 0, .slice none 0 0]), TF) :: (b5, .var (.agg #[.int .i64 (k : Int), .int .i64 (c : Int), .slice pb (k * c) cb]), TF) :: (b4, .var (.agg #[.int .i64 (r : Int), .int .i64 (k : Int), .slice pa (r * k) ca]), TF) :: (F.flatten ++ M)) hro pf hir (fun D2 hr2 => ?_)
    refine sl_perm (M' := (b6, .var (.agg #[.int .i64 0, .int .i64 0, .slice none 0 0]), TF) :: (b5, .var (.agg #[.int .i64 (k : Int), .int .i64 (c : Int), .slice pb (k * c) cb]), TF) :: (b4, .var (.agg #[.int .i64 (r : Int), .int .i64 (k : Int), .slice pa (r * k) ca]), TF) :: ([(b61, .arr (List.replicate c (.int .i64 0)), TInt)] ++ (D2 ++ (F.flatten ++ M)))) ?_ pf
    have hsl := hro.len.1
    have hvi : (svs.set i (.slice (some ⟨b61, 0, none⟩) c c))[i]? = some (.slice (some ⟨b61, 0, none⟩) c c) := List.getElem?_set_self (by omega)
    have hgi : Gz (Vf P) zO c U5 ((svs.set i (.slice (some ⟨b61, 0, none⟩) c c)).take i) F (La.mm k X Y) := by rw [List.take_set_of_le (Nat.le_refl i)]; exact hg
    generalize svs.set i (.slice (some ⟨b61, 0, none⟩) c c) = sv2 at hr2 hvi hgi
    clear hro hg hsl
    have hz0 : El (Vf P) U5 (List.replicate c (.int .i64 0)) (fun j => La.sm 0 fun s => X i s * Y s j) := fun j x hj => by
      rw [List.getElem?_replicate] at hj
      split at hj
      case isFalse => cases hj
      cases hj
      show _ = Value.int .i64 (((0 : Fp P).v : Nat) : Int)
      rw [Fq.v_zero]; rfl
    try refine run_s ?_
    try refine st_anti (M' := (b6, .var (.agg #[.int .i64 0, .int .i64 0, .slice none 0 0]), TF) :: (b5, .var (.agg #[.int .i64 (k : Int), .int .i64 (c : Int), .slice pb (k * c) cb]), TF) :: (b4, .var (.agg #[.int .i64 (r : Int), .int .i64 (k : Int), .slice pa (r * k) ca]), TF) :: (Dr ++ (D2 ++ (F.flatten ++ M)))) (ULe.refl _) sbk ?_
    refine st_loop (fun z E U' M' => ∃ (t : Nat) (us : List Value) (Dr : MH), t ≤ k ∧ RowO TInt 1 Dr (some ⟨b61, 0, none⟩) c c us ∧ El (Vf P) U' us (fun j => La.sm t fun s => X i s * Y s j) ∧ E = [(65, .int .i64 (t : Int)), (64, .int .i64 (k : Int)), (63, .slice p1 k c1), (14, .int .i64 (i : Int)), (52, .int .i64 (i : Int)), (51, .int .i64 (r : Int)), (50, .slice px r cx), (12, .slice py k cy), (13, .slice (some ⟨b13, 0, none⟩) r r), (7, .int .i64 0), (6, .pointer (some ⟨b6, 0, none⟩)), (5, .pointer (some ⟨b5, 0, none⟩)), (4, .pointer (some ⟨b4, 0, none⟩)), (0, .int .i64 (P.1 : Int))] ∧ ULe U5 U' ∧ M' = (b6, .var (.agg #[.int .i64 0, .int .i64 0, .slice none 0 0]), TF) :: (b5, .var (.agg #[.int .i64 (k : Int), .int .i64 (c : Int), .slice pb (k * c) cb]), TF) :: (b4, .var (.agg #[.int .i64 (r : Int), .int .i64 (k : Int), .slice pa (r * k) ca]), TF) :: (Dr ++ (D2 ++ (F.flatten ++ M))) ∧ z = k - t) (n0 := k - 0) (E0 := [(65, .int .i64 ((0 : Nat) : Int)), (64, .int .i64 (k : Int)), (63, .slice p1 k c1), (14, .int .i64 (i : Int)), (52, .int .i64 (i : Int)), (51, .int .i64 (r : Int)), (50, .slice px r cx), (12, .slice py k cy), (13, .slice (some ⟨b13, 0, none⟩) r r), (7, .int .i64 0), (6, .pointer (some ⟨b6, 0, none⟩)), (5, .pointer (some ⟨b5, 0, none⟩)), (4, .pointer (some ⟨b4, 0, none⟩)), (0, .int .i64 (P.1 : Int))]) ⟨rfl, rfl, rfl, rfl, rfl, rfl, rfl, rfl, rfl, rfl, rfl, rfl, rfl, rfl, trivial⟩ ⟨0, _, _, by omega, hmk, hz0, rfl, uc, rfl, rfl⟩ ?_
    clear hmk hz0
    rintro z E U6 M' ⟨t, us, Dr, ht, hrow, hel, rfl, hU6, rfl, rfl⟩
    try refine run_s ?_
    refine st_dec rfl (fun h2 => ?_) (fun h2 => ?_)
    · have htk : t < k := by omega
      obtain ⟨v2, hv2⟩ := ru1.at htk
      obtain rfl := eu1 _ _ hv2
      obtain ⟨v3, hv3⟩ := ry.at htk
      obtain ⟨p3, c3, us3, rfl, -, ru3, eu3⟩ := ey _ _ hv3
      have rO := hr2.at (U := U6) (M := (b6, .var (.agg #[.int .i64 0, .int .i64 0, .slice none 0 0]), TF) :: (b5, .var (.agg #[.int .i64 (k : Int), .int .i64 (c : Int), .slice pb (k * c) cb]), TF) :: (b4, .var (.agg #[.int .i64 (r : Int), .int .i64 (k : Int), .slice pa (r * k) ca]), TF) :: (Dr ++ (D2 ++ (F.flatten ++ M)))) sb
      try refine run_s ?_
      refine sl_y (yl_index sym rfl rfl rfl rfl rfl rfl ((ru1.up uc sb).lt hv2) ((ru1.up uc sb).get _ _ hv2).1) rfl rfl rfl rfl ?_; refine sl_y (yl_loadR1 sym rfl rfl rfl rfl (ru1.up uc sb) hv2 rfl) rfl rfl rfl rfl ?_
      try refine run_s ?_
      refine sl_y (yl_index sym rfl rfl rfl rfl rfl rfl (rO.lt hvi) (rO.get _ _ hvi).1) rfl rfl rfl rfl ?_; refine sl_y (yl_loadR1 sym rfl rfl rfl rfl rO hvi rfl) rfl rfl rfl rfl ?_
      try refine run_s ?_
      try refine st_anti (M' := (b6, .var (.agg #[.int .i64 0, .int .i64 0, .slice none 0 0]), TF) :: (b5, .var (.agg #[.int .i64 (k : Int), .int .i64 (c : Int), .slice pb (k * c) cb]), TF) :: (b4, .var (.agg #[.int .i64 (r : Int), .int .i64 (k : Int), .slice pa (r * k) ca]), TF) :: (Dr ++ (D2 ++ (F.flatten ++ M)))) (ULe.refl _) sbk ?_
      refine st_loop (fun z E U' M' => ∃ (j : Nat) (us : List Value) (Dr : MH), j ≤ c ∧ RowO TInt 1 Dr (some ⟨b61, 0, none⟩) c c us ∧ El (Vf P) U' us (fun l => if l < j then La.sm (t + 1) fun s => X i s * Y s l else La.sm t fun s => X i s * Y s l) ∧ E = [(75, .int .i64 (j : Int)), (74, .int .i64 (c : Int)), (16, .int .i64 (t : Int)), (17, .int .i64 ((X i t).v : Int)), (65, .int .i64 (t : Int)), (64, .int .i64 (k : Int)), (63, .slice p1 k c1), (14, .int .i64 (i : Int)), (52, .int .i64 (i : Int)), (51, .int .i64 (r : Int)), (50, .slice px r cx), (12, .slice py k cy), (13, .slice (some ⟨b13, 0, none⟩) r r), (7, .int .i64 0), (6, .pointer (some ⟨b6, 0, none⟩)), (5, .pointer (some ⟨b5, 0, none⟩)), (4, .pointer (some ⟨b4, 0, none⟩)), (0, .int .i64 (P.1 : Int))] ∧ ULe U6 U' ∧ M' = (b6, .var (.agg #[.int .i64 0, .int .i64 0, .slice none 0 0]), TF) :: (b5, .var (.agg #[.int .i64 (k : Int), .int .i64 (c : Int), .slice pb (k * c) cb]), TF) :: (b4, .var (.agg #[.int .i64 (r : Int), .int .i64 (k : Int), .slice pa (r * k) ca]), TF) :: (Dr ++ (D2 ++ (F.flatten ++ M))) ∧ z = c - j) (n0 := c - 0) (E0 := [(75, .int .i64 ((0 : Nat) : Int)), (74, .int .i64 (c : Int)), (16, .int .i64 (t : Int)), (17, .int .i64 ((X i t).v : Int)), (65, .int .i64 (t : Int)), (64, .int .i64 (k : Int)), (63, .slice p1 k c1), (14, .int .i64 (i : Int)), (52, .int .i64 (i : Int)), (51, .int .i64 (r : Int)), (50, .slice px r cx), (12, .slice py k cy), (13, .slice (some ⟨b13, 0, none⟩) r r), (7, .int .i64 0), (6, .pointer (some ⟨b6, 0, none⟩)), (5, .pointer (some ⟨b5, 0, none⟩)), (4, .pointer (some ⟨b4, 0, none⟩)), (0, .int .i64 (P.1 : Int))]) ⟨rfl, rfl, rfl, rfl, rfl, rfl, rfl, rfl, rfl, rfl, rfl, rfl, rfl, rfl, rfl, rfl, rfl, rfl, trivial⟩ ⟨0, us, Dr, by omega, hrow, hel.congr hrow.len.1 (fun l _ => (if_neg (Nat.not_lt_zero l)).symm), rfl, uc, rfl, rfl⟩ ?_
      clear hrow hel
      rintro z E U7 M' ⟨j, us, Dr, hj, hrow, hel, rfl, hU7, rfl, rfl⟩
      try refine run_s ?_
      refine st_dec rfl (fun h3 => ?_) (fun h3 => ?_)
      · have hjc : j < c := by omega
        have rA2 := hr2.at (U := U7) (M := (b6, .var (.agg #[.int .i64 0, .int .i64 0, .slice none 0 0]), TF) :: (b5, .var (.agg #[.int .i64 (k : Int), .int .i64 (c : Int), .slice pb (k * c) cb]), TF) :: (b4, .var (.agg #[.int .i64 (r : Int), .int .i64 (k : Int), .slice pa (r * k) ca]), TF) :: (Dr ++ (D2 ++ (F.flatten ++ M)))) sb
        have rB2 := hrow.at (U := U7) (M := (b6, .var (.agg #[.int .i64 0, .int .i64 0, .slice none 0 0]), TF) :: (b5, .var (.agg #[.int .i64 (k : Int), .int .i64 (c : Int), .slice pb (k * c) cb]), TF) :: (b4, .var (.agg #[.int .i64 (r : Int), .int .i64 (k : Int), .slice pa (r * k) ca]), TF) :: (Dr ++ (D2 ++ (F.flatten ++ M)))) sb
        obtain ⟨v4, hv4⟩ := rB2.at hjc
        have e4 := hel _ _ hv4
        simp only at e4
        rw [if_neg (Nat.lt_irrefl j)] at e4
        obtain rfl := e4
        obtain ⟨v5, hv5⟩ := ru3.at hjc
        obtain rfl := eu3 _ _ hv5
        have hbd := fp_bd (X i t) (Y t j) (by omega)
        have hbd2 := (La.sm t fun s => X i s * Y s j).lt
        try refine run_s ?_
        refine st_drawM [24, 25] [0, 1, 2, 3, 4, 5, 6, 7, 8, 9, 10, 11, 12, 13, 14, 15, 16, 17, 18, 19, 20, 21, 22, 23, 24, 25] sym (by kernel_rfl) ?_
        try refine run_s ?_
        refine sl_y (yl_index sym rfl rfl rfl rfl rfl rfl (rA2.lt hvi) (rA2.get _ _ hvi).1) rfl rfl rfl rfl ?_; refine sl_y (yl_loadR1 sym rfl rfl rfl rfl rA2 hvi rfl) rfl rfl rfl rfl ?_
        try refine run_s ?_
        refine sl_y (yl_index sym rfl rfl rfl rfl rfl rfl (rA2.lt hvi) (rA2.get _ _ hvi).1) rfl rfl rfl rfl ?_; refine sl_y (yl_loadR1 sym rfl rfl rfl rfl rA2 hvi rfl) rfl rfl rfl rfl ?_
        try refine run_s ?_
        refine sl_y (yl_index sym rfl rfl rfl rfl rfl rfl (rB2.lt hv4) (rB2.get _ _ hv4).1) rfl rfl rfl rfl ?_; refine sl_y (yl_loadR1 sym rfl rfl rfl rfl rB2 hv4 rfl) rfl rfl rfl rfl ?_
        try refine run_s ?_
        refine sl_y (yl_index sym rfl rfl rfl rfl rfl rfl ((ry.up uc sb).lt hv3) ((ry.up uc sb).get _ _ hv3).1) rfl rfl rfl rfl ?_; refine sl_y (yl_loadR1 sym rfl rfl rfl rfl (ry.up uc sb) hv3 rfl) rfl rfl rfl rfl ?_
        try refine run_s ?_
        refine sl_y (yl_index sym rfl rfl rfl rfl rfl rfl ((ru3.up uc sb).lt hv5) ((ru3.up uc sb).get _ _ hv5).1) rfl rfl rfl rfl ?_; refine sl_y (yl_loadR1 sym rfl rfl rfl rfl (ru3.up uc sb) hv5 rfl) rfl rfl rfl rfl ?_
        try refine run_s ?_
        refine sl_y (yl_fplus (x := La.sm t fun s => X i s * Y s j) (f := X i t) (y := Y t j) rfl rfl rfl (by omega)) rfl rfl rfl rfl ?_
        try refine run_s ?_
        refine w_addr (j := j) hjc rfl ?_
        refine w_storeR (v := .int .i64 ((((La.sm t fun s => X i s * Y s j) + X i t * Y t j).v : Nat) : Int)) (X := (b6, .var (.agg #[.int .i64 0, .int .i64 0, .slice none 0 0]), TF) :: (b5, .var (.agg #[.int .i64 (k : Int), .int .i64 (c : Int), .slice pb (k * c) cb]), TF) :: (b4, .var (.agg #[.int .i64 (r : Int), .int .i64 (k : Int), .slice pa (r * k) ca]), TF) :: (D2 ++ (F.flatten ++ M))) hrow pf hjc (fun D4 hr4 => ?_)
        refine sl_perm (M' := (b6, .var (.agg #[.int .i64 0, .int .i64 0, .slice none 0 0]), TF) :: (b5, .var (.agg #[.int .i64 (k : Int), .int .i64 (c : Int), .slice pb (k * c) cb]), TF) :: (b4, .var (.agg #[.int .i64 (r : Int), .int .i64 (k : Int), .slice pa (r * k) ca]), TF) :: (D4 ++ (D2 ++ (F.flatten ++ M)))) ?_ pf
        try refine run_s ?_
        exact sk_again (E' := [(75, .int .i64 ((j : Int) + 1)), (74, .int .i64 (c : Int)), (16, .int .i64 (t : Int)), (17, .int .i64 ((X i t).v : Int)), (65, .int .i64 (t : Int)), (64, .int .i64 (k : Int)), (63, .slice p1 k c1), (14, .int .i64 (i : Int)), (52, .int .i64 (i : Int)), (51, .int .i64 (r : Int)), (50, .slice px r cx), (12, .slice py k cy), (13, .slice (some ⟨b13, 0, none⟩) r r), (7, .int .i64 0), (6, .pointer (some ⟨b6, 0, none⟩)), (5, .pointer (some ⟨b5, 0, none⟩)), (4, .pointer (some ⟨b4, 0, none⟩)), (0, .int .i64 (P.1 : Int))]) (m := c - (j + 1)) ⟨rfl, rfl, rfl, rfl, rfl, rfl, rfl, rfl, rfl, rfl, rfl, rfl, rfl, rfl, rfl, rfl, rfl, rfl, trivial⟩ (by omega) ⟨j + 1, _, D4, by omega, hr4, set_ok (fun l x hl hne => by
          have := hel l x hl
          simp only at this ⊢
          by_cases e : l < j
          · rw [if_pos e] at this; rw [if_pos (by omega)]; exact this
          · rw [if_neg e] at this; rw [if_neg (by omega)]; exact this) (by simp only [if_pos (Nat.lt_succ_self j)]; rfl), rfl, uc, rfl, rfl⟩
      · obtain rfl : c = j := by omega
        try refine run_s ?_
        exact sk_again (E' := [(65, .int .i64 ((t : Int) + 1)), (64, .int .i64 (k : Int)), (63, .slice p1 k c1), (14, .int .i64 (i : Int)), (52, .int .i64 (i : Int)), (51, .int .i64 (r : Int)), (50, .slice px r cx), (12, .slice py k cy), (13, .slice (some ⟨b13, 0, none⟩) r r), (7, .int .i64 0), (6, .pointer (some ⟨b6, 0, none⟩)), (5, .pointer (some ⟨b5, 0, none⟩)), (4, .pointer (some ⟨b4, 0, none⟩)), (0, .int .i64 (P.1 : Int))]) (m := k - (t + 1)) ⟨rfl, rfl, rfl, rfl, rfl, rfl, rfl, rfl, rfl, rfl, rfl, rfl, rfl, rfl, trivial⟩ (by omega) ⟨t + 1, us, Dr, by omega, hrow, hel.congr hrow.len.1 (fun l hl => by rw [if_pos hl]), rfl, uc, rfl, rfl⟩
    · obtain rfl : k = t := by omega
      try refine run_s ?_
      have hnx : Gz (Vf P) zO c U6 (sv2.take (i + 1)) (F ++ [Dr]) (La.mm k X Y) := by
        rw [List.take_add_one, hvi]
        exact (hgi.up uc).snoc (by rw [List.length_take, hr2.len.1]; omega) (Nat.le_refl _) hrow hel
      refine sk_perm (M' := (b6, .var (.agg #[.int .i64 0, .int .i64 0, .slice none 0 0]), TF) :: (b5, .var (.agg #[.int .i64 (k : Int), .int .i64 (c : Int), .slice pb (k * c) cb]), TF) :: (b4, .var (.agg #[.int .i64 (r : Int), .int .i64 (k : Int), .slice pa (r * k) ca]), TF) :: (D2 ++ ((F ++ [Dr]).flatten ++ M))) pf ?_
      exact sk_again (E' := [(52, .int .i64 ((i : Int) + 1)), (51, .int .i64 (r : Int)), (50, .slice px r cx), (12, .slice py k cy), (13, .slice (some ⟨b13, 0, none⟩) r r), (7, .int .i64 0), (6, .pointer (some ⟨b6, 0, none⟩)), (5, .pointer (some ⟨b5, 0, none⟩)), (4, .pointer (some ⟨b4, 0, none⟩)), (0, .int .i64 (P.1 : Int))]) (m := r - (i + 1)) ⟨rfl, rfl, rfl, rfl, rfl, rfl, rfl, rfl, rfl, rfl, trivial⟩ (by omega) ⟨i + 1, sv2, D2, F ++ [Dr], by omega, hr2, hnx, rfl, uc, rfl, rfl⟩
  · obtain rfl : r = i := by omega
    rw [List.take_of_length_le (by rw [hro.len.1]; exact Nat.le_refl _)] at hg
    have hgo : Goz (Vf P) zO r c U5 (Do ++ F.flatten) (.slice (some ⟨b13, 0, none⟩) r r) (La.mm k X Y) := ⟨Do, F, _, _, svs, rfl, rfl, hro, hg⟩
    try refine run_s ?_
    refine sl_call rfl rfl rfl rfl rfl rfl (fun _ => fstore_ct (PP := P) (hgo.w.lg (M := _) sb) (by omega) (by omega) (by omega)) ?_
    rintro v6 U6 D6 hU6 ⟨⟨_, rfl, p6, c6, us6, rfl, h6⟩, -⟩
    refine sl_perm (M' := (b6, .var (.agg #[.int .i64 0, .int .i64 0, .slice none 0 0]), TF) :: (b5, .var (.agg #[.int .i64 (k : Int), .int .i64 (c : Int), .slice pb (k * c) cb]), TF) :: (b4, .var (.agg #[.int .i64 (r : Int), .int .i64 (k : Int), .slice pa (r * k) ca]), TF) :: (D6 ++ (Do ++ (F.flatten ++ M)))) ?_ pf
    repeat (first | refine run_S ?_ | refine w_box (fun _ => ?_) | refine w_al (fun _ => ?_))
    exact sk_ret D6 sym rfl (.cons (.cell 0 rfl rfl rfl) (.cons (.tmp rfl) .nil)) uc sb (.inl rfl) ⟨_, rfl, ⟨_, rfl, p6, c6, us6, rfl, h6⟩, uc⟩
end Go.Proofs.YtpigpikhjlmdoaaGreat

/- Walks of modmatrix: Hessenberg form. -/
namespace Go.Proofs.YtpigpikhjlmdoaaGreat
open Go.Hp
open Go.Fq (Pm Fp Prm)
variable {G : World} {U U' : UH} {M M' : MH}
theorem el_tau {P : Pm} {n m a : Nat} {vs : List Value} {f : Nat → Fp P} (h : El (Vf P) U vs f) (hl : vs.length = n) (ha : a < n) :
    El (Vf P) U ((vs.set a (.int .i64 ((f m).v : Int))).set m (.int .i64 ((f a).v : Int))) (fun j => f (Lr.tau m a j)) := by
  refine set_ok (fun t x ht hne => ?_) ?_
  · by_cases e : t = a
    · subst e
      rw [List.getElem?_set_self (by omega)] at ht
      cases ht
      show _ = Value.int .i64 ((f (Lr.tau m t t)).v : Int)
      rw [show Lr.tau m t t = m by unfold Lr.tau; rw [if_neg hne, if_pos rfl]]
    · rw [List.getElem?_set_ne (Ne.symm e)] at ht
      have := h t x ht
      rwa [show Lr.tau m a t = t by unfold Lr.tau; rw [if_neg hne, if_neg e]]
  · show _ = Value.int .i64 ((f (Lr.tau m a m)).v : Int)
    rw [show Lr.tau m a m = a by unfold Lr.tau; rw [if_pos rfl]]
theorem tau_comm (p q i : Nat) : Lr.tau p q i = Lr.tau q p i := by
  unfold Lr.tau
  split <;> split <;> omega
set_option maxRecDepth 100000 in
theorem fhess_cx {P : Pm} {n : Nat} {X D : MH} {vg : Value} {A0 : Nat → Nat → Fp P} (hgrid : Gow P n n U D vg A0) (hp : P.1 ≤ 65536) (hn : n ≤ 1000) :
    Cx Tryz.prog 65 [.int .i64 (P.1 : Int), vg] G U (D ++ X) fun _ U' M' => ULe U U' ∧ ∃ (H : Nat → Nat → Fp P) (D' : MH), M' = D' ++ X ∧ Gow P n n U' D' vg H ∧ Lr.Hess n H ∧ ∀ k, Lr.cp n H k = Lr.cp n A0 k := by
  have hp2 := P.2.two
  obtain ⟨Do, F, pg, cg, svs, rfl, rfl, hcg, hro, hg⟩ := hgrid
  rw [List.append_assoc]
  refine cx_of_st Tryz.func65 rfl rfl rfl rfl ?_
  repeat (first | refine run_S ?_ | refine w_box (fun _ => ?_) | refine w_al (fun _ => ?_))
  try refine st_anti (M' := Do ++ (F.flatten ++ X)) (ULe.refl _) sbk ?_
  refine st_loop (fun z E U' M' => ∃ (m : Nat) (H : Nat → Nat → Fp P) (svs : List Value) (Do : MH) (F : List MH), 1 ≤ m ∧ m ≤ n + 1 ∧ RowW TIs 1 Do pg n svs ∧ Gz (Vf P) zW n U' svs F H ∧ Lr.HsTo n m H ∧ (∀ k, Lr.cp n H k = Lr.cp n A0 k) ∧ E = [(4, .int .i64 (m : Int)), (1, .slice pg n cg), (0, .int .i64 (P.1 : Int))] ∧ ULe U U' ∧ M' = Do ++ (F.flatten ++ X) ∧ z = n + 2 - m) (n0 := n + 2 - 1) (E0 := [(4, .int .i64 ((1 : Nat) : Int)), (1, .slice pg n cg), (0, .int .i64 (P.1 : Int))]) ⟨rfl, rfl, rfl, trivial⟩ ⟨1, A0, svs, Do, F, by omega, by omega, hro, hg.up uc, Lr.HsTo.start, (fun _ => rfl), rfl, uc, rfl, rfl⟩ ?_
  clear hro hg
  rintro z E U1 M' ⟨m, H, svs, Do, F, hm1, hmn, hro, hg, hH, hcp, rfl, hU1, rfl, rfl⟩
  have hsl := hro.len
  try refine run_s ?_
  refine st_dec rfl (fun h1 => ?_) (fun h1 => ?_)
  · have hmlt : m + 1 < n := by omega
    try refine run_s ?_
    try refine st_anti (M' := Do ++ (F.flatten ++ X)) (ULe.refl _) sbk ?_
    refine st_loop (fun z E U' M' => ∃ (a : Nat), m ≤ a ∧ a ≤ n ∧ (∀ u, m ≤ u → u < a → H u (m - 1) = 0) ∧ U1 = U' ∧ E = [(5, .int .i64 (a : Int)), (4, .int .i64 (m : Int)), (1, .slice pg n cg), (0, .int .i64 (P.1 : Int))] ∧ ULe U1 U' ∧ M' = Do ++ (F.flatten ++ X) ∧ z = n - a) (n0 := n - m) (E0 := [(5, .int .i64 ((m : Nat) : Int)), (4, .int .i64 (m : Int)), (1, .slice pg n cg), (0, .int .i64 (P.1 : Int))]) ⟨rfl, rfl, rfl, rfl, trivial⟩ ⟨m, Nat.le_refl _, by omega, (fun u h1 h2 => absurd h1 (by omega)), rfl, rfl, uc, rfl, rfl⟩ ?_
    rintro z E U2 M' ⟨a, hma, han, hz, rfl, rfl, hU2, rfl, rfl⟩
    try refine run_s ?_
    refine sl_gdec rfl rfl (fun h3 => ?_) (fun h3 => ?_)
    · have ha : a < n := by omega
      have rA := hro.at (U := U1) (M := Do ++ (F.flatten ++ X)) sb
      obtain ⟨q, c', vs, Di, hv, hFi, hcc', hR, hel, hiF, -⟩ := hg.put (i := a) (by omega)
      have rB := hR.at (U := U1) (M := Do ++ (F.flatten ++ X)) (((List.sublist_flatten_of_mem (List.mem_of_getElem? hFi)).trans (List.sublist_append_left ..)).trans sb)
      obtain ⟨v2, hv2⟩ := rB.at (show m - 1 < n by omega)
      obtain rfl := hel _ _ hv2
      try refine run_s ?_
      refine sl_y (yl_index sym rfl rfl rfl rfl rfl rfl (rA.lt hv) (rA.get _ _ hv).1) rfl rfl rfl rfl ?_; refine sl_y (yl_loadR1 sym rfl rfl rfl rfl rA hv rfl) rfl rfl rfl rfl ?_
      try refine run_s ?_
      refine sl_y (yl_index sym rfl rfl rfl rfl rfl ( by omega) (rB.lt hv2) (rB.get _ _ hv2).1) rfl rfl rfl rfl ?_; refine sl_y (yl_loadR1 sym rfl rfl rfl rfl rB hv2 rfl) rfl rfl rfl rfl ?_
      try refine run_s ?_
      refine st_eq rfl (fun hq => ?_) (fun hq => ?_)
      · have hq0 : H a (m - 1) = 0 := f_zero.1 hq
        try refine run_s ?_
        exact sk_again (E' := [(5, .int .i64 ((a : Int) + 1)), (4, .int .i64 (m : Int)), (1, .slice pg n cg), (0, .int .i64 (P.1 : Int))]) (m := n - (a + 1)) ⟨rfl, rfl, rfl, rfl, trivial⟩ (by omega) ⟨a + 1, by omega, by omega, (fun u h1 h2 => by
          rcases Nat.lt_or_eq_of_le (Nat.le_of_lt_succ h2) with h | h
          · exact hz u h1 h
          · rw [h]; exact hq0), rfl, rfl, uc, rfl, rfl⟩
      · have hq0 : H a (m - 1) ≠ 0 := fun e => hq (f_zero.2 e)
        clear rB hR hel hFi hv hv2
        try refine run_s ?_
        refine st_eq rfl (fun h => absurd h (by omega)) (fun _ => ?_)
        obtain ⟨vm, va, F2, hvm, hva, hF2, hg2⟩ := hg.swap (r := m) (i := a) (by omega) (by omega)
        obtain ⟨qm, cm, -, -, hvm', -⟩ := hg.put (i := m) (by omega)
        obtain ⟨qa, ca, -, -, hva', -⟩ := hg.put (i := a) (by omega)
        obtain rfl : vm = _ := Option.some.inj (hvm.symm.trans hvm')
        obtain rfl : va = _ := Option.some.inj (hva.symm.trans hva')
        try refine run_s ?_
        refine st_drawM [12, 13, 14, 15] [0, 1, 2, 3, 4, 5, 6, 7, 8, 9, 10, 11, 12, 13, 14, 15] sym (by kernel_rfl) ?_
        try refine run_s ?_
        refine sl_y (yl_index sym rfl rfl rfl rfl rfl rfl (rA.lt hvm) (rA.get _ _ hvm).1) rfl rfl rfl rfl ?_; refine sl_y (yl_loadR1 sym rfl rfl rfl rfl rA hvm rfl) rfl rfl rfl rfl ?_
        try refine run_s ?_
        refine sl_y (yl_index sym rfl rfl rfl rfl rfl rfl (rA.lt hva) (rA.get _ _ hva).1) rfl rfl rfl rfl ?_; refine sl_y (yl_loadR1 sym rfl rfl rfl rfl rA hva rfl) rfl rfl rfl rfl ?_
        refine w_addr (j := a) ha (rA.get _ _ hva).1 ?_
        refine w_storeW (X := F.flatten ++ X) hro (List.Perm.refl _) ha (fun D2 hr2 => ?_)
        refine w_addr (j := m) (show m < n by omega) (rA.get _ _ hvm).1 ?_
        refine w_storeW (X := F.flatten ++ X) hr2 (List.Perm.refl _) (show m < n by omega) (fun D3 hr3 => ?_)
        refine sl_perm (M' := D3 ++ (F2.flatten ++ X)) ?_ ((hF2.symm.append_right X).append_left D3)
        obtain ⟨H1, hH1⟩ : ∃ H1, H1 = La.swap H m a := ⟨_, rfl⟩
        rw [← hH1] at hg2
        generalize (svs.set a (Value.slice qm n cm)).set m (Value.slice qa n ca) = sv3 at hr3 hg2
        clear hro hg hvm hva hvm' hva' hF2 rA hr2 hsl
        have hsl := hr3.len
        try refine run_s ?_
        try refine st_anti (M' := D3 ++ (F2.flatten ++ X)) (ULe.refl _) sbk ?_
        refine st_loop (fun z E U' M' => ∃ (s : Nat) (F : List MH), s ≤ n ∧ Gz (Vf P) zW n U' sv3 F (fun i j => if i < s then H1 i (Lr.tau m a j) else H1 i j) ∧ E = [(58, .int .i64 (s : Int)), (57, .int .i64 (n : Int)), (56, .slice pg n cg), (5, .int .i64 (a : Int)), (4, .int .i64 (m : Int)), (1, .slice pg n cg), (0, .int .i64 (P.1 : Int))] ∧ ULe U1 U' ∧ M' = D3 ++ (F.flatten ++ X) ∧ z = n - s) (n0 := n - 0) (E0 := [(58, .int .i64 ((0 : Nat) : Int)), (57, .int .i64 (n : Int)), (56, .slice pg n cg), (5, .int .i64 (a : Int)), (4, .int .i64 (m : Int)), (1, .slice pg n cg), (0, .int .i64 (P.1 : Int))]) ⟨rfl, rfl, rfl, rfl, rfl, rfl, rfl, trivial⟩ ⟨0, F2, by omega, hg2.congr (n := n) (by omega) (fun _ _ _ _ h => h.len) (fun i j _ _ => by rw [if_neg (Nat.not_lt_zero i)]), rfl, uc, rfl, rfl⟩ ?_
        clear hg2
        rintro z E U3 M' ⟨s, F, hs, hg, rfl, hU3, rfl, rfl⟩
        try refine run_s ?_
        refine st_dec rfl (fun h5 => ?_) (fun h5 => ?_)
        · have hsn : s < n := by omega
          obtain ⟨q, c', vs, Ds, hv, hFs, hcc', hR, hel, hsF, hput⟩ := hg.put (i := s) (by omega)
          simp only [if_neg (Nat.lt_irrefl s)] at hel
          have rA := hr3.at (U := U3) (M := D3 ++ (F.flatten ++ X)) sb
          try refine run_s ?_
          refine sl_y (yl_index sym rfl rfl rfl rfl rfl rfl (rA.lt hv) (rA.get _ _ hv).1) rfl rfl rfl rfl ?_; refine sl_y (yl_loadR1 sym rfl rfl rfl rfl rA hv rfl) rfl rfl rfl rfl ?_
          try refine run_s ?_
          refine st_perm (M' := Ds ++ (D3 ++ (((F.take s).flatten ++ (F.drop (s + 1)).flatten) ++ X))) (pick_pz (pickF hFs)) ?_
          have rB := hR.at (U := U3) (M := Ds ++ (D3 ++ (((F.take s).flatten ++ (F.drop (s + 1)).flatten) ++ X))) sb
          obtain ⟨v1, hv1⟩ := rB.at (show m < n by omega)
          obtain ⟨v2, hv2⟩ := rB.at ha
          obtain rfl := hel _ _ hv1
          obtain rfl := hel _ _ hv2
          refine st_drawM [12, 13, 14, 15] [0, 1, 2, 3, 4, 5, 6, 7, 8, 9, 10, 11, 12, 13, 14, 15] sym (by kernel_rfl) ?_
          try refine run_s ?_
          refine sl_y (yl_index sym rfl rfl rfl rfl rfl rfl (rB.lt hv1) (rB.get _ _ hv1).1) rfl rfl rfl rfl ?_; refine sl_y (yl_loadR1 sym rfl rfl rfl rfl rB hv1 rfl) rfl rfl rfl rfl ?_
          try refine run_s ?_
          refine sl_y (yl_index sym rfl rfl rfl rfl rfl rfl (rB.lt hv2) (rB.get _ _ hv2).1) rfl rfl rfl rfl ?_; refine sl_y (yl_loadR1 sym rfl rfl rfl rfl rB hv2 rfl) rfl rfl rfl rfl ?_
          refine w_addr (j := a) ha (rB.get _ _ hv2).1 ?_
          refine w_storeW (v := .int .i64 ((H1 s m).v : Int)) (X := D3 ++ (((F.take s).flatten ++ (F.drop (s + 1)).flatten) ++ X)) hR (List.Perm.refl _) ha (fun D4 hr4 => ?_)
          refine w_addr (j := m) (show m < n by omega) (rB.get _ _ hv1).1 ?_
          refine w_storeW (v := .int .i64 ((H1 s a).v : Int)) (X := D3 ++ (((F.take s).flatten ++ (F.drop (s + 1)).flatten) ++ X)) hr4 (List.Perm.refl _) (show m < n by omega) (fun D5 hr5 => ?_)
          try refine run_s ?_
          have hnx : Gz (Vf P) zW n U3 sv3 (F.set s D5) (fun i j => if i < s + 1 then H1 i (Lr.tau m a j) else H1 i j) := hput U3 D5 _ _ uc hr5 (by
            have := el_tau (m := m) (a := a) hel hR.len ha
            simpa only [if_pos (Nat.lt_succ_self s)] using this) (fun t ht => funext fun j => by
            by_cases e : t < s
            · rw [if_pos e, if_pos (by omega)]
            · rw [if_neg e, if_neg (by omega)])
          refine sk_perm (M' := D3 ++ ((F.set s D5).flatten ++ X)) (pick_pz (putF hsF)).symm ?_
          exact sk_again (E' := [(58, .int .i64 ((s : Int) + 1)), (57, .int .i64 (n : Int)), (56, .slice pg n cg), (5, .int .i64 (a : Int)), (4, .int .i64 (m : Int)), (1, .slice pg n cg), (0, .int .i64 (P.1 : Int))]) (m := n - (s + 1)) ⟨rfl, rfl, rfl, rfl, rfl, rfl, rfl, trivial⟩ (by omega) ⟨s + 1, F.set s D5, by omega, hnx, rfl, uc, rfl, rfl⟩
        · obtain rfl : n = s := by omega
          obtain ⟨G2, hG2⟩ : ∃ G2 : Nat → Nat → Fp P, G2 = fun i j => H (Lr.tau m a i) (Lr.tau m a j) := ⟨_, rfl⟩
          have hg2 : Gz (Vf P) zW n U3 sv3 F G2 := hg.congr (n := n) (by omega) (fun _ _ _ _ h => h.len) (fun i j hi _ => by rw [if_pos hi, hH1, Lr.swap_tau, hG2])
          have hH2 : Lr.HsTo n m G2 := by
            have := hH.conj (p := a) (by omega) hma ha
            rw [hG2]
            intro i j hi hj hjm
            have := this i j hi hj hjm
            simpa only [tau_comm a m] using this
          have hcp2 : ∀ k, Lr.cp n G2 k = Lr.cp n A0 k := fun k => by rw [hG2, Lr.cp_conj (by omega) ha, hcp]
          have hd0 : G2 m (m - 1) ≠ 0 := by
            rw [hG2]
            simp only
            rw [show Lr.tau m a m = a by unfold Lr.tau; rw [if_pos rfl], show Lr.tau m a (m - 1) = m - 1 by unfold Lr.tau; rw [if_neg (by omega), if_neg (by omega)]]
            exact hq0
          clear hG2 hg hH1
          obtain ⟨d0, hd⟩ : ∃ d0, d0 = G2 m (m - 1) := ⟨_, rfl⟩
          obtain ⟨qm, cm, vsm, Dm, hvm, hFm, -, hRm, helm, -, -⟩ := hg2.put (i := m) (by omega)
          have rA := hr3.at (U := U3) (M := D3 ++ (F.flatten ++ X)) sb
          have rB := hRm.at (U := U3) (M := D3 ++ (F.flatten ++ X)) (((List.sublist_flatten_of_mem (List.mem_of_getElem? hFm)).trans (List.sublist_append_left ..)).trans sb)
          obtain ⟨v1, hv1⟩ := rB.at (show m - 1 < n by omega)
          obtain rfl := helm _ _ hv1
          try refine run_s ?_
          refine sl_y (yl_index sym rfl rfl rfl rfl rfl rfl (rA.lt hvm) (rA.get _ _ hvm).1) rfl rfl rfl rfl ?_; refine sl_y (yl_loadR1 sym rfl rfl rfl rfl rA hvm rfl) rfl rfl rfl rfl ?_
          try refine run_s ?_
          refine sl_y (yl_index sym rfl rfl rfl rfl rfl ( by omega) (rB.lt hv1) (rB.get _ _ hv1).1) rfl rfl rfl rfl ?_; refine sl_y (yl_loadR1 sym rfl rfl rfl rfl rB hv1 rfl) rfl rfl rfl rfl ?_
          try refine run_s ?_
          rw [← hd] at hd0 ⊢
          refine sl_call rfl rfl rfl rfl rfl rfl (fun _ => fInverse_ct (P := P) (a := d0) hd0 (by omega)) ?_
          rintro v U' D hU ⟨rfl, rfl, rfl⟩
          repeat (first | refine run_S ?_ | refine w_box (fun _ => ?_) | refine w_al (fun _ => ?_))
          clear rB hRm helm hv1 hvm rA
          try refine st_anti (M' := D3 ++ (F.flatten ++ X)) (ULe.refl _) sbk ?_
          refine st_loop (fun z E U' M' => ∃ (i : Nat) (H : Nat → Nat → Fp P) (F : List MH), m + 1 ≤ i ∧ i ≤ n ∧ Gz (Vf P) zW n U' sv3 F H ∧ Lr.HsTo n m H ∧ d0 = H m (m - 1) ∧ (∀ k, m < k → k < i → H k (m - 1) = 0) ∧ (∀ k, Lr.cp n H k = Lr.cp n A0 k) ∧ E = [(9, .int .i64 (i : Int)), (8, .int .i64 ((d0⁻¹).v : Int)), (5, .int .i64 (a : Int)), (4, .int .i64 (m : Int)), (1, .slice pg n cg), (0, .int .i64 (P.1 : Int))] ∧ ULe U3 U' ∧ M' = D3 ++ (F.flatten ++ X) ∧ z = n - i) (n0 := n - (m + 1)) (E0 := [(9, .int .i64 ((m : Int) + 1)), (8, .int .i64 ((d0⁻¹).v : Int)), (5, .int .i64 (a : Int)), (4, .int .i64 (m : Int)), (1, .slice pg n cg), (0, .int .i64 (P.1 : Int))]) ⟨rfl, rfl, rfl, rfl, rfl, rfl, trivial⟩ ⟨m + 1, G2, F, Nat.le_refl _, by omega, hg2, hH2, hd, (fun k h1 h2 => absurd h1 (by omega)), hcp2, rfl, uc, rfl, rfl⟩ ?_
          clear hg2 hH2 hd hcp2
          rintro z E U4 M' ⟨i, H, F, hmi, hin, hg, hH2, hd, hzr, hcp2, rfl, hU4, rfl, rfl⟩
          try refine run_s ?_
          refine st_dec rfl (fun h6 => ?_) (fun h6 => ?_)
          · have hi : i < n := by omega
            obtain ⟨qm, cm, vsm, Dm, hvm, hFm, -, hRm, helm, -, -⟩ := hg.put (i := m) (by omega)
            obtain ⟨qi, ci, vsi, Di, hvi, hFi, -, hRi, heli, hiF, hput⟩ := hg.put (i := i) (by omega)
            have rA := hr3.at (U := U4) (M := D3 ++ (F.flatten ++ X)) sb
            have rB := hRi.at (U := U4) (M := D3 ++ (F.flatten ++ X)) (((List.sublist_flatten_of_mem (List.mem_of_getElem? hFi)).trans (List.sublist_append_left ..)).trans sb)
            obtain ⟨v1, hv1⟩ := rB.at (show m - 1 < n by omega)
            obtain rfl := heli _ _ hv1
            have hbd := fp_bd (H i (m - 1)) d0⁻¹ (by omega)
            try refine run_s ?_
            refine sl_y (yl_index sym rfl rfl rfl rfl rfl rfl (rA.lt hvi) (rA.get _ _ hvi).1) rfl rfl rfl rfl ?_; refine sl_y (yl_loadR1 sym rfl rfl rfl rfl rA hvi rfl) rfl rfl rfl rfl ?_
            try refine run_s ?_
            refine sl_y (yl_index sym rfl rfl rfl rfl rfl ( by omega) (rB.lt hv1) (rB.get _ _ hv1).1) rfl rfl rfl rfl ?_; refine sl_y (yl_loadR1 sym rfl rfl rfl rfl rB hv1 rfl) rfl rfl rfl rfl ?_
            try refine run_s ?_
            refine sl_y (yl_fmul (a := H i (m - 1)) (b := d0⁻¹) rfl rfl rfl hp) rfl rfl rfl rfl ?_
            obtain ⟨u, hu⟩ : ∃ u, u = H i (m - 1) * d0⁻¹ := ⟨_, rfl⟩
            rw [← hu]
            try refine run_s ?_
            refine st_perm (M' := Di ++ (D3 ++ (((F.take i).flatten ++ (F.drop (i + 1)).flatten) ++ X))) (pick_pz (pickF hFi)) ?_
            try refine st_anti (M' := Di ++ (D3 ++ (((F.take i).flatten ++ (F.drop (i + 1)).flatten) ++ X))) (ULe.refl _) sbk ?_
            refine st_loop (fun z E U' M' => ∃ (j : Nat) (vs : List Value) (Di : MH), j ≤ n ∧ RowW TInt 1 Di qi n vs ∧ El (Vf P) U' vs (fun t => if t < j then H i t + -u * H m t else H i t) ∧ E = [(109, .int .i64 (j : Int)), (108, .int .i64 (n : Int)), (10, .int .i64 (u.v : Int)), (9, .int .i64 (i : Int)), (8, .int .i64 ((d0⁻¹).v : Int)), (5, .int .i64 (a : Int)), (4, .int .i64 (m : Int)), (1, .slice pg n cg), (0, .int .i64 (P.1 : Int))] ∧ ULe U4 U' ∧ M' = Di ++ (D3 ++ (((F.take i).flatten ++ (F.drop (i + 1)).flatten) ++ X)) ∧ z = n - j) (n0 := n - 0) (E0 := [(109, .int .i64 ((0 : Nat) : Int)), (108, .int .i64 (n : Int)), (10, .int .i64 (u.v : Int)), (9, .int .i64 (i : Int)), (8, .int .i64 ((d0⁻¹).v : Int)), (5, .int .i64 (a : Int)), (4, .int .i64 (m : Int)), (1, .slice pg n cg), (0, .int .i64 (P.1 : Int))]) ⟨rfl, rfl, rfl, rfl, rfl, rfl, rfl, rfl, rfl, trivial⟩ ⟨0, vsi, Di, by omega, hRi, (heli.up KeptC.out uc).congr hRi.len (fun t _ => (if_neg (Nat.not_lt_zero t)).symm), rfl, uc, rfl, rfl⟩ ?_
            clear hRi heli rB hv1
            rintro z E U5 M' ⟨j, vs, Di, hj, hRi, heli, rfl, hU5, rfl, rfl⟩
            try refine run_s ?_
            refine st_dec rfl (fun h7 => ?_) (fun h7 => ?_)
            · have hjn : j < n := by omega
              have rA2 := hr3.at (U := U5) (M := Di ++ (D3 ++ (((F.take i).flatten ++ (F.drop (i + 1)).flatten) ++ X))) sb
              have rB2 := hRi.at (U := U5) (M := Di ++ (D3 ++ (((F.take i).flatten ++ (F.drop (i + 1)).flatten) ++ X))) sb
              have rR := hRm.at (U := U5) (M := Di ++ (D3 ++ (((F.take i).flatten ++ (F.drop (i + 1)).flatten) ++ X))) (((rest_mem hFm (show m ≠ i by omega)).trans (List.sublist_append_left ..)).trans sb)
              obtain ⟨v5, hv5⟩ := rB2.at hjn
              have e5 := heli _ _ hv5
              simp only at e5
              rw [if_neg (Nat.lt_irrefl j)] at e5
              obtain rfl := e5
              obtain ⟨v6, hv6⟩ := rR.at hjn
              obtain rfl := helm _ _ hv6
              have hbd3 := f_bd2 (H i j) u (H m j) hp
              have hfl := u.lt
              try refine run_s ?_
              refine st_drawM [26, 27] [0, 1, 2, 3, 4, 5, 6, 7, 8, 9, 10, 11, 12, 13, 14, 15, 16, 17, 18, 19, 20, 21, 22, 23, 24, 25, 26, 27] sym (by kernel_rfl) ?_
              try refine run_s ?_
              refine sl_y (yl_index sym rfl rfl rfl rfl rfl rfl (rA2.lt hvi) (rA2.get _ _ hvi).1) rfl rfl rfl rfl ?_; refine sl_y (yl_loadR1 sym rfl rfl rfl rfl rA2 hvi rfl) rfl rfl rfl rfl ?_
              try refine run_s ?_
              refine sl_y (yl_index sym rfl rfl rfl rfl rfl rfl (rA2.lt hvi) (rA2.get _ _ hvi).1) rfl rfl rfl rfl ?_; refine sl_y (yl_loadR1 sym rfl rfl rfl rfl rA2 hvi rfl) rfl rfl rfl rfl ?_
              try refine run_s ?_
              refine sl_y (yl_index sym rfl rfl rfl rfl rfl rfl (rB2.lt hv5) (rB2.get _ _ hv5).1) rfl rfl rfl rfl ?_; refine sl_y (yl_loadR1 sym rfl rfl rfl rfl rB2 hv5 rfl) rfl rfl rfl rfl ?_
              try refine run_s ?_
              refine sl_y (yl_index sym rfl rfl rfl rfl rfl rfl (rA2.lt hvm) (rA2.get _ _ hvm).1) rfl rfl rfl rfl ?_; refine sl_y (yl_loadR1 sym rfl rfl rfl rfl rA2 hvm rfl) rfl rfl rfl rfl ?_
              try refine run_s ?_
              refine sl_y (yl_index sym rfl rfl rfl rfl rfl rfl (rR.lt hv6) (rR.get _ _ hv6).1) rfl rfl rfl rfl ?_; refine sl_y (yl_loadR1 sym rfl rfl rfl rfl rR hv6 rfl) rfl rfl rfl rfl ?_
              try refine run_s ?_
              refine sl_y (yl_fcomb (x := H i j) (f := u) (y := H m j) rfl rfl rfl hp) rfl rfl rfl rfl ?_
              try refine run_s ?_
              refine w_addr (j := j) hjn (rB2.get _ _ hv5).1 ?_
              refine w_storeW (v := .int .i64 (((H i j + -u * H m j).v : Nat) : Int)) hRi (List.Perm.refl _) hjn (fun D7 hr7 => ?_)
              try refine run_s ?_
              exact sk_again (E' := [(109, .int .i64 ((j : Int) + 1)), (108, .int .i64 (n : Int)), (10, .int .i64 (u.v : Int)), (9, .int .i64 (i : Int)), (8, .int .i64 ((d0⁻¹).v : Int)), (5, .int .i64 (a : Int)), (4, .int .i64 (m : Int)), (1, .slice pg n cg), (0, .int .i64 (P.1 : Int))]) (m := n - (j + 1)) ⟨rfl, rfl, rfl, rfl, rfl, rfl, rfl, rfl, rfl, trivial⟩ (by omega) ⟨j + 1, _, D7, by omega, hr7, set_ok (fun t x ht hne => by
                have := heli t x ht
                simp only at this ⊢
                by_cases e : t < j
                · rw [if_pos e] at this; rw [if_pos (by omega)]; exact this
                · rw [if_neg e] at this; rw [if_neg (by omega)]; exact this) (by simp only [if_pos (Nat.lt_succ_self j)]; rfl), rfl, uc, rfl, rfl⟩
            · obtain rfl : n = j := by omega
              have hg4 : Gz (Vf P) zW n U5 sv3 (F.set i Di) (Lr.erow H i m u) := hput U5 Di vs _ uc hRi (heli.congr hRi.len fun t ht => by
                rw [if_pos ht]; unfold Lr.erow; rw [La.setr_at]) (fun t ht => by unfold Lr.erow; rw [La.setr_ne _ _ ht])
              refine st_perm (M' := D3 ++ ((F.set i Di).flatten ++ X)) (pick_pz (putF hiF)).symm ?_
              clear hput hRi heli
              generalize F.set i Di = F4 at hg4
              obtain ⟨R, hR⟩ : ∃ R, R = Lr.erow H i m u := ⟨_, rfl⟩
              rw [← hR] at hg4
              try refine run_s ?_
              try refine st_anti (M' := D3 ++ (F4.flatten ++ X)) (ULe.refl _) sbk ?_
              refine st_loop (fun z E U' M' => ∃ (j : Nat) (F : List MH), j ≤ n ∧ Gz (Vf P) zW n U' sv3 F (fun b l => if b < j then Lr.ecol R i m u b l else R b l) ∧ E = [(142, .int .i64 (j : Int)), (141, .int .i64 (n : Int)), (10, .int .i64 (u.v : Int)), (9, .int .i64 (i : Int)), (8, .int .i64 ((d0⁻¹).v : Int)), (5, .int .i64 (a : Int)), (4, .int .i64 (m : Int)), (1, .slice pg n cg), (0, .int .i64 (P.1 : Int))] ∧ ULe U5 U' ∧ M' = D3 ++ (F.flatten ++ X) ∧ z = n - j) (n0 := n - 0) (E0 := [(142, .int .i64 ((0 : Nat) : Int)), (141, .int .i64 (n : Int)), (10, .int .i64 (u.v : Int)), (9, .int .i64 (i : Int)), (8, .int .i64 ((d0⁻¹).v : Int)), (5, .int .i64 (a : Int)), (4, .int .i64 (m : Int)), (1, .slice pg n cg), (0, .int .i64 (P.1 : Int))]) ⟨rfl, rfl, rfl, rfl, rfl, rfl, rfl, rfl, rfl, trivial⟩ ⟨0, F4, by omega, hg4.congr (n := n) (by omega) (fun _ _ _ _ h => h.len) (fun b l _ _ => by rw [if_neg (Nat.not_lt_zero b)]), rfl, uc, rfl, rfl⟩ ?_
              clear hg4
              rintro z E U6 M' ⟨j, F, hj, hg, rfl, hU6, rfl, rfl⟩
              try refine run_s ?_
              refine st_dec rfl (fun h8 => ?_) (fun h8 => ?_)
              · have hjn : j < n := by omega
                obtain ⟨q, c', vs, Ds, hv, hFs, hcc', hRs, hel, hsF, hput⟩ := hg.put (i := j) (by omega)
                replace hel : El (Vf P) U6 vs (R j) := by simpa only [if_neg (Nat.lt_irrefl j)] using hel
                try refine run_s ?_
                refine st_perm (M' := Ds ++ (D3 ++ (((F.take j).flatten ++ (F.drop (j + 1)).flatten) ++ X))) (pick_pz (pickF hFs)) ?_
                have rA := hr3.at (U := U6) (M := Ds ++ (D3 ++ (((F.take j).flatten ++ (F.drop (j + 1)).flatten) ++ X))) sb
                have rB := hRs.at (U := U6) (M := Ds ++ (D3 ++ (((F.take j).flatten ++ (F.drop (j + 1)).flatten) ++ X))) sb
                obtain ⟨v1, hv1⟩ := rB.at (show m < n by omega)
                obtain ⟨v2, hv2⟩ := rB.at hi
                obtain rfl := hel _ _ hv1
                obtain rfl := hel _ _ hv2
                have hbd3 := fp_bd u (R j i) (by omega)
                have hfl := (R j m).lt
                refine st_drawM [24, 25] [0, 1, 2, 3, 4, 5, 6, 7, 8, 9, 10, 11, 12, 13, 14, 15, 16, 17, 18, 19, 20, 21, 22, 23, 24, 25] sym (by kernel_rfl) ?_
                try refine run_s ?_
                refine sl_y (yl_index sym rfl rfl rfl rfl rfl rfl (rA.lt hv) (rA.get _ _ hv).1) rfl rfl rfl rfl ?_; refine sl_y (yl_loadR1 sym rfl rfl rfl rfl rA hv rfl) rfl rfl rfl rfl ?_
                try refine run_s ?_
                refine sl_y (yl_index sym rfl rfl rfl rfl rfl rfl (rA.lt hv) (rA.get _ _ hv).1) rfl rfl rfl rfl ?_; refine sl_y (yl_loadR1 sym rfl rfl rfl rfl rA hv rfl) rfl rfl rfl rfl ?_
                try refine run_s ?_
                refine sl_y (yl_index sym rfl rfl rfl rfl rfl rfl (rB.lt hv1) (rB.get _ _ hv1).1) rfl rfl rfl rfl ?_; refine sl_y (yl_loadR1 sym rfl rfl rfl rfl rB hv1 rfl) rfl rfl rfl rfl ?_
                try refine run_s ?_
                refine sl_y (yl_index sym rfl rfl rfl rfl rfl rfl (rA.lt hv) (rA.get _ _ hv).1) rfl rfl rfl rfl ?_; refine sl_y (yl_loadR1 sym rfl rfl rfl rfl rA hv rfl) rfl rfl rfl rfl ?_
                try refine run_s ?_
                refine sl_y (yl_index sym rfl rfl rfl rfl rfl rfl (rB.lt hv2) (rB.get _ _ hv2).1) rfl rfl rfl rfl ?_; refine sl_y (yl_loadR1 sym rfl rfl rfl rfl rB hv2 rfl) rfl rfl rfl rfl ?_
                try refine run_s ?_
                refine sl_y (yl_fplus (x := R j m) (f := u) (y := R j i) rfl rfl rfl hp) rfl rfl rfl rfl ?_
                try refine run_s ?_
                refine w_addr (j := m) (show m < n by omega) (rB.get _ _ hv1).1 ?_
                refine w_storeW (v := .int .i64 (((R j m + u * R j i).v : Nat) : Int)) hRs (List.Perm.refl _) (show m < n by omega) (fun D7 hr7 => ?_)
                try refine run_s ?_
                have hnx : Gz (Vf P) zW n U6 sv3 (F.set j D7) (fun b l => if b < j + 1 then Lr.ecol R i m u b l else R b l) := hput U6 D7 _ _ uc hr7 (by
                  simp only [if_pos (Nat.lt_succ_self j)]
                  refine set_ok (fun t x ht hne => ?_) ?_
                  · have := hel t x ht
                    unfold Lr.ecol
                    rw [if_neg hne]
                    exact this
                  · unfold Lr.ecol
                    rw [if_pos rfl]
                    rfl) (fun t ht => funext fun l => by
                  by_cases e : t < j
                  · rw [if_pos e, if_pos (by omega)]
                  · rw [if_neg e, if_neg (by omega)])
                refine sk_perm (M' := D3 ++ ((F.set j D7).flatten ++ X)) (pick_pz (putF hsF)).symm ?_
                exact sk_again (E' := [(142, .int .i64 ((j : Int) + 1)), (141, .int .i64 (n : Int)), (10, .int .i64 (u.v : Int)), (9, .int .i64 (i : Int)), (8, .int .i64 ((d0⁻¹).v : Int)), (5, .int .i64 (a : Int)), (4, .int .i64 (m : Int)), (1, .slice pg n cg), (0, .int .i64 (P.1 : Int))]) (m := n - (j + 1)) ⟨rfl, rfl, rfl, rfl, rfl, rfl, rfl, rfl, rfl, trivial⟩ (by omega) ⟨j + 1, F.set j D7, by omega, hnx, rfl, uc, rfl, rfl⟩
              · obtain rfl : n = j := by omega
                have hg5 : Gz (Vf P) zW n U6 sv3 F (Lr.ecol R i m u) := hg.congr (n := n) (by omega) (fun _ _ _ _ h => h.len) (fun b l hb _ => by rw [if_pos hb])
                obtain ⟨k1, k2, k3⟩ := hH2.elim (u := u) hm1 hmi hi (by rw [← hd]; exact hd0) (by rw [hu, hd]) hzr
                have k4 : d0 = Lr.ecol (Lr.erow H i m u) i m u m (m - 1) := by
                  rw [hd]
                  unfold Lr.ecol
                  rw [if_neg (by omega)]
                  unfold Lr.erow
                  rw [La.setr_ne _ _ (by omega)]
                rw [hR] at hg5
                try refine run_s ?_
                exact sk_again (E' := [(9, .int .i64 ((i : Int) + 1)), (8, .int .i64 ((d0⁻¹).v : Int)), (5, .int .i64 (a : Int)), (4, .int .i64 (m : Int)), (1, .slice pg n cg), (0, .int .i64 (P.1 : Int))]) (m := n - (i + 1)) ⟨rfl, rfl, rfl, rfl, rfl, rfl, trivial⟩ (by omega) ⟨i + 1, Lr.ecol (Lr.erow H i m u) i m u, F, by omega, by omega, hg5, k1, k4, k3, (fun k => by rw [Lr.cp_elim hi (by omega) (by omega), hcp2]), rfl, uc, rfl, rfl⟩
          · obtain rfl : n = i := by omega
            try refine run_s ?_
            exact sk_again (E' := [(4, .int .i64 ((m : Int) + 1)), (1, .slice pg n cg), (0, .int .i64 (P.1 : Int))]) (m := n + 2 - (m + 1)) ⟨rfl, rfl, rfl, trivial⟩ (by omega) ⟨m + 1, H, sv3, D3, F, by omega, by omega, hr3, hg, hH2.pass hzr, hcp2, rfl, uc, rfl, rfl⟩
    · obtain rfl : n = a := by omega
      try refine run_s ?_
      refine st_eq rfl (fun _ => ?_) (fun h => absurd rfl h)
      try refine run_s ?_
      exact sk_again (E' := [(4, .int .i64 ((m : Int) + 1)), (1, .slice pg n cg), (0, .int .i64 (P.1 : Int))]) (m := n + 2 - (m + 1)) ⟨rfl, rfl, rfl, trivial⟩ (by omega) ⟨m + 1, H, svs, Do, F, by omega, by omega, hro, hg, hH.pass (fun u h1 h2 => hz u (by omega) h2), hcp, rfl, uc, rfl, rfl⟩
  · try refine run_s ?_
    exact sk_retX sym rfl .nil uc sb (.inr rfl) ⟨hU1, H, Do ++ F.flatten, (List.append_assoc ..).symm, ⟨Do, F, pg, cg, svs, rfl, rfl, hcg, hro, hg⟩, hH.hess (by omega), hcp⟩
end Go.Proofs.YtpigpikhjlmdoaaGreat

/- Walks of modmatrix: characteristic polynomials. -/
namespace Go.Proofs.YtpigpikhjlmdoaaGreat
open Go.Hp
open Go.Fq (Pm Fp Prm)
variable {G : World} {U U' : UH} {M M' : MH}
theorem fsub_cx {P : Pm} {nf k cf : Nat} {pf : Option Addr} {vs : List Value} {D X : MH} {vg : Value} {f g : Nat → Fp P} {b : Fp P} (hf : RowW TInt 1 D pf nf vs) (ef : El (Vf P) U vs f) (hg : Ls (Vf P) 1 k U X vg g) (hk : k ≤ nf) (hp : P.1 ≤ 65536) (hn : nf ≤ 1000000) :
    Cx Tryz.prog 66 [.int .i64 (P.1 : Int), .slice pf nf cf, vg, .int .i64 (b.v : Int)] G U (D ++ X) fun _ U' M' => U = U' ∧ ∃ D' vs', M' = D' ++ X ∧ RowW TInt 1 D' pf nf vs' ∧ El (Vf P) U vs' (fun j => if j < k then f j + -b * g j else f j) := by
  have hp2 := P.2.two
  obtain ⟨pg, cg, gs, rfl, -, rg, eg⟩ := hg
  refine cx_of_st Tryz.func66 rfl rfl rfl rfl ?_
  repeat (first | refine run_S ?_ | refine w_box (fun _ => ?_) | refine w_al (fun _ => ?_))
  try refine st_anti (M' := D ++ X) (ULe.refl _) sbk ?_
  refine st_loop (fun z E U' M' => ∃ (i : Nat) (vs : List Value) (D : MH), i ≤ k ∧ RowW TInt 1 D pf nf vs ∧ El (Vf P) U' vs (fun j => if j < i then f j + -b * g j else f j) ∧ U = U' ∧ E = [(12, .int .i64 (i : Int)), (11, .int .i64 (k : Int)), (10, .slice pg k cg), (0, .int .i64 (P.1 : Int)), (1, .slice pf nf cf), (3, .int .i64 (b.v : Int))] ∧ ULe U U' ∧ M' = D ++ X ∧ z = k - i) (n0 := k - 0) (E0 := [(12, .int .i64 ((0 : Nat) : Int)), (11, .int .i64 (k : Int)), (10, .slice pg k cg), (0, .int .i64 (P.1 : Int)), (1, .slice pf nf cf), (3, .int .i64 (b.v : Int))]) ⟨rfl, rfl, rfl, rfl, rfl, rfl, trivial⟩ ⟨0, vs, D, by omega, hf, ef.congr hf.len (fun j _ => (if_neg (Nat.not_lt_zero j)).symm), rfl, rfl, uc, rfl, rfl⟩ ?_
  clear hf ef
  rintro z E U1 M' ⟨i, vs, D, hi, hf, ef, rfl, rfl, hU1, rfl, rfl⟩
  try refine run_s ?_
  refine st_dec rfl (fun h => ?_) (fun h => ?_)
  · have hik : i < k := by omega
    obtain ⟨v1, hv1⟩ := rg.at hik
    obtain rfl := eg _ _ hv1
    have rF := hf.at (U := U) (M := D ++ X) sb
    obtain ⟨v2, hv2⟩ := rF.at (show i < nf by omega)
    have e2 := ef _ _ hv2
    simp only at e2
    rw [if_neg (Nat.lt_irrefl i)] at e2
    obtain rfl := e2
    have hbd3 := f_bd2 (f i) b (g i) hp
    have hfl := b.lt
    repeat (first | refine run_S ?_ | refine w_box (fun _ => ?_) | refine w_al (fun _ => ?_))
    refine sl_y (yl_index sym rfl rfl rfl rfl rfl rfl ((rg.up uc sb).lt hv1) ((rg.up uc sb).get _ _ hv1).1) rfl rfl rfl rfl ?_; refine sl_y (yl_loadR1 sym rfl rfl rfl rfl (rg.up uc sb) hv1 rfl) rfl rfl rfl rfl ?_
    repeat (first | refine run_S ?_ | refine w_box (fun _ => ?_) | refine w_al (fun _ => ?_))
    refine sl_y (yl_index sym rfl rfl rfl rfl rfl rfl (rF.lt hv2) (rF.get _ _ hv2).1) rfl rfl rfl rfl ?_; refine sl_y (yl_loadR1 sym rfl rfl rfl rfl rF hv2 rfl) rfl rfl rfl rfl ?_
    repeat (first | refine run_S ?_ | refine w_box (fun _ => ?_) | refine w_al (fun _ => ?_))
    refine sl_y (yl_fcomb (x := f i) (f := b) (y := g i) rfl rfl rfl hp) rfl rfl rfl rfl ?_
    repeat (first | refine run_S ?_ | refine w_box (fun _ => ?_) | refine w_al (fun _ => ?_))
    refine w_addr (j := i) (show i < nf by omega) (rF.get _ _ hv2).1 ?_
    refine w_storeW (v := .int .i64 (((f i + -b * g i).v : Nat) : Int)) hf (List.Perm.refl _) (show i < nf by omega) (fun D7 hr7 => ?_)
    repeat (first | refine run_S ?_ | refine w_box (fun _ => ?_) | refine w_al (fun _ => ?_))
    exact sk_again (E' := [(12, .int .i64 ((i : Int) + 1)), (11, .int .i64 (k : Int)), (10, .slice pg k cg), (0, .int .i64 (P.1 : Int)), (1, .slice pf nf cf), (3, .int .i64 (b.v : Int))]) (m := k - (i + 1)) ⟨rfl, rfl, rfl, rfl, rfl, rfl, trivial⟩ (by omega) ⟨i + 1, _, D7, by omega, hr7, set_ok (fun t x ht hne => by
      have := ef t x ht
      simp only at this ⊢
      by_cases e : t < i
      · rw [if_pos e] at this; rw [if_pos (by omega)]; exact this
      · rw [if_neg e] at this; rw [if_neg (by omega)]; exact this) (by simp only [if_pos (Nat.lt_succ_self i)]; rfl), rfl, rfl, uc, rfl, rfl⟩
  · obtain rfl : k = i := by omega
    try refine run_s ?_
    exact sk_retX sym rfl .nil uc sb (.inr rfl) ⟨rfl, D, vs, rfl, hf, ef⟩
theorem Gow.sett {P : Pm} {m n : Nat} {U0 : UH} {D : MH} {v : Value} {A : Nat → Nat → Fp P} (h : Gow P m n U D v A) (hU : ULe U U') (hs : Sett U0 U' D) : Ls (Vrs (Vf P) n) 1 m U' [] v A := by
  obtain ⟨Do, F, p, cc, svs, rfl, rfl, hcc, h1, h2⟩ := h
  refine ⟨p, cc, svs, rfl, hcc, h1.sett hs.left, fun k x hk => ?_⟩
  have hF : k < F.length := by rw [← h2.1]; exact (List.getElem?_eq_some_iff.1 hk).1
  obtain ⟨q, c', vs, rfl, h3, h4, h5⟩ := h2.2 k x _ hk (List.getElem?_eq_getElem hF)
  exact ⟨q, c', vs, rfl, h3, h4.sett (fun e he => hs e (List.mem_append_right _ (List.mem_flatten.2 ⟨_, List.getElem_mem hF, he⟩))), h5.up KeptC.out hU⟩
def Vpl (P : Pm) (H : Nat → Nat → Fp P) (U : UH) (v : Value) (i : Nat) : Prop := Vrs (Vf P) (i + 1) U v (Lr.pl H i)
instance {P : Pm} {H : Nat → Nat → Fp P} : KeptC (Vpl P H) := ⟨fun _ _ _ _ hU h => KeptC.out (ok := Vrs (Vf P) _) _ _ _ _ hU h⟩
set_option maxRecDepth 100000 in
theorem fCharPoly_ct {P : Pm} {n : Nat} {vm : Value} {A : Nat → Nat → Int} (hm : Vmm Vz n n U M vm A) (hp : P.1 ≤ 65521) (hn : n ≤ 64) :
    Ct Tryz.prog 27 [.int .i64 (P.1 : Int), vm] G U M fun v U' D => ∃ vc : Value, v = .tuple #[vc, .int .i64 0] ∧ Ls (Vf P) 1 (n + 1) U' [] vc (fun t => Lr.cp n (Ofm P A) (n - t)) ∧ D = [] := by
  have hnn : n * n ≤ 64 * 64 := Nat.mul_le_mul hn hn
  have hm2 := hm
  obtain ⟨_, rfl, pa, cm, ms, rfl, -⟩ := hm
  refine ct_of_st Tryz.func27 rfl rfl rfl rfl ?_
  repeat (first | refine run_S ?_ | refine w_box (fun _ => ?_) | refine w_al (fun _ => ?_))
  rename_i b3
  refine sl_call rfl rfl rfl rfl rfl rfl (fun _ => fsquare_ct (z := (P.1 : Int)) (r := (n : Int)) (c := (n : Int)) (n := n * n) (p := pa) (cc := cm) (by omega)) ?_
  rintro v U' D hU ⟨rfl, rfl, rfl⟩
  repeat (first | refine run_S ?_ | refine w_box (fun _ => ?_) | refine w_al (fun _ => ?_))
  have e0 : errS (P.1 : Int) (n : Int) (n : Int) (n * n) = 0 := by unfold errS; rw [errF_ok hp (by omega) (by omega), if_pos rfl, if_pos rfl]
  rw [e0]
  refine st_ne rfl (fun h => absurd rfl h) (fun _ => ?_)
  repeat (first | refine run_S ?_ | refine w_box (fun _ => ?_) | refine w_al (fun _ => ?_))
  refine st_dec rfl (fun h => absurd h (by omega)) (fun _ => ?_)
  repeat (first | refine run_S ?_ | refine w_box (fun _ => ?_) | refine w_al (fun _ => ?_))
  refine sl_call rfl rfl rfl rfl rfl rfl (fun _ => fload_co (P := P) (hm2.up uc sb) (by omega) (by omega) (by omega) (by omega)) ?_
  rintro v1 U1 D1 hU1 ⟨hg, -⟩
  obtain ⟨_, _, pg, cg, _, -, rfl, -⟩ := id hg
  repeat (first | refine run_S ?_ | refine w_box (fun _ => ?_) | refine w_al (fun _ => ?_))
  refine sl_callC rfl rfl rfl rfl rfl rfl (fhess_cx (X := (b3, .var (.agg #[.int .i64 (n : Int), .int .i64 (n : Int), .slice pa (n * n) cm]), TF) :: M) hg.gow (by omega) (by omega)) ?_
  rintro v2 U2 M2 hU2 ⟨-, H, D2, rfl, hgH, hH, hcp⟩
  repeat (first | refine run_S ?_ | refine w_box (fun _ => ?_) | refine w_al (fun _ => ?_))
  refine sl_bslice (vs := [.int .i64 1]) sym rfl rfl rfl rfl rfl rfl (all_size rfl) rfl rfl rfl rfl rfl rfl (fun b28 => ?_)
  refine sl_bslice (vs := [.slice (some ⟨b28, 0, none⟩) 1 1]) sym rfl rfl rfl rfl rfl rfl (all_size rfl) rfl rfl rfl rfl rfl rfl (fun b29 => ?_)
  try refine run_s ?_
  refine st_perm (M' := (D2 ++ [(b28, .arr [.int .i64 1], TInt)]) ++ ([(b29, .arr [.slice (some ⟨b28, 0, none⟩) 1 1], 55)] ++ ((b3, .var (.agg #[.int .i64 (n : Int), .int .i64 (n : Int), .slice pa (n * n) cm]), TF) :: M))) pf ?_
  refine st_settleAll (D := D2 ++ [(b28, .arr [.int .i64 1], TInt)]) fun U3 hU3 hs3 => ?_
  obtain ⟨px, cx, xs, hpx, -, rx, ex⟩ := hgH.sett (U' := U3) uc hs3.left
  obtain ⟨rfl, -, rfl⟩ := Value.slice.inj hpx
  have hr28 := (RowO.mk (e := TInt) (s := 1) (b := b28) (n := 1) (vs := [.int .i64 1]) rfl (all_size rfl) (by omega)).sett hs3.right
  have hr29 := RowO.mk (e := 55) (s := 1) (b := b29) (n := 1) (vs := [.slice (some ⟨b28, 0, none⟩) 1 1]) rfl (all_size rfl) (by omega)
  have e29 : El (Vpl P H) U3 [.slice (some ⟨b28, 0, none⟩) 1 1] id := fun k v hk => by
    match k, hk with
    | 0, hk =>
      cases hk
      refine ⟨_, _, [.int .i64 1], rfl, Nat.le_refl 1, hr28, fun t x ht => ?_⟩
      match t, ht with
      | 0, ht =>
        cases ht
        show _ = Value.int .i64 (((1 : Fp P).v : Nat) : Int)
        rw [Fq.v_one]; rfl
      | t + 1, ht => simp at ht
    | k + 1, hk => simp at hk
  refine st_perm (M' := (b3, .var (.agg #[.int .i64 (n : Int), .int .i64 (n : Int), .slice pa (n * n) cm]), TF) :: ([(b29, .arr [.slice (some ⟨b28, 0, none⟩) 1 1], 55)] ++ M)) pf ?_
  clear hs3 hpx
  try refine st_anti (M' := (b3, .var (.agg #[.int .i64 (n : Int), .int .i64 (n : Int), .slice pa (n * n) cm]), TF) :: (([(b29, .arr [.slice (some ⟨b28, 0, none⟩) 1 1], 55)]) ++ M)) (ULe.refl _) sbk ?_
  refine st_loop (fun z E U' M' => ∃ (k : Nat) (Q : Option Addr) (C : Nat) (ls : List Value) (D : MH), k ≤ n ∧ RowO 55 1 D Q (k + 1) C ls ∧ El (Vpl P H) U' ls id ∧ E = [(32, .int .i64 (k : Int)), (8, .slice Q (k + 1) C), (31, .int .i64 (n : Int)), (30, .slice pg n cg), (7, .slice pg n cg), (0, .int .i64 (P.1 : Int)), (3, .pointer (some ⟨b3, 0, none⟩))] ∧ ULe U3 U' ∧ M' = (b3, .var (.agg #[.int .i64 (n : Int), .int .i64 (n : Int), .slice pa (n * n) cm]), TF) :: (D ++ M) ∧ z = n - k) (n0 := n - 0) (E0 := [(32, .int .i64 ((0 : Nat) : Int)), (8, .slice (some ⟨b29, 0, none⟩) (0 + 1) 1), (31, .int .i64 (n : Int)), (30, .slice pg n cg), (7, .slice pg n cg), (0, .int .i64 (P.1 : Int)), (3, .pointer (some ⟨b3, 0, none⟩))]) ⟨rfl, rfl, rfl, rfl, rfl, rfl, rfl, trivial⟩ ⟨0, some ⟨b29, 0, none⟩, 1, _, [(b29, .arr [.slice (some ⟨b28, 0, none⟩) 1 1], 55)], by omega, hr29, e29, rfl, uc, rfl, rfl⟩ ?_
  clear hr29 e29
  rintro z E U4 M' ⟨k, Q, C, ls, D, hkn, hrow, hel, rfl, hU4, rfl, rfl⟩
  try refine run_s ?_
  refine st_dec rfl (fun h => ?_) (fun h => ?_)
  · have hk : k < n := by omega
    have rL := hrow.at (U := U4) (M := D) (List.Sublist.refl _)
    obtain ⟨v1, hv1⟩ := rL.at (show k < k + 1 by omega)
    have e1 : Vrs (Vf P) (k + 1) U4 v1 (Lr.pl H k) := hel _ _ hv1
    obtain ⟨p1, c1, us1, rfl, hc1, ru1, eu1⟩ := id e1
    try refine run_s ?_
    refine sl_bslice (vs := [.int .i64 0]) sym rfl rfl rfl rfl rfl rfl (all_size rfl) rfl rfl rfl rfl rfl rfl (fun b35 => ?_)
    have hr35 := RowO.mk (e := TInt) (s := 1) (b := b35) (n := 1) (vs := [.int .i64 0]) rfl (all_size rfl) (by omega)
    try refine run_s ?_
    refine sl_y (yl_index sym rfl rfl rfl rfl rfl rfl ((rL.up uc sb).lt hv1) ((rL.up uc sb).get _ _ hv1).1) rfl rfl rfl rfl ?_; refine sl_y (yl_loadR1 sym rfl rfl rfl rfl (rL.up uc sb) hv1 rfl) rfl rfl rfl rfl ?_
    try refine run_s ?_
    refine w_app (X := (b3, .var (.agg #[.int .i64 (n : Int), .int .i64 (n : Int), .slice pa (n * n) cm]), TF) :: (D ++ M)) hr35 pf (ru1.up uc sb) (El.ones eu1 fun _ _ h => one_f h) (fun p10 c10 D10 hr10 => ?_)
    rw [show 1 + (k + 1) = k + 2 by omega] at hr10 ⊢
    have e10 : El (Vf P) U4 ([.int .i64 0] ++ us1) (fun t => if t = 0 then (0 : Fp P) else Lr.pl H k (t - 1)) := fun t x ht => by
      cases t with
      | zero =>
        cases ht
        show _ = Value.int .i64 (((0 : Fp P).v : Nat) : Int)
        rw [Fq.v_zero]; rfl
      | succ t =>
        have : us1[t]? = some x := by simpa using ht
        exact eu1 _ _ this
    generalize [Value.int .i64 0] ++ us1 = vs10 at hr10 e10
    have hc10 := hr10.len.2.1
    clear hr35
    try refine run_s ?_
    obtain ⟨v2, hv2⟩ := rx.at hk
    obtain ⟨p2, c2, us2, rfl, -, ru2, eu2⟩ := ex _ _ hv2
    obtain ⟨v3, hv3⟩ := ru2.at hk
    obtain rfl := eu2 _ _ hv3
    refine st_drawM [13] [0, 1, 2, 3, 4, 5, 6, 7, 8, 9, 10, 11, 12, 13] sym (by kernel_rfl) ?_
    try refine run_s ?_
    refine sl_y (yl_index sym rfl rfl rfl rfl rfl rfl ((rL.up uc sb).lt hv1) ((rL.up uc sb).get _ _ hv1).1) rfl rfl rfl rfl ?_; refine sl_y (yl_loadR1 sym rfl rfl rfl rfl (rL.up uc sb) hv1 rfl) rfl rfl rfl rfl ?_
    try refine run_s ?_
    refine sl_y (yl_index sym rfl rfl rfl rfl rfl rfl ((rx.up uc sb).lt hv2) ((rx.up uc sb).get _ _ hv2).1) rfl rfl rfl rfl ?_; refine sl_y (yl_loadR1 sym rfl rfl rfl rfl (rx.up uc sb) hv2 rfl) rfl rfl rfl rfl ?_
    try refine run_s ?_
    refine sl_y (yl_index sym rfl rfl rfl rfl rfl rfl ((ru2.up uc sb).lt hv3) ((ru2.up uc sb).get _ _ hv3).1) rfl rfl rfl rfl ?_; refine sl_y (yl_loadR1 sym rfl rfl rfl rfl (ru2.up uc sb) hv3 rfl) rfl rfl rfl rfl ?_
    try refine run_s ?_
    refine sl_callC rfl rfl rfl rfl rfl rfl (fsub_cx (P := P) (k := k + 1) (b := H k k) (X := (b3, .var (.agg #[.int .i64 (n : Int), .int .i64 (n : Int), .slice pa (n * n) cm]), TF) :: (D ++ M)) hr10.w e10 (Vrs.ls e1 (ULe.refl _)) (by omega) (by omega) (by omega)) ?_
    rintro v4 U5 M5 hU5 ⟨rfl, D11, vs11, rfl, hr11, e11⟩
    try refine run_s ?_
    obtain ⟨fT, hfT⟩ : ∃ fT : Nat → Nat → Fp P, fT = fun t i => Lr.prd H i (k - i) * H i k * Lr.pl H i t := ⟨_, rfl⟩
    obtain ⟨N1, hN1⟩ : ∃ N1 : Nat → Fp P, N1 = fun j => if j < k + 1 then (if j = 0 then 0 else Lr.pl H k (j - 1)) + -H k k * Lr.pl H k j else if j = 0 then 0 else Lr.pl H k (j - 1) := ⟨_, rfl⟩
    have hP1 : ∀ t, t < k + 2 → N1 t + -(Lr.sm k (fT t)) = Lr.pl H (k + 1) t := fun t ht => by
      rw [hN1]
      show (if t < k + 1 then (if t = 0 then 0 else Lr.pl H k (t - 1)) + -H k k * Lr.pl H k t else if t = 0 then 0 else Lr.pl H k (t - 1)) + _ = _
      rw [Lr.pl_succ, hfT]
      unfold Lr.plc
      by_cases e : t < k + 1
      · rw [if_pos e, Lr.neg_add, La.neg_mul, La.add_assoc]
      · rw [if_neg e, Lr.pl_high hH (by omega) (show k < t by omega), Lr.mul_zero, Lr.sm_zero fun i hi => by
          show Lr.prd H i (k - i) * H i k * Lr.pl H i t = 0
          rw [Lr.pl_high hH (by omega) (show i < t by omega), Lr.mul_zero], Lr.add_zero]
    replace e11 : El (Vf P) U4 vs11 N1 := by rw [hN1]; exact e11
    clear hN1
    clear hr10 e10
    try refine st_anti (M' := D11 ++ ((b3, .var (.agg #[.int .i64 (n : Int), .int .i64 (n : Int), .slice pa (n * n) cm]), TF) :: (D ++ M))) (ULe.refl _) sbk ?_
    refine st_loop (fun z E U' M' => ∃ (i : Nat) (d : Fp P) (N : Nat → Fp P) (vs : List Value) (Dn : MH) (z11 : Int), z11 = (d.v : Int) ∧ i ≤ k ∧ RowW TInt 1 Dn p10 (k + 2) vs ∧ El (Vf P) U' vs N ∧ d = Lr.prd H i (k - i) ∧ (∀ t, t < k + 2 → N t + -(Lr.sm i (fT t)) = Lr.pl H (k + 1) t) ∧ U4 = U' ∧ E = [(12, .int .i64 ((i : Int) - 1)), (11, .int .i64 z11), (10, .slice p10 (k + 2) c10), (9, .int .i64 (k : Int)), (32, .int .i64 (k : Int)), (8, .slice Q (k + 1) C), (31, .int .i64 (n : Int)), (30, .slice pg n cg), (7, .slice pg n cg), (0, .int .i64 (P.1 : Int)), (3, .pointer (some ⟨b3, 0, none⟩))] ∧ ULe U4 U' ∧ M' = Dn ++ ((b3, .var (.agg #[.int .i64 (n : Int), .int .i64 (n : Int), .slice pa (n * n) cm]), TF) :: (D ++ M)) ∧ z = i) (n0 := k) (E0 := [(12, .int .i64 (((k : Nat) : Int) - 1)), (11, .int .i64 ((1 : Int))), (10, .slice p10 (k + 2) c10), (9, .int .i64 (k : Int)), (32, .int .i64 (k : Int)), (8, .slice Q (k + 1) C), (31, .int .i64 (n : Int)), (30, .slice pg n cg), (7, .slice pg n cg), (0, .int .i64 (P.1 : Int)), (3, .pointer (some ⟨b3, 0, none⟩))]) ⟨rfl, rfl, rfl, rfl, rfl, rfl, rfl, rfl, rfl, rfl, rfl, trivial⟩ ⟨k, (1 : Fp P), N1, vs11, D11, (1 : Int), (by rw [Fq.v_one]; rfl), by omega, hr11, e11, (by rw [Nat.sub_self]; rfl), hP1, rfl, rfl, uc, rfl, rfl⟩ ?_
    clear hr11 e11 hP1
    rintro z E U5 M' ⟨i, d, N, vs, Dn, z11, rfl, hik, hrn, eN, hd, hN, rfl, rfl, hU5, rfl, hzI⟩
    try refine run_s ?_
    refine st_dec rfl (fun h3 => ?_) (fun h3 => ?_)
    · obtain ⟨j, rfl⟩ : ∃ j, i = j + 1 := ⟨i - 1, by omega⟩
      obtain ⟨v4, hv4⟩ := rx.at (show j + 1 < n by omega)
      obtain ⟨p4, c4, us4, rfl, -, ru4, eu4⟩ := ex _ _ hv4
      obtain ⟨v5, hv5⟩ := ru4.at (show j < n by omega)
      obtain rfl := eu4 _ _ hv5
      obtain ⟨v6, hv6⟩ := rx.at (show j < n by omega)
      obtain ⟨p6, c6, us6, rfl, -, ru6, eu6⟩ := ex _ _ hv6
      obtain ⟨v7, hv7⟩ := ru6.at hk
      obtain rfl := eu6 _ _ hv7
      obtain ⟨v8, hv8⟩ := rL.at (show j < k + 1 by omega)
      have e8 : Vrs (Vf P) (j + 1) U4 v8 (Lr.pl H j) := hel _ _ hv8
      obtain ⟨p8, c8, us8, rfl, -, -, -⟩ := id e8
      have hb1 := fp_bd d (H (j + 1) j) (by omega)
      have hb2 := fp_bd (d * H (j + 1) j) (H j k) (by omega)
      try refine run_s ?_
      refine sl_y (yl_index sym rfl rfl rfl rfl rfl ( by omega) ((rx.up uc sb).lt hv4) ((rx.up uc sb).get _ _ hv4).1) rfl rfl rfl rfl ?_; refine sl_y (yl_loadR1 sym rfl rfl rfl rfl (rx.up uc sb) hv4 rfl) rfl rfl rfl rfl ?_
      try refine run_s ?_
      refine sl_y (yl_index sym rfl rfl rfl rfl rfl ( by omega) ((ru4.up uc sb).lt hv5) ((ru4.up uc sb).get _ _ hv5).1) rfl rfl rfl rfl ?_; refine sl_y (yl_loadR1 sym rfl rfl rfl rfl (ru4.up uc sb) hv5 rfl) rfl rfl rfl rfl ?_
      try refine run_s ?_
      refine sl_y (yl_fmul (a := d) (b := H (j + 1) j) rfl rfl rfl (by omega)) rfl rfl rfl rfl ?_
      try refine run_s ?_
      refine st_drawM [17] [0, 1, 2, 3, 4, 5, 6, 7, 8, 9, 10, 11, 12, 13, 14, 15, 16, 17] sym (by kernel_rfl) ?_
      try refine run_s ?_
      refine sl_y (yl_index sym rfl rfl rfl rfl rfl ( by omega) ((rL.up uc sb).lt hv8) ((rL.up uc sb).get _ _ hv8).1) rfl rfl rfl rfl ?_; refine sl_y (yl_loadR1 sym rfl rfl rfl rfl (rL.up uc sb) hv8 rfl) rfl rfl rfl rfl ?_
      try refine run_s ?_
      refine sl_y (yl_index sym rfl rfl rfl rfl rfl ( by omega) ((rx.up uc sb).lt hv6) ((rx.up uc sb).get _ _ hv6).1) rfl rfl rfl rfl ?_; refine sl_y (yl_loadR1 sym rfl rfl rfl rfl (rx.up uc sb) hv6 rfl) rfl rfl rfl rfl ?_
      try refine run_s ?_
      refine sl_y (yl_index sym rfl rfl rfl rfl rfl rfl ((ru6.up uc sb).lt hv7) ((ru6.up uc sb).get _ _ hv7).1) rfl rfl rfl rfl ?_; refine sl_y (yl_loadR1 sym rfl rfl rfl rfl (ru6.up uc sb) hv7 rfl) rfl rfl rfl rfl ?_
      try refine run_s ?_
      refine sl_y (yl_fmul (a := d * H (j + 1) j) (b := H j k) rfl rfl rfl (by omega)) rfl rfl rfl rfl ?_
      try refine run_s ?_
      refine sl_callC rfl rfl rfl rfl rfl rfl (fsub_cx (P := P) (k := j + 1) (b := d * H (j + 1) j * H j k) (X := (b3, .var (.agg #[.int .i64 (n : Int), .int .i64 (n : Int), .slice pa (n * n) cm]), TF) :: (D ++ M)) hrn eN (Vrs.ls e8 (ULe.refl _)) (by omega) (by omega) (by omega)) ?_
      rintro v9 U9 M9 hU9 ⟨rfl, D12, vs12, rfl, hr12, e12⟩
      try refine run_s ?_
      rw [show ((j + 1 : Nat) : Int) - 1 - 1 = (j : Int) - 1 by omega]
      have hd2 : d * H (j + 1) j = Lr.prd H j (k - j) := by rw [hd, show k - j = k - (j + 1) + 1 by omega, Lr.prd_down]
      exact sk_again (E' := [(12, .int .i64 (((j : Nat) : Int) - 1)), (11, .int .i64 ((((d * H (j + 1) j).v : Nat) : Int))), (10, .slice p10 (k + 2) c10), (9, .int .i64 (k : Int)), (32, .int .i64 (k : Int)), (8, .slice Q (k + 1) C), (31, .int .i64 (n : Int)), (30, .slice pg n cg), (7, .slice pg n cg), (0, .int .i64 (P.1 : Int)), (3, .pointer (some ⟨b3, 0, none⟩))]) (m := j) ⟨rfl, rfl, rfl, rfl, rfl, rfl, rfl, rfl, rfl, rfl, rfl, trivial⟩ (by omega) ⟨j, d * H (j + 1) j, fun t => if t < j + 1 then N t + -(d * H (j + 1) j * H j k) * Lr.pl H j t else N t, vs12, D12, (((d * H (j + 1) j).v : Nat) : Int), rfl, by omega, hr12, e12, hd2, (fun t ht => by
        have hs := Lr.pl_step (hN t ht) (c := d * H (j + 1) j * H j k) (x := Lr.pl H j t) (by rw [hd2, hfT])
        by_cases e : t < j + 1
        · simp only [if_pos e]; exact hs
        · simp only [if_neg e]
          rw [Lr.pl_high hH (show j ≤ n by omega) (show j < t by omega), Lr.mul_zero, Lr.add_zero] at hs
          exact hs), rfl, rfl, uc, rfl, rfl⟩
    · obtain rfl : i = 0 := by omega
      have hNp : ∀ t, t < k + 2 → N t = Lr.pl H (k + 1) t := fun t ht => by
        have := hN t ht
        rwa [show Lr.sm 0 (fT t) = 0 from rfl, Lr.neg_zero, Lr.add_zero] at this
      try refine run_s ?_
      refine w_push hrow (X := (b3, .var (.agg #[.int .i64 (n : Int), .int .i64 (n : Int), .slice pa (n * n) cm]), TF) :: (Dn ++ M)) pf (fun b94 Q2 C2 D3 hr3 => ?_)
      try refine run_s ?_
      refine sk_perm (M' := Dn ++ ((b3, .var (.agg #[.int .i64 (n : Int), .int .i64 (n : Int), .slice pa (n * n) cm]), TF) :: (D3 ++ M))) pf ?_
      refine sk_setAll fun U6 hU6 hs6 => ?_
      have hv10 : Vpl P H U6 (.slice p10 (k + 2) c10) (k + 1) := ⟨p10, c10, vs, rfl, hc10, hrn.sett hs6, (eN.up KeptC.out uc).congr hrn.len fun t ht => hNp t ht⟩
      exact sk_again (E' := [(32, .int .i64 ((k : Int) + 1)), (8, .slice Q2 ((k + 1) + 1) C2), (31, .int .i64 (n : Int)), (30, .slice pg n cg), (7, .slice pg n cg), (0, .int .i64 (P.1 : Int)), (3, .pointer (some ⟨b3, 0, none⟩))]) (m := n - (k + 1)) ⟨rfl, rfl, rfl, rfl, rfl, rfl, rfl, trivial⟩ (by omega) ⟨k + 1, Q2, C2, _, D3, by omega, hr3, snoc_ok hrow.len.1 (hel.up KeptC.out uc) hv10, rfl, uc, rfl, rfl⟩
  · obtain rfl : n = k := by omega
    have rL := hrow.at (U := U4) (M := D) (List.Sublist.refl _)
    obtain ⟨v1, hv1⟩ := rL.at (show n < n + 1 by omega)
    have e1 : Vrs (Vf P) (n + 1) U4 v1 (Lr.pl H n) := hel _ _ hv1
    obtain ⟨p1, c1, us1, rfl, hc1, ru1, eu1⟩ := id e1
    repeat (first | refine run_S ?_ | refine w_box (fun _ => ?_) | refine w_al (fun _ => ?_))
    refine sl_y (yl_index sym rfl rfl rfl rfl rfl rfl ((rL.up uc sb).lt hv1) ((rL.up uc sb).get _ _ hv1).1) rfl rfl rfl rfl ?_; refine sl_y (yl_loadR1 sym rfl rfl rfl rfl (rL.up uc sb) hv1 rfl) rfl rfl rfl rfl ?_
    repeat (first | refine run_S ?_ | refine w_box (fun _ => ?_) | refine w_al (fun _ => ?_))
    exact sk_ret [] sym rfl (.cons (.tmp rfl) (.cons (.tmp rfl) .nil)) uc sb (.inl rfl) ⟨_, rfl, ⟨p1, c1, us1, rfl, hc1, ru1, eu1.congr ru1.len fun t ht => by rw [Lr.pl_cp hH (by omega), hcp]⟩, rfl⟩
end Go.Proofs.YtpigpikhjlmdoaaGreat
