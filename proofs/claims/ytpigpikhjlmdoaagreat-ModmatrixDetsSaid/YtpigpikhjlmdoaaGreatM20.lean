/- Texts of this seat's own, merged: each begins with its own remark. -/
import Derived.Test.YtpigpikhjlmdoaaGreatM19
import Derived.Test.YtpigpikhjlmdoaaGreatM15
/- Walks of the reference of layer 9: rows of zeros, unit rows, sums of rows. -/
namespace Go.Proofs.YtpigpikhjlmdoaaGreat
open Go.Hp
variable {G : World} {U : UH} {M : MH}

end Go.Proofs.YtpigpikhjlmdoaaGreat

/- Walks of the reference of layer 9: elements, rows and matrices. -/
namespace Go.Proofs.YtpigpikhjlmdoaaGreat
open Go.Hp
variable {G : World} {U : UH} {M : MH}

theorem m9Rows_co {r c b : Nat} {vm : Value} {A : Nat → Nat → Rat} (hm : Vm (Wq b) r c U vm A) (hb : b ≤ 10000000000) (hr : r ≤ 1000000) (hrc : r * c ≤ 100000000) (hc : c ≤ 100000000) :
    Ct Tryz.prog 44 [vm] G U M fun v U' D => Go rO r c U' D v A ∧ ULe U U' := by
  obtain ⟨_, rfl, p, cc, vs, rfl, -, rw1, el⟩ := hm
  refine ct_of_st Tryz.func44 rfl rfl rfl rfl ?_
  repeat (first | refine run_S ?_ | refine w_box (fun _ => ?_) | refine w_al (fun _ => ?_))
  rename_i b1
  refine st_loop (fun m E U' M' => ∃ (i : Nat) (P : Option Addr) (C : Nat) (svs : List Value) (D : MH) (F : List MH), i ≤ r ∧ RowO TRs 1 D P i C svs ∧ Gs rO c U' svs F A ∧ E = [(3, .slice P i C), (4, .int .i64 (i : Int)), (1, .pointer (some ⟨b1, 0, none⟩))] ∧ ULe U U' ∧
      M' = (b1, .var (.agg #[.int .i64 (r : Int), .int .i64 (c : Int), .slice p (r * c) cc]), TM) :: (D ++ (F.flatten ++ M)) ∧ m = r - i) (n0 := r)
    (E0 := [(3, .slice none 0 0), (4, .int .i64 ((0 : Nat) : Int)), (1, .pointer (some ⟨b1, 0, none⟩))]) ⟨rfl, rfl, rfl, trivial⟩ ⟨0, none, 0, [], [], [], by omega, RowO.nil, Gs.nil, rfl, uc, rfl, rfl⟩ ?_
  rintro m E U1 M' ⟨i, P, C, svs, Do, F, hi, hrow, hg, rfl, hU1, rfl, rfl⟩
  try refine run_s ?_
  refine st_dec rfl (fun h => ?_) (fun h => ?_)
  · have hir : i < r := by omega
    try refine run_s ?_
    refine st_loop (fun m E U' M' => ∃ (j : Nat) (q : Option Addr) (c' : Nat) (us : List Value) (D : MH), j ≤ c ∧ RowO TR 4 D q j c' us ∧ El Vq U' us (A i) ∧ E = [(5, .slice q j c'), (6, .int .i64 (j : Int)), (3, .slice P i C), (4, .int .i64 (i : Int)), (1, .pointer (some ⟨b1, 0, none⟩))] ∧ ULe U1 U' ∧
        M' = (b1, .var (.agg #[.int .i64 (r : Int), .int .i64 (c : Int), .slice p (r * c) cc]), TM) :: (D ++ (Do ++ (F.flatten ++ M))) ∧ m = c - j) (n0 := c)
      (E0 := [(5, .slice none 0 0), (6, .int .i64 ((0 : Nat) : Int)), (3, .slice P i C), (4, .int .i64 (i : Int)), (1, .pointer (some ⟨b1, 0, none⟩))]) ⟨rfl, rfl, rfl, rfl, rfl, trivial⟩ ⟨0, none, 0, [], [], by omega, RowO.nil, El.nil, rfl, uc, rfl, rfl⟩ ?_
    rintro m E U2 M' ⟨j, q, c', us, Dr, hj, hrow2, hel, rfl, hU2, rfl, rfl⟩
    try refine run_s ?_
    refine st_dec rfl (fun h2 => ?_) (fun h2 => ?_)
    · have hjc : j < c := by omega
      have hlt := ij_lt hir hjc
      obtain ⟨v1, hv1⟩ := rw1.at hlt
      obtain ⟨x1, rfl, hx1, hn1⟩ := el _ _ hv1
      rw [fl_at hjc] at hx1
      try refine run_s ?_
      refine sl_y (yl_index sym rfl rfl rfl rfl rfl ( by omega) ((rw1.up uc sb).lt hv1) ((rw1.up uc sb).get _ _ hv1).1) rfl rfl rfl rfl ?_; refine sl_y (yl_loadRs sym rfl rfl rfl rfl rfl (rw1.up uc sb) hv1) rfl rfl rfl rfl ?_
      refine sl_call rfl rfl rfl rfl rfl rfl (fun _ => rqNormal_ct (hx1.up uc sb) (by omega)) ?_
      rintro v Uh1 D hU ⟨xh1, rfl, h1, rfl⟩
      repeat (first | refine run_S ?_ | refine w_box (fun _ => ?_) | refine w_al (fun _ => ?_))
      refine w_push hrow2 (perm1 (D := _)).symm (fun bhr2 phr2 chr2 Dhr2 hr2 => ?_)
      refine sl_perm ?_ (perm1 (D := Dhr2))
      repeat (first | refine run_S ?_ | refine w_box (fun _ => ?_) | refine w_al (fun _ => ?_))
      exact sk_again (E' := [(5, .slice phr2 (j + 1) chr2), (6, .int .i64 ((j : Int) + 1)), (3, .slice P i C), (4, .int .i64 (i : Int)), (1, .pointer (some ⟨b1, 0, none⟩))]) (m := c - (j + 1)) ⟨rfl, rfl, rfl, rfl, rfl, trivial⟩ (by omega)
        ⟨j + 1, phr2, chr2, _, Dhr2, by omega, hr2, snoc_ok hrow2.len.1 (hel.up kept_q uc) ⟨xh1, rfl, h1⟩, rfl, uc, rfl, rfl⟩
    · have e : j = c := by omega
      subst e
      try refine run_s ?_
      refine w_push (X := (b1, .var (.agg #[.int .i64 (r : Int), .int .i64 (j : Int), .slice p (r * j) cc]), TM) :: (Dr ++ (F.flatten ++ M))) hrow ((swp1 (A := Dr) (B := Do)).trans perm1.symm) (fun b2 P2 C2 D2 hr2 => ?_)
      refine sl_perm ?_ perm1
      try refine run_s ?_
      refine sk_perm (M' := (b1, .var (.agg #[.int .i64 (r : Int), .int .i64 (j : Int), .slice p (r * j) cc]), TM) :: (D2 ++ ((F ++ [Dr]).flatten ++ M))) ?_ ?_
      · rw [List.flatten_append, List.flatten_singleton, List.append_assoc]
        exact (List.perm_append_comm_assoc ..).append_left D2 |>.cons _
      · exact sk_again (E' := [(3, .slice P2 (i + 1) C2), (4, .int .i64 ((i : Int) + 1)), (1, .pointer (some ⟨b1, 0, none⟩))]) (m := r - (i + 1)) ⟨rfl, rfl, rfl, trivial⟩ (by omega)
          ⟨i + 1, P2, C2, _, D2, F ++ [Dr], by omega, hr2, (hg.up uc).snoc hrow.len.1 hrow2.len.2.1 hrow2 hel, rfl, uc, rfl, rfl⟩
  · try refine run_s ?_
    have e : i = r := by omega
    subst e
    exact sk_ret (Do ++ F.flatten) sym rfl (.cons (.tmp rfl) .nil) uc sb (.inl rfl) ⟨⟨Do, F, P, C, svs, rfl, rfl, hrow, hg⟩, uc⟩

end Go.Proofs.YtpigpikhjlmdoaaGreat

/- Walks of the reference of layer 9: matrices of rows, products, sums, transposes. -/
namespace Go.Proofs.YtpigpikhjlmdoaaGreat
open Go.Hp
variable {G : World} {U : UH} {M : MH}

end Go.Proofs.YtpigpikhjlmdoaaGreat

/- Walks of the reference of layer 9: products, sums, transposes, traces. -/
namespace Go.Proofs.YtpigpikhjlmdoaaGreat
open Go.Hp
variable {G : World} {U : UH} {M : MH}

theorem sm_snoc (n : Nat) (f : Nat → Rat) : La.sm n f + f n = La.sm (n + 1) f := rfl

end Go.Proofs.YtpigpikhjlmdoaaGreat
