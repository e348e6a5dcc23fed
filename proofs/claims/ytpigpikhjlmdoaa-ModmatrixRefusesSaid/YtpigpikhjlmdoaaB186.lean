/- Walks of modmatrix: what is refused. -/
import Derived.Test.YtpigpikhjlmdoaaM47
namespace Go.Proofs.Ytpigpikhjlmdoaa
open Go.Hp
open Go.Fq (Pm Fp Prm)
variable {G : World} {U U' : UH} {M M' : MH} {w r c : Int} {n cc : Nat} {pa : Option Addr}

theorem fEch_e (hn : n ≤ 9223372036854775807) (he : errF w r c n ≠ 0) :
    Ct Try.prog 28 [.int .i64 w, .agg #[.int .i64 r, .int .i64 c, .slice pa n cc]] G U M fun v U' D => v = .tuple #[zFM, .slice none 0 0, .int .i64 (errF w r c n)] ∧ ULe U U' ∧ D = [] := by
  refine ct_of_st Try.func28 rfl rfl rfl rfl ?_
  repeat (first | refine run_S ?_ | refine w_box (fun _ => ?_) | refine w_al (fun _ => ?_))
  rename_i b1 b2
  refine sl_call rfl rfl rfl rfl rfl rfl (fun _ => fcheck_ct (z := w) (r := r) (c := c) (n := n) (p := pa) (cc := cc) hn) ?_
  rintro v U' D hU ⟨rfl, rfl, rfl⟩
  repeat (first | refine run_S ?_ | refine w_box (fun _ => ?_) | refine w_al (fun _ => ?_))
  refine st_ne rfl (fun h => ?_) (fun h => absurd h he)
  repeat (first | refine run_S ?_ | refine w_box (fun _ => ?_) | refine w_al (fun _ => ?_))
  exact sk_ret [] sym rfl (.cons (.cell 0 rfl rfl rfl) (.cons (.tmp rfl) (.cons (.tmp rfl) .nil))) uc sb (.inl rfl) ⟨rfl, uc, rfl⟩
theorem fRank_e (hn : n ≤ 9223372036854775807) (he : errF w r c n ≠ 0) :
    Ct Try.prog 29 [.int .i64 w, .agg #[.int .i64 r, .int .i64 c, .slice pa n cc]] G U M fun v U' D => v = .tuple #[.int .i64 0, .int .i64 (errF w r c n)] ∧ ULe U U' ∧ D = [] := by
  refine ct_of_st Try.func29 rfl rfl rfl rfl ?_
  repeat (first | refine run_S ?_ | refine w_box (fun _ => ?_) | refine w_al (fun _ => ?_))
  refine sl_call rfl rfl rfl rfl rfl rfl (fun _ => fEch_e (pa := pa) (cc := cc) hn he) ?_
  rintro v1 U1 D1 hU1 ⟨rfl, -, rfl⟩
  rw [List.nil_append]
  repeat (first | refine run_S ?_ | refine w_box (fun _ => ?_) | refine w_al (fun _ => ?_))
  exact sk_ret [] sym rfl (.cons (.tmp rfl) (.cons (.tmp rfl) .nil)) uc sb (.inl rfl) ⟨rfl, uc, rfl⟩
theorem fKer_e (hn : n ≤ 9223372036854775807) (he : errF w r c n ≠ 0) :
    Ct Try.prog 30 [.int .i64 w, .agg #[.int .i64 r, .int .i64 c, .slice pa n cc]] G U M fun v U' D => v = .tuple #[zFM, .int .i64 (errF w r c n)] ∧ ULe U U' ∧ D = [] := by
  refine ct_of_st Try.func30 rfl rfl rfl rfl ?_
  repeat (first | refine run_S ?_ | refine w_box (fun _ => ?_) | refine w_al (fun _ => ?_))
  rename_i b1 b2
  refine sl_call rfl rfl rfl rfl rfl rfl (fun _ => fcheck_ct (z := w) (r := r) (c := c) (n := n) (p := pa) (cc := cc) hn) ?_
  rintro v U' D hU ⟨rfl, rfl, rfl⟩
  repeat (first | refine run_S ?_ | refine w_box (fun _ => ?_) | refine w_al (fun _ => ?_))
  refine st_ne rfl (fun h => ?_) (fun h => absurd h he)
  repeat (first | refine run_S ?_ | refine w_box (fun _ => ?_) | refine w_al (fun _ => ?_))
  exact sk_ret [] sym rfl (.cons (.cell 0 rfl rfl rfl) (.cons (.tmp rfl) .nil)) uc sb (.inl rfl) ⟨rfl, uc, rfl⟩
theorem fDet_e (hn : n ≤ 9223372036854775807) (he : errS w r c n ≠ 0) :
    Ct Try.prog 31 [.int .i64 w, .agg #[.int .i64 r, .int .i64 c, .slice pa n cc]] G U M fun v U' D => v = .tuple #[.int .i64 0, .int .i64 (errS w r c n)] ∧ ULe U U' ∧ D = [] := by
  refine ct_of_st Try.func31 rfl rfl rfl rfl ?_
  repeat (first | refine run_S ?_ | refine w_box (fun _ => ?_) | refine w_al (fun _ => ?_))
  refine sl_call rfl rfl rfl rfl rfl rfl (fun _ => fsquare_ct (z := w) (r := r) (c := c) (n := n) (p := pa) (cc := cc) hn) ?_
  rintro v U' D hU ⟨rfl, rfl, rfl⟩
  repeat (first | refine run_S ?_ | refine w_box (fun _ => ?_) | refine w_al (fun _ => ?_))
  refine st_ne rfl (fun h => ?_) (fun h => absurd h he)
  repeat (first | refine run_S ?_ | refine w_box (fun _ => ?_) | refine w_al (fun _ => ?_))
  exact sk_ret [] sym rfl (.cons (.tmp rfl) (.cons (.tmp rfl) .nil)) uc sb (.inl rfl) ⟨rfl, uc, rfl⟩
theorem fCP_e (hn : n ≤ 9223372036854775807) (he : errS w r c n ≠ 0) :
    Ct Try.prog 32 [.int .i64 w, .agg #[.int .i64 r, .int .i64 c, .slice pa n cc]] G U M fun v U' D => v = .tuple #[.slice none 0 0, .int .i64 (errS w r c n)] ∧ ULe U U' ∧ D = [] := by
  refine ct_of_st Try.func32 rfl rfl rfl rfl ?_
  repeat (first | refine run_S ?_ | refine w_box (fun _ => ?_) | refine w_al (fun _ => ?_))
  refine sl_call rfl rfl rfl rfl rfl rfl (fun _ => fsquare_ct (z := w) (r := r) (c := c) (n := n) (p := pa) (cc := cc) hn) ?_
  rintro v U' D hU ⟨rfl, rfl, rfl⟩
  repeat (first | refine run_S ?_ | refine w_box (fun _ => ?_) | refine w_al (fun _ => ?_))
  refine st_ne rfl (fun h => ?_) (fun h => absurd h he)
  repeat (first | refine run_S ?_ | refine w_box (fun _ => ?_) | refine w_al (fun _ => ?_))
  exact sk_ret [] sym rfl (.cons (.tmp rfl) (.cons (.tmp rfl) .nil)) uc sb (.inl rfl) ⟨rfl, uc, rfl⟩

/-- The first error of a product. -/
noncomputable def errM (w ra ca rb cb : Int) (na nb : Nat) : Int := if errF w ra ca na ≠ 0 then errF w ra ca na else if errF w rb cb nb ≠ 0 then errF w rb cb nb else if ca = rb then 0 else 4
theorem fMul_e {ra ca rb cb : Int} {na nb cca ccb : Nat} {pb : Option Addr} (hna : na ≤ 9223372036854775807) (hnb : nb ≤ 9223372036854775807) (he : errM w ra ca rb cb na nb ≠ 0) :
    Ct Try.prog 27 [.int .i64 w, .agg #[.int .i64 ra, .int .i64 ca, .slice pa na cca], .agg #[.int .i64 rb, .int .i64 cb, .slice pb nb ccb]] G U M fun v U' D => v = .tuple #[zFM, .int .i64 (errM w ra ca rb cb na nb)] ∧ ULe U U' ∧ D = [] := by
  refine ct_of_st Try.func27 rfl rfl rfl rfl ?_
  repeat (first | refine run_S ?_ | refine w_box (fun _ => ?_) | refine w_al (fun _ => ?_))
  rename_i b4 b5 b6
  refine sl_bslice (vs := [.agg #[.int .i64 ra, .int .i64 ca, .slice pa na cca], .agg #[.int .i64 rb, .int .i64 cb, .slice pb nb ccb]]) sym rfl rfl rfl rfl rfl rfl (all_size rfl) rfl rfl rfl rfl rfl rfl (fun b21 => ?_)
  repeat (first | refine run_S ?_ | refine w_box (fun _ => ?_) | refine w_al (fun _ => ?_))
  try refine st_anti (M' := (b21, .arr [.agg #[.int .i64 ra, .int .i64 ca, .slice pa na cca], .agg #[.int .i64 rb, .int .i64 cb, .slice pb nb ccb]], TF) :: (b6, .var (.agg #[.int .i64 0, .int .i64 0, .slice none 0 0]), TF) :: (b5, .var (.agg #[.int .i64 rb, .int .i64 cb, .slice pb nb ccb]), TF) :: (b4, .var (.agg #[.int .i64 ra, .int .i64 ca, .slice pa na cca]), TF) :: M) (ULe.refl _) sbk ?_
  refine st_loop (fun z E U' M' => ∃ (i : Nat), i ≤ 2 ∧ (0 < i → errF w ra ca na = 0) ∧ (1 < i → errF w rb cb nb = 0) ∧ U = U' ∧ E = [(23, .int .i64 (i : Int)), (22, .int .i64 2), (21, .slice (some ⟨b21, 0, none⟩) 2 2), (7, .int .i64 0), (6, .pointer (some ⟨b6, 0, none⟩)), (5, .pointer (some ⟨b5, 0, none⟩)), (4, .pointer (some ⟨b4, 0, none⟩)), (0, .int .i64 w)] ∧ ULe U U' ∧ M' = (b21, .arr [.agg #[.int .i64 ra, .int .i64 ca, .slice pa na cca], .agg #[.int .i64 rb, .int .i64 cb, .slice pb nb ccb]], TF) :: (b6, .var (.agg #[.int .i64 0, .int .i64 0, .slice none 0 0]), TF) :: (b5, .var (.agg #[.int .i64 rb, .int .i64 cb, .slice pb nb ccb]), TF) :: (b4, .var (.agg #[.int .i64 ra, .int .i64 ca, .slice pa na cca]), TF) :: M ∧ z = 2 - i) (n0 := 2 - 0) (E0 := [(23, .int .i64 ((0 : Nat) : Int)), (22, .int .i64 2), (21, .slice (some ⟨b21, 0, none⟩) 2 2), (7, .int .i64 0), (6, .pointer (some ⟨b6, 0, none⟩)), (5, .pointer (some ⟨b5, 0, none⟩)), (4, .pointer (some ⟨b4, 0, none⟩)), (0, .int .i64 w)]) ⟨rfl, rfl, rfl, rfl, rfl, rfl, rfl, rfl, trivial⟩ ⟨0, by omega, (fun h => absurd h (by decide)), (fun h => absurd h (by decide)), rfl, rfl, uc, rfl, rfl⟩ ?_
  rintro z E U1 M' ⟨i, hi, ha0, hb0, rfl, rfl, hU1, rfl, rfl⟩
  try refine run_s ?_
  have hrl := (RowO.mk (e := TF) (s := 3) (b := b21) (n := 2) (vs := [.agg #[.int .i64 ra, .int .i64 ca, .slice pa na cca], .agg #[.int .i64 rb, .int .i64 cb, .slice pb nb ccb]]) rfl (all_size rfl) (by omega)).at (U := U) (M := (b21, .arr [.agg #[.int .i64 ra, .int .i64 ca, .slice pa na cca], .agg #[.int .i64 rb, .int .i64 cb, .slice pb nb ccb]], TF) :: (b6, .var (.agg #[.int .i64 0, .int .i64 0, .slice none 0 0]), TF) :: (b5, .var (.agg #[.int .i64 rb, .int .i64 cb, .slice pb nb ccb]), TF) :: (b4, .var (.agg #[.int .i64 ra, .int .i64 ca, .slice pa na cca]), TF) :: M) sb
  refine st_dec rfl (fun h => ?_) (fun h => ?_)
  · rcases (show i = 0 ∨ i = 1 by omega) with rfl | rfl
    · have hv0 : ([.agg #[.int .i64 ra, .int .i64 ca, .slice pa na cca], .agg #[.int .i64 rb, .int .i64 cb, .slice pb nb ccb]] : List Value)[0]? = some (.agg #[.int .i64 ra, .int .i64 ca, .slice pa na cca]) := rfl
      repeat (first | refine run_S ?_ | refine w_box (fun _ => ?_) | refine w_al (fun _ => ?_))
      refine sl_y (yl_index sym rfl rfl rfl rfl rfl rfl (hrl.lt hv0) (hrl.get _ _ hv0).1) rfl rfl rfl rfl ?_; refine sl_y (yl_loadRs sym rfl rfl rfl rfl rfl hrl hv0) rfl rfl rfl rfl ?_
      repeat (first | refine run_S ?_ | refine w_box (fun _ => ?_) | refine w_al (fun _ => ?_))
      rename_i b9
      refine sl_call rfl rfl rfl rfl rfl rfl (fun _ => fcheck_ct (z := w) (r := ra) (c := ca) (n := na) (p := pa) (cc := cca) hna) ?_
      rintro v U' D hU ⟨rfl, rfl, rfl⟩
      repeat (first | refine run_S ?_ | refine w_box (fun _ => ?_) | refine w_al (fun _ => ?_))
      refine st_ne rfl (fun h => ?_) (fun h => ?_)
      · repeat (first | refine run_S ?_ | refine w_box (fun _ => ?_) | refine w_al (fun _ => ?_))
        exact sk_ret [] sym rfl (.cons (.cell 2 rfl rfl rfl) (.cons (.tmp rfl) .nil)) uc sb (.inl rfl) ⟨by unfold errM; rw [if_pos h]; rfl, uc, rfl⟩
      · repeat (first | refine run_S ?_ | refine w_box (fun _ => ?_) | refine w_al (fun _ => ?_))
        refine sk_anti (M' := (b21, .arr [.agg #[.int .i64 ra, .int .i64 ca, .slice pa na cca], .agg #[.int .i64 rb, .int .i64 cb, .slice pb nb ccb]], TF) :: (b6, .var (.agg #[.int .i64 0, .int .i64 0, .slice none 0 0]), TF) :: (b5, .var (.agg #[.int .i64 rb, .int .i64 cb, .slice pb nb ccb]), TF) :: (b4, .var (.agg #[.int .i64 ra, .int .i64 ca, .slice pa na cca]), TF) :: M) (ULe.refl _) sbk ?_
        exact sk_again (E' := [(23, .int .i64 ((1 : Nat) : Int)), (22, .int .i64 2), (21, .slice (some ⟨b21, 0, none⟩) 2 2), (7, .int .i64 0), (6, .pointer (some ⟨b6, 0, none⟩)), (5, .pointer (some ⟨b5, 0, none⟩)), (4, .pointer (some ⟨b4, 0, none⟩)), (0, .int .i64 w)]) (m := 2 - 1) ⟨rfl, rfl, rfl, rfl, rfl, rfl, rfl, rfl, trivial⟩ (by omega) ⟨1, by omega, (fun _ => h), (fun h => absurd h (by decide)), rfl, rfl, uc, rfl, rfl⟩
    · have hv0 : ([.agg #[.int .i64 ra, .int .i64 ca, .slice pa na cca], .agg #[.int .i64 rb, .int .i64 cb, .slice pb nb ccb]] : List Value)[1]? = some (.agg #[.int .i64 rb, .int .i64 cb, .slice pb nb ccb]) := rfl
      have ha1 := ha0 (by decide)
      repeat (first | refine run_S ?_ | refine w_box (fun _ => ?_) | refine w_al (fun _ => ?_))
      refine sl_y (yl_index sym rfl rfl rfl rfl rfl rfl (hrl.lt hv0) (hrl.get _ _ hv0).1) rfl rfl rfl rfl ?_; refine sl_y (yl_loadRs sym rfl rfl rfl rfl rfl hrl hv0) rfl rfl rfl rfl ?_
      repeat (first | refine run_S ?_ | refine w_box (fun _ => ?_) | refine w_al (fun _ => ?_))
      rename_i b9
      refine sl_call rfl rfl rfl rfl rfl rfl (fun _ => fcheck_ct (z := w) (r := rb) (c := cb) (n := nb) (p := pb) (cc := ccb) hnb) ?_
      rintro v U' D hU ⟨rfl, rfl, rfl⟩
      repeat (first | refine run_S ?_ | refine w_box (fun _ => ?_) | refine w_al (fun _ => ?_))
      refine st_ne rfl (fun h => ?_) (fun h => ?_)
      · repeat (first | refine run_S ?_ | refine w_box (fun _ => ?_) | refine w_al (fun _ => ?_))
        exact sk_ret [] sym rfl (.cons (.cell 2 rfl rfl rfl) (.cons (.tmp rfl) .nil)) uc sb (.inl rfl) ⟨by unfold errM; rw [if_neg (fun e => e ha1), if_pos h]; rfl, uc, rfl⟩
      · repeat (first | refine run_S ?_ | refine w_box (fun _ => ?_) | refine w_al (fun _ => ?_))
        refine sk_anti (M' := (b21, .arr [.agg #[.int .i64 ra, .int .i64 ca, .slice pa na cca], .agg #[.int .i64 rb, .int .i64 cb, .slice pb nb ccb]], TF) :: (b6, .var (.agg #[.int .i64 0, .int .i64 0, .slice none 0 0]), TF) :: (b5, .var (.agg #[.int .i64 rb, .int .i64 cb, .slice pb nb ccb]), TF) :: (b4, .var (.agg #[.int .i64 ra, .int .i64 ca, .slice pa na cca]), TF) :: M) (ULe.refl _) sbk ?_
        exact sk_again (E' := [(23, .int .i64 ((2 : Nat) : Int)), (22, .int .i64 2), (21, .slice (some ⟨b21, 0, none⟩) 2 2), (7, .int .i64 0), (6, .pointer (some ⟨b6, 0, none⟩)), (5, .pointer (some ⟨b5, 0, none⟩)), (4, .pointer (some ⟨b4, 0, none⟩)), (0, .int .i64 w)]) (m := 2 - 2) ⟨rfl, rfl, rfl, rfl, rfl, rfl, rfl, rfl, trivial⟩ (by omega) ⟨2, by omega, (fun _ => ha1), (fun _ => h), rfl, rfl, uc, rfl, rfl⟩
  · have ha1 := ha0 (by omega)
    have hb1 := hb0 (by omega)
    have hne : ca ≠ rb := fun e => he (by unfold errM; rw [if_neg (fun k => k ha1), if_neg (fun k => k hb1), if_pos e])
    repeat (first | refine run_S ?_ | refine w_box (fun _ => ?_) | refine w_al (fun _ => ?_))
    refine st_ne rfl (fun h => ?_) (fun h => absurd h hne)
    repeat (first | refine run_S ?_ | refine w_box (fun _ => ?_) | refine w_al (fun _ => ?_))
    exact sk_ret [] sym rfl (.cons (.cell 1 rfl rfl rfl) (.cons (.tmp rfl) .nil)) uc sb (.inl rfl) ⟨by unfold errM; rw [if_neg (fun k => k ha1), if_neg (fun k => k hb1), if_neg hne]; rfl, uc, rfl⟩
end Go.Proofs.Ytpigpikhjlmdoaa
