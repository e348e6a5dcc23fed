/- Walks of matrix: kernels. -/
import Derived.Test.YtcfgogamamdipaaM23
import Derived.Test.YtcfgogamamdipaaB105
import Derived.Test.YtcfgogamamdipaaLf
namespace Go.Proofs.Ytcfgogamamdipaa
open Go.Hp
variable {G : World} {U U' : UH} {M M' : MH}

theorem side_aug (n : Nat) (T : Nat → Nat → Rat) : side n T La.idm = La.aug n T := rfl
theorem aug_sz {m n b : Nat} {T : Nat → Nat → Rat} (hb1 : 1 ≤ b) (hs : ∀ i j, i < m → j < n → Szq (T i j) b) : ∀ i j, i < m → j < n + m → Szq (La.aug n T i j) b := fun i j hi hj => by
  unfold La.aug
  split
  · rename_i h; exact hs i j hi h
  · unfold La.idm
    split
    · exact szq_int1.mono hb1
    · exact szq_int0.mono hb1

/-- [T|I]. -/
theorem maug_step {m n b : Nat} (hm1 : m ≤ 1000) (hn1 : n ≤ 1000) (hb : b ≤ 1000000000) : m * n ≤ 1000 * 1000 ∧ m * (n + m) ≤ 1000 * 2000 := ⟨Nat.mul_le_mul hm1 hn1, Nat.mul_le_mul hm1 (by omega)⟩

theorem mkernel_co {m n b : Nat} {vm : Value} {T : Nat → Nat → Rat} (hm : Vm (Wq b) m n U vm T) (hb1 : 1 ≤ b) (hg1 : 1 + m * La.gro b m ≤ 1000000000) (hg2 : 1 + m * La.gro (La.gro b m) m ≤ 1000000000) (hg3 : La.gro (La.gro b m) m ≤ 1000000000) (hm1 : m ≤ 1000) (hn1 : n ≤ 1000) :
    Ct Try.prog 40 [vm] G U M fun v U' D => ∃ (s : Nat) (K : Nat → Nat → Rat) (q : Nat → Nat) (vg vp : Value) (D1 D2 : MH), v = .tuple #[vg, vp] ∧ Go rW s m U' D1 vg K ∧ Lo Vi TInt 1 s U' D2 vp q ∧ D = D1 ++ D2 ∧ ULe U U' ∧
      La.KerOf m n s T K q ∧ (∀ i j, i < s → j < m → Szq (K i j) (La.gro (La.gro b m) m)) ∧ ∃ (r : Nat) (R : Nat → Nat → Rat) (p : Nat → Nat), EchOf m n r T R p ∧ s + r = m := by
  have hgW : La.gro b m ≤ 1000000000 := Nat.le_trans (La.gro_le (k := La.gro b m) (Nat.zero_le m)) hg3
  have hb : b ≤ 1000000000 := Nat.le_trans (La.gro_le (k := b) (Nat.zero_le m)) hgW
  have hW1 : 1 ≤ La.gro b m := Nat.le_trans hb1 (La.gro_le (k := b) (Nat.zero_le m))
  obtain ⟨hmn, hmn2⟩ := maug_step hm1 hn1 hb
  have sT : ∀ i j, i < m → j < n → Szq (T i j) b := fun i j hi hj => hm.sz hb1 hi hj
  have hm2 := hm
  obtain ⟨_, rfl, pa, cm, ms, rfl, -⟩ := hm
  refine ct_of_st Try.func40 rfl rfl rfl rfl ?_
  repeat (first | refine run_S ?_ | refine w_box (fun _ => ?_) | refine w_al (fun _ => ?_))
  rename_i b1
  refine st_draw [0, 2, 3, 1, 4, 5, 6] sym (by kernel_rfl) ?_
  try refine run_s ?_
  refine sl_call rfl rfl rfl rfl rfl rfl (fun _ => mload_co (kept_m kept_w _ _ _ _ uc hm2) (by omega) (by omega) (by omega) (by omega)) ?_
  rintro v1 U1 D1 hU1 ⟨hgl, -⟩
  try refine run_s ?_
  refine sl_call rfl rfl rfl rfl rfl rfl (fun _ => munit_co (n := m) (by omega)) ?_
  rintro v2 U2 D2 hU2 ⟨hgu, -⟩
  try refine run_s ?_
  have hga : Lg m n U2 (D2 ++ (D1 ++ ((b1, .var (.agg #[.int .i64 (m : Int), .int .i64 (n : Int), .slice pa (m * n) cm]), TM) :: M))) v1 T := (hgl.w.lg (M := D2 ++ (D1 ++ ((b1, .var (.agg #[.int .i64 (m : Int), .int .i64 (n : Int), .slice pa (m * n) cm]), TM) :: M))) sb).up uc (List.Sublist.refl _)
  have hgb : Lg m m U2 (D2 ++ (D1 ++ ((b1, .var (.agg #[.int .i64 (m : Int), .int .i64 (n : Int), .slice pa (m * n) cm]), TM) :: M))) v2 La.idm := hgu.w.lg (List.sublist_append_left ..)
  refine sl_call rfl rfl rfl rfl rfl rfl (fun _ => mbeside_co (hga.up uc sb) (hgb.up uc sb) (by omega) (by omega) (by omega)) ?_
  rintro v3 U3 D3 hU3 ⟨hgd, -⟩
  rw [side_aug] at hgd
  refine sl_perm (M' := (b1, .var (.agg #[.int .i64 (m : Int), .int .i64 (n : Int), .slice pa (m * n) cm]), TM) :: (D3 ++ (D2 ++ (D1 ++ M)))) ?_ pm
  refine sl_drop (M' := (b1, .var (.agg #[.int .i64 (m : Int), .int .i64 (n : Int), .slice pa (m * n) cm]), TM) :: (D3 ++ M)) sbk ?_
  repeat (first | refine run_S ?_ | refine w_box (fun _ => ?_) | refine w_al (fun _ => ?_))
  refine sl_callC rfl rfl rfl rfl rfl rfl ((mreduce_cx (X := (b1, .var (.agg #[.int .i64 (m : Int), .int .i64 (n : Int), .slice pa (m * n) cm]), TM) :: M) (cl := n) hgd.w (aug_sz hb1 sT) (Nat.le_add_right n m) hb1 hg1 hgW (by omega) (by omega)).perm pm) ?_
  rintro v4 U4 M4 hU4 ⟨-, r, R, p, vp, xd, d, D', Dp, rfl, rfl, hg4, ⟨pp, cp, pvs, rfl, hrp, ep⟩, hd, hred, hsz, hsd⟩
  refine sl_perm (M' := (b1, .var (.agg #[.int .i64 (m : Int), .int .i64 (n : Int), .slice pa (m * n) cm]), TM) :: (D' ++ (Dp ++ M))) ?_ pm
  have hrm := hred.le
  obtain ⟨Do, F, pg, cg, svs, rfl, rfl, hro, hgs⟩ := hg4
  have hcg := hro.len
  have hFl : F.length = m := by rw [← hgs.1]; exact hcg.1
  repeat (first | refine run_S ?_ | refine w_box (fun _ => ?_) | refine w_al (fun _ => ?_))
  rename_i b6
  refine w_sFrom (lo := r) (n := m) hrm hcg.2.1 ?_
  have rd0 := (hro.at (U := U4) (M := Do) (List.Sublist.refl _)).drop hrm hcg.2.1
  generalize (if cg = r then pg else pg.map (·.add (r * 1))) = p2 at rd0 ⊢
  repeat (first | refine run_S ?_ | refine w_box (fun _ => ?_) | refine w_al (fun _ => ?_))
  refine st_perm (M := (b6, .var xd.v, TR) :: (b1, .var (.agg #[.int .i64 (m : Int), .int .i64 (n : Int), .slice pa (m * n) cm]), TM) :: ((Do ++ F.flatten) ++ (Dp ++ M))) (M' := (b6, .var xd.v, TR) :: (b1, .var (.agg #[.int .i64 (m : Int), .int .i64 (n : Int), .slice pa (m * n) cm]), TM) :: ([] ++ (Do ++ (F.flatten ++ (Dp ++ M))))) pm ?_
  refine st_loop (fun z E U' M' => ∃ (i : Nat) (pk : Option Addr) (ck : Nat) (kvs : List Value) (Dk : MH), i ≤ m - r ∧ RowO TRs 1 Dk pk i ck kvs ∧ Gs rW m U' kvs ((F.drop r).take i) (fun a j => R (r + a) (n + j)) ∧
      E = [(30, .int .i64 (i : Int)), (28, .slice p2 (m - r) (cg - r)), (29, .int .i64 ((m - r : Nat) : Int)), (7, .slice pk i ck), (1, .pointer (some ⟨b1, 0, none⟩))] ∧ U4 = U' ∧
      M' = (b6, .var xd.v, TR) :: (b1, .var (.agg #[.int .i64 (m : Int), .int .i64 (n : Int), .slice pa (m * n) cm]), TM) :: (Dk ++ (Do ++ (F.flatten ++ (Dp ++ M)))) ∧ z = m - r - i) (n0 := m - r)
    (E0 := [(30, .int .i64 ((0 : Nat) : Int)), (28, .slice p2 (m - r) (cg - r)), (29, .int .i64 ((m - r : Nat) : Int)), (7, .slice none 0 0), (1, .pointer (some ⟨b1, 0, none⟩))]) ⟨rfl, rfl, rfl, rfl, rfl, trivial⟩ ⟨0, none, 0, [], [], by omega, RowO.nil, Gs.nil, rfl, rfl, rfl, rfl⟩ ?_
  rintro z E U5 M' ⟨i, pk, ck, kvs, Dk, hi, hrk, hgk, rfl, rfl, rfl, rfl⟩
  try refine run_s ?_
  refine st_dec rfl (fun h => ?_) (fun h => ?_)
  · have hir : r + i < m := by omega
    have rd := rd0.up (U' := U4) (M' := (b6, .var xd.v, TR) :: (b1, .var (.agg #[.int .i64 (m : Int), .int .i64 (n : Int), .slice pa (m * n) cm]), TM) :: (Dk ++ (Do ++ (F.flatten ++ (Dp ++ M))))) uc sb
    have hvs : r + i < svs.length := by rw [hcg.1]; exact hir
    have hv := List.getElem?_eq_getElem hvs
    have hFi := List.getElem?_eq_getElem (show r + i < F.length by omega)
    generalize svs[r + i] = v5 at hv
    generalize F[r + i] = Di at hFi
    obtain ⟨q, c', vs, rfl, hcc, hR, hel⟩ := hgs.2 _ _ _ hv hFi
    have hvd : (svs.drop r)[i]? = some (.slice q (n + m) c') := by rw [List.getElem?_drop]; exact hv
    try refine run_s ?_
    refine sl_y (yl_index sym rfl rfl rfl rfl rfl rfl (rd.lt hvd) (rd.get _ _ hvd).1) rfl rfl rfl rfl ?_; refine sl_y (yl_loadR1 sym rfl rfl rfl rfl rd hvd rfl) rfl rfl rfl rfl ?_
    try refine run_s ?_
    refine w_sFrom (lo := n) (n := n + m) (by omega) hcc ?_
    have hpart := hR.part (lo := n) (hi := n + m) (by omega) (Nat.le_refl _) hcc
    have e1 : n + m - n = m := by omega
    rw [e1] at hpart ⊢
    generalize (if c' = n then q else q.map (·.add (n * 4))) = q2 at hpart ⊢
    refine w_push hrk (perm2 (D := _)).symm (fun bhr2 phr2 chr2 Dhr2 hr2 => ?_)
    refine sl_perm ?_ (perm2 (D := Dhr2))
    repeat (first | refine run_S ?_ | refine w_box (fun _ => ?_) | refine w_al (fun _ => ?_))
    have hnext : (F.drop r).take i ++ [Di] = (F.drop r).take (i + 1) := by rw [List.take_add_one, List.getElem?_drop, hFi]; rfl
    refine sk_again (E' := [(30, .int .i64 ((i : Int) + 1)), (28, .slice p2 (m - r) (cg - r)), (29, .int .i64 ((m - r : Nat) : Int)), (7, .slice phr2 (i + 1) chr2), (1, .pointer (some ⟨b1, 0, none⟩))]) (m := m - r - (i + 1)) ⟨rfl, rfl, rfl, rfl, rfl, trivial⟩ (by omega)
      ⟨i + 1, phr2, chr2, _, Dhr2, by omega, hr2, ?_, rfl, rfl, rfl, rfl⟩
    rw [← hnext]
    refine hgk.snoc (n := i) hrk.len.1 (by omega) hpart (fun k x hk => ?_)
    rw [List.getElem?_take] at hk
    split at hk
    · rw [List.getElem?_drop] at hk
      exact hel _ _ hk
    · cases hk
  · have e : i = m - r := by omega
    subst e
    have htk : (F.drop r).take (m - r) = F.drop r := List.take_of_length_le (by rw [List.length_drop]; omega)
    rw [htk] at hgk
    have hFs : F.flatten = (F.take r).flatten ++ (F.drop r).flatten := by rw [← List.flatten_append, List.take_append_drop]
    try refine run_s ?_
    rw [hFs]
    refine sl_callC rfl rfl rfl rfl rfl rfl ((mreduce_cx (m := m - r) (n := m) (k := La.gro b m) (D := Dk ++ (F.drop r).flatten) (X := (b6, .var xd.v, TR) :: (b1, .var (.agg #[.int .i64 (m : Int), .int .i64 (n : Int), .slice pa (m * n) cm]), TM) :: (Do ++ ((F.take r).flatten ++ (Dp ++ M)))) (cl := m) ⟨Dk, F.drop r, pk, ck, kvs, rfl, rfl, hrk, hgk⟩ (fun a j ha hj => hsz (r + a) (n + j) (by omega) (by omega)) (Nat.le_refl m) hW1 (Nat.le_trans (Nat.add_le_add_left (Nat.mul_le_mul (by omega) (La.gro_le (by omega))) 1) hg2) (Nat.le_trans (La.gro_le (by omega)) hg3) (by omega) (by omega)).perm pm) ?_
    rintro v6 U6 M6 hU6 ⟨-, r2, R2, q2, vp2, xd2, d2, D2', Dp2, rfl, rfl, hg6, ⟨pp2, cp2, pvs2, rfl, hrp2, ep2⟩, hd2, hred2, hsz2, hsd2⟩
    have e2 := hred2.echof
    obtain ⟨hk, hr2m⟩ := La.red_kerof hred e2.ech e2.same
    subst hr2m
    refine sl_perm (M' := (b6, .var xd.v, TR) :: (b1, .var (.agg #[.int .i64 (m : Int), .int .i64 (n : Int), .slice pa (m * n) cm]), TM) :: (D2' ++ (Dp2 ++ (Do ++ ((F.take r).flatten ++ (Dp ++ M)))))) ?_ pm
    obtain ⟨Do2, F2, pg2, cg2, svs2, rfl, hge, hro2, hgs2⟩ := hg6
    obtain ⟨rfl, -, rfl⟩ := Value.slice.inj hge
    repeat (first | refine run_S ?_ | refine w_box (fun _ => ?_) | refine w_al (fun _ => ?_))
    obtain ⟨l1, l2⟩ := La.red_left hred
    exact sk_ret ((Do2 ++ F2.flatten) ++ Dp2) sym rfl (.cons (.tmp rfl) (.cons (.tmp rfl) .nil)) uc sb (.inl rfl) ⟨m - r, R2, q2, _, _, Do2 ++ F2.flatten, Dp2, rfl, ⟨Do2, F2, _, _, svs2, rfl, rfl, hro2, hgs2⟩, ⟨pp2, cp2, pvs2, rfl, hrp2, ep2⟩, rfl, uc, hk,
      fun a j ha hj => (hsz2 a j ha hj).mono (La.gro_le (by omega)), r, R, p, ⟨l1, l2, hrm⟩, by omega⟩

end Go.Proofs.Ytcfgogamamdipaa
