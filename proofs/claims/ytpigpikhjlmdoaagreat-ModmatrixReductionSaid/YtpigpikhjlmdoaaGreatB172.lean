/- Walks of layer 13's reference: residues, also of fractions. -/
import Derived.Test.YtpigpikhjlmdoaaGreatM43
import Derived.Test.YtpigpikhjlmdoaaGreatM41
import Derived.Test.YtpigpikhjlmdoaaGreatM35
import Derived.Test.YtpigpikhjlmdoaaGreatM44
import Derived.Test.YtpigpikhjlmdoaaGreatM48
namespace Go.Proofs.YtpigpikhjlmdoaaGreat
open Go.Hp
open Go.Fq (Pm Fp Prm)
variable {G : World} {U U' : UH} {M : MH}
theorem _root_.Go.Hp.st_cutK {P : Program} {K : Kont} {N : Nat} {G : World} {E : Env} {U : UH} {M : MH} (Φ : Env → UH → MH → Prop) {x y : Code} (h1 : St P (kcut N G Φ K) N G x E U M) (h2 : ∀ E U M, Φ E U M → St P K N G y E U M) : St P (kseq P y K) N G x E U M := by
  refine ⟨fun a w ha hw => wp_mono (h1.run a w ha hw) ?_⟩
  intro e a w hq
  cases e <;> try exact hq
  obtain ⟨E, U, M, hp, ha, hw⟩ := hq
  exact (h2 E U M hp).run a w ha hw
theorem two_ints {b e s : Nat} {x y : IV} {z w : Int} (hx : x.rep U [] z) (hy : y.rep U [] w) (hxn : x.n ≤ s) (hyn : y.n ≤ s) (hM : [(b, .arr [x.v, y.v], e)].Sublist M) :
    Ls (Xw s) 2 2 U M (.slice (some ⟨b, 0, none⟩) 2 2) (fun i => if i = 0 then z else w) := by
  refine ⟨_, _, [x.v, y.v], rfl, Nat.le_refl 2, (RowO.mk (e := e) (b := b) rfl (fun v hv => ?_) (Nat.le_of_ble_eq_true rfl)).at hM, fun k v hk => ?_⟩
  · simp only [List.mem_cons, List.not_mem_nil, or_false] at hv
    rcases hv with rfl | rfl <;> rfl
  · match k, hk with
    | 0, hk => cases hk; exact ⟨x, rfl, hx, hxn⟩
    | 1, hk => cases hk; exact ⟨y, rfl, hy, hyn⟩
    | k + 2, hk => simp at hk
theorem pfs {α : Type} {a b : List α} (h : ∀ f : α → Nat, (a.map f).sum = (b.map f).sum := by intro f; simp only [List.set_cons_zero, List.set_cons_succ, TInt, TIs, TF, TR, zeroQV, zeroIV0, QV.v, List.map_append, List.map_cons, List.sum_append, List.sum_cons, List.flatten_cons, List.flatten_append, List.flatten_nil, List.map_nil, List.sum_nil, List.nil_append, List.append_nil]; omega) : a.Perm b := pf h
theorem z3Mod_ct {z m : Int} (hm : 0 < m) (hm2 : m ≤ 9223372036854775807) :
    Ct Tryz.prog 63 [.int .i64 z, .int .i64 m] G U M fun v U' D => v = .int .i64 (z % m) ∧ U = U' ∧ D = [] := by
  obtain ⟨h1, h2⟩ := tmod_fix (z := z) hm
  obtain ⟨h3, h4⟩ := tmod_bd (z := z) hm
  refine ct_of_st Tryz.func63 rfl rfl rfl rfl ?_
  repeat (first | refine run_S ?_ | refine w_box (fun _ => ?_) | refine w_al (fun _ => ?_))
  refine sl_y (yl_rem (k := .i64) (a := z) (b := m) rfl rfl rfl (by omega)) rfl rfl rfl rfl ?_
  repeat (first | refine run_S ?_ | refine w_box (fun _ => ?_) | refine w_al (fun _ => ?_))
  refine st_dec rfl (fun h => ?_) (fun h => ?_)
  · repeat (first | refine run_S ?_ | refine w_box (fun _ => ?_) | refine w_al (fun _ => ?_))
    exact sk_ret [] sym rfl (.cons (.tmp rfl) .nil) (ULe.refl _) sb (.inl rfl) ⟨by rw [h1 h]; rfl, rfl, rfl⟩
  · repeat (first | refine run_S ?_ | refine w_box (fun _ => ?_) | refine w_al (fun _ => ?_))
    exact sk_ret [] sym rfl (.cons (.tmp rfl) .nil) (ULe.refl _) sb (.inl rfl) ⟨by rw [h2 h]; rfl, rfl, rfl⟩
theorem z3InRange_ct {z : Int} (h0 : 1 ≤ z) (h1 : z ≤ 2147483647) :
    Ct Tryz.prog 113 [.int .i64 z] G U M fun v U' D => v = .bool true ∧ U = U' ∧ D = [] := by
  refine ct_of_st Tryz.func113 rfl rfl rfl rfl ?_
  repeat (first | refine run_S ?_ | refine w_box (fun _ => ?_) | refine w_al (fun _ => ?_))
  refine sl_gdec rfl rfl (fun _ => ?_) (fun h => absurd h (by omega))
  repeat (first | refine run_S ?_ | refine w_box (fun _ => ?_) | refine w_al (fun _ => ?_))
  exact sk_ret [] sym rfl (.cons (.tmp rfl) .nil) (ULe.refl _) sb (.inl rfl) ⟨by rw [dec_true h1]; rfl, rfl, rfl⟩
theorem z3Inverse_ct {P : Pm} {a : Fp P} (ha : a ≠ 0) (hp : P.1 ≤ 2147483647) :
    Ct Tryz.prog 62 [.int .i64 (a.v : Int), .int .i64 (P.1 : Int)] G U M fun v U' D => v = .tuple #[.int .i64 (a⁻¹.v : Int), .int .i64 0] ∧ U = U' ∧ D = [] := by
  have hp2 := P.2.two
  have hal := a.lt
  refine ct_of_st Tryz.func62 rfl rfl rfl rfl ?_
  repeat (first | refine run_S ?_ | refine w_box (fun _ => ?_) | refine w_al (fun _ => ?_))
  refine sl_call rfl rfl rfl rfl rfl rfl (fun _ => z3InRange_ct (z := (P.1 : Int)) (by omega) (by omega)) ?_
  rintro v U' D hU ⟨rfl, rfl, rfl⟩
  repeat (first | refine run_S ?_ | refine w_box (fun _ => ?_) | refine w_al (fun _ => ?_))
  refine sl_call rfl rfl rfl rfl rfl rfl (fun _ => z3Mod_ct (z := (a.v : Int)) (m := (P.1 : Int)) (by omega) (by omega)) ?_
  rintro v U' D hU ⟨rfl, rfl, rfl⟩
  repeat (first | refine run_S ?_ | refine w_box (fun _ => ?_) | refine w_al (fun _ => ?_))
  rw [Int.emod_eq_of_lt (by omega) (by omega)]
  repeat (first | refine run_S ?_ | refine w_box (fun _ => ?_) | refine w_al (fun _ => ?_))
  try refine st_anti (M' := M) (ULe.refl _) sbk ?_
  refine st_loop (fun z E U' M' => ∃ (g r : Nat) (u x e : Int), Fq.Eu (a.v : Int) (P.1 : Int) (g : Int) (r : Int) u x e ∧ (-(P.1 : Int) ≤ x ∧ x ≤ (P.1 : Int)) ∧ g ≤ P.1 ∧ r ≤ P.1 ∧ U = U' ∧ E = [(6, .int .i64 (g : Int)), (7, .int .i64 (r : Int)), (8, .int .i64 u), (9, .int .i64 x), (0, .int .i64 (a.v : Int)), (1, .int .i64 (P.1 : Int))] ∧ ULe U U' ∧ M' = M ∧ z = r) (n0 := P.1) (E0 := [(6, .int .i64 ((a.v : Nat) : Int)), (7, .int .i64 ((P.1 : Nat) : Int)), (8, .int .i64 1), (9, .int .i64 0), (0, .int .i64 (a.v : Int)), (1, .int .i64 (P.1 : Int))]) ⟨rfl, rfl, rfl, rfl, rfl, rfl, trivial⟩ ⟨a.v, P.1, 1, 0, 1, Fq.Eu.start (by omega) (by omega), by omega, by omega, by omega, rfl, rfl, uc, rfl, rfl⟩ ?_
  rintro z E U1 M' ⟨g, r, u, x, e, hE, hx, hg, hr, rfl, rfl, hU1, rfl, hzL⟩
  try refine run_s ?_
  refine st_dec rfl (fun h1 => ?_) (fun h1 => ?_)
  · have hdm := Nat.div_add_mod g r
    have hlt := Nat.mod_lt g (show 0 < r by omega)
    obtain ⟨q, hq⟩ : ∃ q, g / r = q := ⟨_, rfl⟩
    obtain ⟨s, hs⟩ : ∃ s, g % r = s := ⟨_, rfl⟩
    rw [hq, hs] at hdm
    rw [hs] at hlt
    have hgr : (g : Int) = (q : Int) * (r : Int) + (s : Int) := by
      rw [← Int.natCast_mul, Nat.mul_comm]; omega
    have hS := hE.step (q := (q : Int)) (s := (s : Int)) (by omega) hgr (by omega) (by omega) hx
    have hV := hS.vb (by omega)
    have hub := hE.ub
    have hm1 : 0 ≤ (q : Int) * (r : Int) ∧ (q : Int) * (r : Int) ≤ P.1 := by
      have := Int.mul_nonneg (show (0 : Int) ≤ q by omega) (show (0 : Int) ≤ r by omega)
      omega
    have hm2 : -(2 * (P.1 : Int)) ≤ (q : Int) * x ∧ (q : Int) * x ≤ 2 * (P.1 : Int) := by omega
    try refine run_s ?_
    refine sl_y (yl_quoN (m := g) (n := r) (q := q) rfl rfl rfl rfl rfl (by simp only [kmax]; omega) (by omega) hq) rfl rfl rfl rfl ?_
    try refine run_s ?_
    rw [show (g : Int) - (q : Int) * (r : Int) = (s : Int) by omega]
    exact sk_again (E' := [(6, .int .i64 ((r : Nat) : Int)), (7, .int .i64 ((s : Nat) : Int)), (8, .int .i64 x), (9, .int .i64 (u - (q : Int) * x)), (0, .int .i64 (a.v : Int)), (1, .int .i64 (P.1 : Int))]) (m := s) ⟨rfl, rfl, rfl, rfl, rfl, rfl, trivial⟩ (by omega) ⟨r, s, x, u - (q : Int) * x, -e, hS, hV, by omega, by omega, rfl, rfl, uc, rfl, rfl⟩
  · have hr0 : r = 0 := by omega
    subst hr0
    obtain ⟨h2, h3⟩ := hE.inv ha
    have hg1 : g = 1 := by omega
    subst hg1
    try refine run_s ?_
    refine st_ne rfl (fun h => absurd rfl h) (fun _ => ?_)
    try refine run_s ?_
    refine sl_call rfl rfl rfl rfl rfl rfl (fun _ => z3Mod_ct (z := u) (m := (P.1 : Int)) (by omega) (by omega)) ?_
    rintro v U' D hU ⟨rfl, rfl, rfl⟩
    repeat (first | refine run_S ?_ | refine w_box (fun _ => ?_) | refine w_al (fun _ => ?_))
    have hu : u % (P.1 : Int) = (a⁻¹.v : Int) := by rw [← h3, Fq.of_val]
    rw [hu]
    exact sk_ret [] sym rfl (.cons (.tmp rfl) (.cons (.tmp rfl) .nil)) uc sb (.inl rfl) ⟨rfl, rfl, rfl⟩
theorem fof_ct {P : Pm} {x : IV} {z : Int} (hx : x.rep U [] z) (hn : x.n ≤ 274877906944) (hp : P.1 ≤ 65536) :
    Ct Tryz.prog 53 [x.v, .int .i64 (P.1 : Int)] G U M fun v U' D => v = .int .i64 ((Fq.of P z).v : Int) ∧ ULe U U' ∧ D = [] := by
  have hp2 := P.2.two
  have sp : Sz (P.1 : Int) 1 := by unfold Sz; omega
  have hb : 0 ≤ z % (P.1 : Int) ∧ z % (P.1 : Int) < (P.1 : Int) := ⟨Int.emod_nonneg _ (by omega), Int.emod_lt_of_pos _ (by omega)⟩
  refine ct_of_st Tryz.func53 rfl rfl rfl rfl ?_
  repeat (first | refine run_S ?_ | refine w_box (fun _ => ?_) | refine w_al (fun _ => ?_))
  refine st_drawM [10, 11, 12] [0, 1, 2, 3, 4, 5, 6, 7, 8, 9, 10, 11, 12] sym (by kernel_rfl) ?_
  repeat (first | refine run_S ?_ | refine w_box (fun _ => ?_) | refine w_al (fun _ => ?_))
  refine sl_call rfl rfl rfl rfl rfl rfl (fun _ => (Of_ct (z := (P.1 : Int)) (by omega) (by omega)).settle) ?_
  rintro v Uh1 D hU ⟨rfl, _, _, ⟨xh1, rfl, h1, -⟩, -, -, hs⟩
  replace h1 := h1.sett hs
  clear hs
  repeat (first | refine run_S ?_ | refine w_box (fun _ => ?_) | refine w_al (fun _ => ?_))
  refine sl_call rfl rfl rfl rfl rfl rfl (fun _ => DivMod_st (hx.up uc (List.nil_sublist _)) (by omega) (h1.rep.up uc (List.nil_sublist _)) (h1.le sp (by omega)) (by omega)) ?_
  rintro v3 U3 D3 hU3 ⟨xq, xr, rfl, -, hr, rfl⟩
  try rw [List.nil_append]
  repeat (first | refine run_S ?_ | refine w_box (fun _ => ?_) | refine w_al (fun _ => ?_))
  refine sl_call rfl rfl rfl rfl rfl rfl (fun _ => Small_ct (hr.rep.up uc (List.nil_sublist _)) (hr.le (k := 1) (by unfold Sz; omega) (by omega))) ?_
  rintro v U' D hU ⟨rfl, rfl, rfl⟩
  repeat (first | refine run_S ?_ | refine w_box (fun _ => ?_) | refine w_al (fun _ => ?_))
  obtain ⟨e1, -⟩ := sm_in (z := z % (P.1 : Int)) (by omega)
  rw [e1]
  repeat (first | refine run_S ?_ | refine w_box (fun _ => ?_) | refine w_al (fun _ => ?_))
  exact sk_ret [] sym rfl (.cons (.tmp rfl) .nil) uc sb (.inl rfl) ⟨by rw [Fq.of_val]; rfl, uc, rfl⟩
theorem z4Normal_ct {P : Pm} {vf : Value} {n : Nat} {f : Nat → Fp P} (hf : Ls (Vf P) 1 n U M vf f) (hl : 0 < n → f (n - 1) ≠ 0) (hn : n ≤ 1000000) (hp : P.1 ≤ 65536) :
    Ct Tryz.prog 143 [.int .i64 (P.1 : Int), vf] G U M fun v U' D => Lo (Vf P) TInt 1 n U' D v f ∧ ULe U U' := by
  have hp2 := P.2.two
  obtain ⟨q, c, vs, rfl, hc, rw1, el⟩ := hf
  refine ct_of_st Tryz.func143 rfl rfl rfl rfl ?_
  repeat (first | refine run_S ?_ | refine w_box (fun _ => ?_) | refine w_al (fun _ => ?_))
  try refine st_anti (M' := ([]) ++ M) (ULe.refl _) sbk ?_
  refine st_loop (fun z E U' M' => ∃ (i : Nat) (Q : Option Addr) (C : Nat) (us : List Value) (D : MH), i ≤ n ∧ RowO TInt 1 D Q i C us ∧ El (Vf P) U' us f ∧ U = U' ∧ E = [(6, .int .i64 (i : Int)), (5, .slice Q i C), (0, .int .i64 (P.1 : Int)), (1, .slice q n c)] ∧ ULe U U' ∧ M' = D ++ M ∧ z = n - i) (n0 := n - 0) (E0 := [(6, .int .i64 ((0 : Nat) : Int)), (5, .slice none 0 0), (0, .int .i64 (P.1 : Int)), (1, .slice q n c)]) ⟨rfl, rfl, rfl, rfl, trivial⟩ ⟨0, none, 0, [], [], by omega, RowO.nil, El.nil, rfl, rfl, uc, rfl, rfl⟩ ?_
  rintro z E U1 M' ⟨i, Q, C, us, D, hi, hrow, hel, rfl, rfl, hU1, rfl, rfl⟩
  try refine run_s ?_
  refine st_dec rfl (fun h => ?_) (fun h => ?_)
  · have hin : i < n := by omega
    obtain ⟨v1, hv1⟩ := rw1.at hin
    obtain rfl := el _ _ hv1
    have hlt := (f i).lt
    try refine run_s ?_
    refine sl_y (yl_index sym rfl rfl rfl rfl rfl rfl ((rw1.up uc sb).lt hv1) ((rw1.up uc sb).get _ _ hv1).1) rfl rfl rfl rfl ?_; refine sl_y (yl_loadR1 sym rfl rfl rfl rfl (rw1.up uc sb) hv1 rfl) rfl rfl rfl rfl ?_
    try refine run_s ?_
    refine sl_call rfl rfl rfl rfl rfl rfl (fun _ => z3Mod_ct (z := ((f i).v : Int)) (m := (P.1 : Int)) (by omega) (by omega)) ?_
    rintro v U' D hU ⟨rfl, rfl, rfl⟩
    repeat (first | refine run_S ?_ | refine w_box (fun _ => ?_) | refine w_al (fun _ => ?_))
    rw [Int.emod_eq_of_lt (by omega) (by omega)]
    refine w_push hrow (X := M) (List.Perm.refl _) (fun b p2 c2 D2 hr2 => ?_)
    try refine run_s ?_
    exact sk_again (E' := [(6, .int .i64 ((i : Int) + 1)), (5, .slice p2 (i + 1) c2), (0, .int .i64 (P.1 : Int)), (1, .slice q n c)]) (m := n - (i + 1)) ⟨rfl, rfl, rfl, rfl, trivial⟩ (by omega) ⟨i + 1, p2, c2, _, D2, by omega, hr2, snoc_ok hrow.len.1 hel rfl, rfl, rfl, uc, rfl, rfl⟩
  · obtain rfl : i = n := by omega
    try refine run_s ?_
    refine st_loop (fun z E U' M' => E = [(7, .int .i64 (i : Int)), (5, .slice Q i C), (0, .int .i64 (P.1 : Int))] ∧ U = U' ∧ M' = D ++ M ∧ z = 0) (n0 := 0) (E0 := [(7, .int .i64 (i : Int)), (5, .slice Q i C), (0, .int .i64 (P.1 : Int))]) ⟨rfl, rfl, rfl, trivial⟩ ⟨rfl, rfl, rfl, rfl⟩ ?_
    rintro z E U1 M' ⟨rfl, rfl, rfl, rfl⟩
    try refine run_s ?_
    refine sl_gdec rfl rfl (fun h1 => ?_) (fun h1 => ?_)
    · have rA := hrow.at (U := U) (M := D ++ M) sb
      obtain ⟨v1, hv1⟩ := rA.at (show i - 1 < i by omega)
      obtain rfl := hel _ _ hv1
      have hne := hl (by omega)
      try refine run_s ?_
      refine sl_y (yl_index sym rfl rfl rfl rfl rfl ( by omega) (rA.lt hv1) (rA.get _ _ hv1).1) rfl rfl rfl rfl ?_; refine sl_y (yl_loadR1 sym rfl rfl rfl rfl rA hv1 rfl) rfl rfl rfl rfl ?_
      try refine run_s ?_
      refine st_eq rfl (fun h2 => absurd (Fq.v_eq_zero.1 (by omega)) hne) (fun _ => ?_)
      try refine run_s ?_
      refine w_sTo (h := i) (c := C) hrow.len.2.1 ?_
      try refine run_s ?_
      exact sk_ret D sym rfl (.cons (.tmp rfl) .nil) uc sb (.inl rfl) ⟨⟨_, _, us, rfl, hrow, hel⟩, uc⟩
    · try refine run_s ?_
      refine w_sTo (h := i) (c := C) hrow.len.2.1 ?_
      try refine run_s ?_
      exact sk_ret D sym rfl (.cons (.tmp rfl) .nil) uc sb (.inl rfl) ⟨⟨_, _, us, rfl, hrow, hel⟩, uc⟩
theorem z7Reduce_ct {P : Pm} {vf : Value} {n s : Nat} {f : Nat → Int} (hf : Ls (Xw s) 2 n U M vf f) (hs : s ≤ 274877906944) (hl : 0 < n → Fq.of P (f (n - 1)) ≠ 0) (hn : n ≤ 1000000) (hp : P.1 ≤ 65536) :
    Ct Tryz.prog 90 [vf, .int .i64 (P.1 : Int)] G U M fun v U' D => Ls (Vf P) 1 n U' [] v (fun i => Fq.of P (f i)) ∧ D = [] := by
  have hp2 := P.2.two
  have sp : Sz (P.1 : Int) 1 := by unfold Sz; omega
  obtain ⟨q, c, vs, rfl, hc, rw1, el⟩ := hf
  refine Ct.setl (e := TInt) ?_ KeptC.out
  refine ct_of_st Tryz.func90 rfl rfl rfl rfl ?_
  repeat (first | refine run_S ?_ | refine w_box (fun _ => ?_) | refine w_al (fun _ => ?_))
  try refine st_anti (M' := ([]) ++ M) (ULe.refl _) sbk ?_
  refine st_loop (fun z E U' M' => ∃ (i : Nat) (Q : Option Addr) (C : Nat) (us : List Value) (D : MH), i ≤ n ∧ RowO TInt 1 D Q i C us ∧ El (Vf P) U' us (fun i => Fq.of P (f i)) ∧ E = [(6, .int .i64 (i : Int)), (5, .slice Q i C), (1, .int .i64 (P.1 : Int)), (0, .slice q n c)] ∧ ULe U U' ∧ M' = D ++ M ∧ z = n - i) (n0 := n - 0) (E0 := [(6, .int .i64 ((0 : Nat) : Int)), (5, .slice none 0 0), (1, .int .i64 (P.1 : Int)), (0, .slice q n c)]) ⟨rfl, rfl, rfl, rfl, trivial⟩ ⟨0, none, 0, [], [], by omega, RowO.nil, El.nil, rfl, uc, rfl, rfl⟩ ?_
  rintro z E U1 M' ⟨i, Q, C, us, D, hi, hrow, hel, rfl, hU1, rfl, rfl⟩
  try refine run_s ?_
  refine st_dec rfl (fun h => ?_) (fun h => ?_)
  · have hin : i < n := by omega
    obtain ⟨v1, hv1⟩ := rw1.at hin
    obtain ⟨y1, rfl, hy1, hn1⟩ := el _ _ hv1
    have hp1 := (rw1.get _ _ hv1).1
    have hb : 0 ≤ f i % (P.1 : Int) ∧ f i % (P.1 : Int) < (P.1 : Int) := ⟨Int.emod_nonneg _ (by omega), Int.emod_lt_of_pos _ (by omega)⟩
    repeat (first | refine run_S ?_ | refine w_box (fun _ => ?_) | refine w_al (fun _ => ?_))
    refine st_drawM [12, 13] [0, 1, 2, 3, 4, 5, 6, 7, 8, 9, 10, 11, 12, 13] sym (by kernel_rfl) ?_
    repeat (first | refine run_S ?_ | refine w_box (fun _ => ?_) | refine w_al (fun _ => ?_))
    refine w_addr (j := i) hin hp1 ?_
    refine sl_y (yl_loadRs sym rfl rfl rfl rfl rfl (rw1.up uc sb) hv1) rfl rfl rfl rfl ?_
    repeat (first | refine run_S ?_ | refine w_box (fun _ => ?_) | refine w_al (fun _ => ?_))
    refine sl_call rfl rfl rfl rfl rfl rfl (fun _ => (rOf_ct (z := (P.1 : Int)) (by omega) (by omega)).settle) ?_
    rintro v Uh1 D hU ⟨rfl, _, _, ⟨xh1, rfl, h1, -⟩, -, -, hs⟩
    replace h1 := h1.sett hs
    clear hs
    repeat (first | refine run_S ?_ | refine w_box (fun _ => ?_) | refine w_al (fun _ => ?_))
    refine sl_call rfl rfl rfl rfl rfl rfl (fun _ => rEuclid_st (hy1.up uc (List.nil_sublist _)) (by omega) (h1.rep.up uc (List.nil_sublist _)) (h1.le sp (by omega)) (by omega)) ?_
    rintro v3 U3 D3 hU3 ⟨xq, xr, rfl, -, hr, rfl⟩
    try rw [List.nil_append]
    repeat (first | refine run_S ?_ | refine w_box (fun _ => ?_) | refine w_al (fun _ => ?_))
    refine sl_call rfl rfl rfl rfl rfl rfl (fun _ => rSmall_ct (hr.rep.up uc (List.nil_sublist _)) (hr.le (k := 1) (by unfold Sz; omega) (by omega))) ?_
    rintro v U' D hU ⟨rfl, rfl, rfl⟩
    repeat (first | refine run_S ?_ | refine w_box (fun _ => ?_) | refine w_al (fun _ => ?_))
    obtain ⟨e1, -⟩ := sm_in (z := f i % (P.1 : Int)) (by omega)
    rw [e1]
    rename_i b7 b8
    refine w_push hrow (X := (b8, .var xr.v, 67) :: (b7, .var xq.v, 67) :: M) pfs (fun b p2 c2 D2 hr2 => ?_)
    try refine run_s ?_
    refine sk_anti (M' := D2 ++ M) (ULe.refl _) sbk ?_
    exact sk_again (E' := [(6, .int .i64 ((i : Int) + 1)), (5, .slice p2 (i + 1) c2), (1, .int .i64 (P.1 : Int)), (0, .slice q n c)]) (m := n - (i + 1)) ⟨rfl, rfl, rfl, rfl, trivial⟩ (by omega) ⟨i + 1, p2, c2, _, D2, by omega, hr2, snoc_ok hrow.len.1 (hel.up KeptC.out uc) (by rw [← Fq.of_val]; rfl), rfl, uc, rfl, rfl⟩
  · obtain rfl : i = n := by omega
    try refine run_s ?_
    refine sl_call rfl rfl rfl rfl rfl rfl (fun _ => z4Normal_ct (P := P) (n := i) (f := fun i => Fq.of P (f i)) ⟨_, _, us, rfl, hrow.len.2.1, hrow.at sb, hel⟩ hl (by omega) hp) ?_
    rintro v2 U2 D2 hU2 ⟨⟨p2, c2, us2, rfl, hr2, el2⟩, -⟩
    try refine run_s ?_
    exact sk_ret D2 sym rfl (.cons (.tmp rfl) .nil) uc sb (.inl rfl) ⟨⟨p2, c2, us2, rfl, hr2, el2⟩, uc⟩
theorem z13Residue_ct {P : Pm} {x : QV} {q : Rat} (hx : x.rep U [] q) (hn : x.le 100000000) (hp : P.1 ≤ 65536) :
    Ct Tryz.prog 42 [x.v, .int .i64 (P.1 : Int)] G U M fun v U' D => ∃ (r : Int) (b : Bool), v = .tuple #[.int .i64 r, .bool b] ∧ (Fq.Loc P q → b = true ∧ r = ((Fq.ofQ P q).v : Int)) ∧ (¬ Fq.Loc P q → b = false) ∧ ULe U U' ∧ D = [] := by
  have hp2 := P.2.two
  have s1 : Sz (1 : Int) 1 := by unfold Sz; decide
  have o1 : Fq.of P 1 ≠ 0 := fun e => by
    have := Fq.of_val (P := P) 1
    rw [e, Fq.v_zero, Int.emod_eq_of_lt (by decide) (by omega)] at this
    exact absurd this (by decide)
  refine ct_of_st Tryz.func42 rfl rfl rfl rfl ?_
  repeat (first | refine run_S ?_ | refine w_box (fun _ => ?_) | refine w_al (fun _ => ?_))
  refine sl_call rfl rfl rfl rfl rfl rfl (fun _ => rqNormal_ct (hx.up uc (List.nil_sublist _)) ⟨by have := hn.1; omega, by have := hn.2; omega⟩) ?_
  rintro v Uh2 D hU ⟨xh2, rfl, h2, rfl⟩
  repeat (first | refine run_S ?_ | refine w_box (fun _ => ?_) | refine w_al (fun _ => ?_))
  rename_i b2 b6
  have sq := hx.sz hn (by decide)
  refine st_drawM [3, 5, 6] [0, 1, 4, 2, 3, 5, 6] sym (by kernel_rfl) ?_
  repeat (first | refine run_S ?_ | refine w_box (fun _ => ?_) | refine w_al (fun _ => ?_))
  refine sl_call rfl rfl rfl rfl rfl rfl (fun _ => (rOf_ct (z := 1) (by decide) (by decide)).settle) ?_
  rintro v Uh3 D hU ⟨rfl, _, _, ⟨xh3, rfl, h3, -⟩, -, -, hs⟩
  replace h3 := h3.sett hs
  clear hs
  repeat (first | refine run_S ?_ | refine w_box (fun _ => ?_) | refine w_al (fun _ => ?_))
  refine sl_bslice (vs := [xh2.num.v, xh3.v]) sym rfl rfl rfl rfl rfl rfl (all_size rfl) rfl rfl rfl rfl rfl rfl (fun b16 => ?_)
  repeat (first | refine run_S ?_ | refine w_box (fun _ => ?_) | refine w_al (fun _ => ?_))
  refine sl_call rfl rfl rfl rfl rfl rfl (fun _ => z7Reduce_ct (P := P) (n := 2) (two_ints (e := 67) (s := 100000000) (b := b16) (h2.1.rep.up uc sb) (h3.rep.up uc sb) (h2.1.le sq.1 (Nat.le_refl _)) (h3.le s1 (by decide)) sb) (by decide) (fun _ => o1) (by decide) hp) ?_
  rintro v4 U4 D4 hU4 ⟨⟨p4, c4, us4, rfl, -, r4, e4⟩, rfl⟩
  try rw [List.nil_append]
  repeat (first | refine run_S ?_ | refine w_box (fun _ => ?_) | refine w_al (fun _ => ?_))
  refine st_drawM [3, 5, 6] [0, 1, 4, 2, 3, 5, 6] sym (by kernel_rfl) ?_
  repeat (first | refine run_S ?_ | refine w_box (fun _ => ?_) | refine w_al (fun _ => ?_))
  refine sl_call rfl rfl rfl rfl rfl rfl (fun _ => (rOf_ct (z := 1) (by decide) (by decide)).settle) ?_
  rintro v Uh5 D hU ⟨rfl, _, _, ⟨xh5, rfl, h5, -⟩, -, -, hs⟩
  replace h5 := h5.sett hs
  clear hs
  repeat (first | refine run_S ?_ | refine w_box (fun _ => ?_) | refine w_al (fun _ => ?_))
  refine sl_bslice (vs := [xh2.den.v, xh5.v]) sym rfl rfl rfl rfl rfl rfl (all_size rfl) rfl rfl rfl rfl rfl rfl (fun b22 => ?_)
  repeat (first | refine run_S ?_ | refine w_box (fun _ => ?_) | refine w_al (fun _ => ?_))
  refine sl_call rfl rfl rfl rfl rfl rfl (fun _ => z7Reduce_ct (P := P) (n := 2) (two_ints (e := 67) (s := 100000000) (b := b22) (h2.2.rep.up uc sb) (h5.rep.up uc sb) (h2.2.le sq.2 (Nat.le_refl _)) (h5.le s1 (by decide)) sb) (by decide) (fun _ => o1) (by decide) hp) ?_
  rintro v6 U6 D6 hU6 ⟨⟨p6, c6, us6, rfl, -, r6, e6⟩, rfl⟩
  try rw [List.nil_append]
  repeat (first | refine run_S ?_ | refine w_box (fun _ => ?_) | refine w_al (fun _ => ?_))
  obtain ⟨v1, hv1⟩ := r4.at (show 0 < 2 by decide)
  obtain ⟨v2, hv2⟩ := r6.at (show 0 < 2 by decide)
  obtain rfl := e4 _ _ hv1
  obtain rfl := e6 _ _ hv2
  simp only [if_true] at hv1 hv2
  refine sl_y (yl_index sym rfl rfl rfl rfl rfl rfl ((r6.up uc sb).lt hv2) ((r6.up uc sb).get _ _ hv2).1) rfl rfl rfl rfl ?_; refine sl_y (yl_loadR1 sym rfl rfl rfl rfl (r6.up uc sb) hv2 rfl) rfl rfl rfl rfl ?_
  repeat (first | refine run_S ?_ | refine w_box (fun _ => ?_) | refine w_al (fun _ => ?_))
  refine st_eq rfl (fun h => ?_) (fun h => ?_)
  · have hL : ¬ Fq.Loc P q := fun hL => hL (Fq.v_eq_zero.1 (by omega))
    repeat (first | refine run_S ?_ | refine w_box (fun _ => ?_) | refine w_al (fun _ => ?_))
    exact sk_ret [] sym rfl (.cons (.tmp rfl) (.cons (.tmp rfl) .nil)) uc sb (.inl rfl) ⟨0, false, rfl, fun h => absurd h hL, fun _ => rfl, uc, rfl⟩
  · have hL : Fq.Loc P q := fun e => h (by rw [e, Fq.v_zero]; rfl)
    repeat (first | refine run_S ?_ | refine w_box (fun _ => ?_) | refine w_al (fun _ => ?_))
    refine sl_y (yl_index sym rfl rfl rfl rfl rfl rfl ((r6.up uc sb).lt hv2) ((r6.up uc sb).get _ _ hv2).1) rfl rfl rfl rfl ?_; refine sl_y (yl_loadR1 sym rfl rfl rfl rfl (r6.up uc sb) hv2 rfl) rfl rfl rfl rfl ?_
    repeat (first | refine run_S ?_ | refine w_box (fun _ => ?_) | refine w_al (fun _ => ?_))
    refine sl_call rfl rfl rfl rfl rfl rfl (fun _ => z3Inverse_ct (P := P) (a := Fq.of P (q.den : Int)) hL (by omega)) ?_
    rintro v U' D hU ⟨rfl, rfl, rfl⟩
    repeat (first | refine run_S ?_ | refine w_box (fun _ => ?_) | refine w_al (fun _ => ?_))
    have hb := fp_bd (Fq.of P q.num) (Fq.of P (q.den : Int))⁻¹ (by omega)
    refine sl_y (yl_index sym rfl rfl rfl rfl rfl rfl ((r4.up uc sb).lt hv1) ((r4.up uc sb).get _ _ hv1).1) rfl rfl rfl rfl ?_; refine sl_y (yl_loadR1 sym rfl rfl rfl rfl (r4.up uc sb) hv1 rfl) rfl rfl rfl rfl ?_
    repeat (first | refine run_S ?_ | refine w_box (fun _ => ?_) | refine w_al (fun _ => ?_))
    refine sl_y (yl_fmul (a := Fq.of P q.num) (b := (Fq.of P (q.den : Int))⁻¹) rfl rfl rfl hp) rfl rfl rfl rfl ?_
    repeat (first | refine run_S ?_ | refine w_box (fun _ => ?_) | refine w_al (fun _ => ?_))
    exact sk_ret [] sym rfl (.cons (.tmp rfl) (.cons (.tmp rfl) .nil)) uc sb (.inl rfl) ⟨_, true, rfl, fun _ => ⟨rfl, rfl⟩, fun h => absurd hL h, uc, rfl⟩
end Go.Proofs.YtpigpikhjlmdoaaGreat
