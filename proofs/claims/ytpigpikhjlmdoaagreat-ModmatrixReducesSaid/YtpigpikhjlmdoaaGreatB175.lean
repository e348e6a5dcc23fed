/- The law of layer 13 on reductions of matrices of fractions. -/
import Derived.Test.YtpigpikhjlmdoaaGreatB174
import Derived.Test.YtpigpikhjlmdoaaGreatB165
import Derived.Test.YtpigpikhjlmdoaaGreatM35
namespace Go.Proofs.YtpigpikhjlmdoaaGreat
open Go.Hp
open Go.Fq (Pm Fp Prm)
variable {G : World} {U U' : UH} {M M' : MH}

theorem short13_ct {n c1 : Nat} {p1 : Option Addr} {as1 : List Value} {f : Nat → Rat} (ra : RowAt U M 4 p1 n as1) (ea : El Xq U as1 f) (hn : n ≤ 9223372036854775807) :
    Ct Tryz.prog 8 [.slice p1 n c1] G U M fun v U' D => ∃ b : Bool, v = .bool b ∧ (b = true → El (Wq 1) U as1 f) ∧ U = U' ∧ D = [] := by
  refine ct_of_st Tryz.func8 rfl rfl rfl rfl ?_
  try refine run_s ?_
  refine st_loop (fun z E U' M' => ∃ i : Nat, i ≤ n ∧ (∀ k x, k < i → as1[k]? = some x → Wq 1 U x (f k)) ∧ E = [(3, .int .i64 (i : Int)), (0, .slice p1 n c1)] ∧ U = U' ∧ M = M' ∧ z = n - i) (n0 := n)
    (E0 := [(3, .int .i64 ((0 : Nat) : Int)), (0, .slice p1 n c1)]) ⟨rfl, rfl, trivial⟩ ⟨0, by omega, (fun k x h => absurd h (Nat.not_lt_zero k)), rfl, rfl, rfl, rfl⟩ ?_
  rintro z E U' M' ⟨i, hi, hall, rfl, rfl, rfl, rfl⟩
  try refine run_s ?_
  refine st_dec rfl (fun h => ?_) (fun h => ?_)
  · have hin : i < n := by omega
    obtain ⟨v1, hv1⟩ := ra.at hin
    obtain ⟨x1, rfl, hx1⟩ := ea _ _ hv1
    try refine run_s ?_
    refine w_addr (j := i) hin (ra.get _ _ hv1).1 ?_
    try refine run_s ?_
    refine sl_y (yl_loadRc (j := 1) (u := .slice x1.num.p x1.num.n x1.num.c) sym rfl rfl (by rw [elt_add, elt_add]) rfl rfl ra hv1 rfl) rfl rfl rfl rfl ?_
    try refine run_s ?_
    refine sl_gdec rfl rfl (fun h1 => ?_) (fun h1 => ?_)
    · try refine run_s ?_
      exact sk_ret [] sym rfl (.cons (.tmp rfl) .nil) uc sb (.inl rfl) ⟨false, rfl, (fun h => by cases h), rfl, rfl⟩
    · try refine run_s ?_
      refine w_addr (j := i) hin (ra.get _ _ hv1).1 ?_
      try refine run_s ?_
      refine sl_y (yl_loadRc (j := 3) (u := .slice x1.den.p x1.den.n x1.den.c) sym rfl rfl (by rw [elt_add, elt_add]) rfl rfl ra hv1 rfl) rfl rfl rfl rfl ?_
      try refine run_s ?_
      refine st_dec rfl (fun h2 => ?_) (fun h2 => ?_)
      · try refine run_s ?_
        exact sk_ret [] sym rfl (.cons (.tmp rfl) .nil) uc sb (.inl rfl) ⟨false, rfl, (fun h => by cases h), rfl, rfl⟩
      · try refine run_s ?_
        exact sk_again (E' := [(3, .int .i64 ((i : Int) + 1)), (0, .slice p1 n c1)]) (m := n - (i + 1)) ⟨rfl, rfl, trivial⟩ (by omega)
          ⟨i + 1, by omega, (fun k x hk hx => by
            rcases Nat.lt_or_eq_of_le (Nat.le_of_lt_succ hk) with h3 | h3
            · exact hall k x h3 hx
            · subst h3
              rw [hv1] at hx
              cases hx
              exact ⟨x1, rfl, hx1, ⟨by omega, by omega⟩⟩), rfl, rfl, rfl, rfl⟩
  · have e : i = n := by omega
    subst e
    try refine run_s ?_
    exact sk_ret [] sym rfl (.cons (.tmp rfl) .nil) uc sb (.inl rfl) ⟨true, rfl, (fun _ k x hk => hall k x (ra.lt hk) hk), rfl, rfl⟩


theorem modP_get {z : Int} (h : modP z = true) : ∃ P : Pm, z = (P.1 : Int) ∧ P.1 ≤ 65521 := by
  unfold modP at h
  split at h
  · obtain ⟨h1, h2⟩ := isP_iff.1 h
    refine ⟨⟨z.toNat, h2⟩, by show z = ((z.toNat : Nat) : Int); omega, by show z.toNat ≤ 65521; omega⟩
  · cases h

set_option maxRecDepth 100000 in
theorem ModmatrixReduces_ct {va : Value} {ra ca z : Int} {na : Nat} {fa : Nat → Rat} (ha : Raw U va ra ca na fa) (_ : -9223372036854775808 ≤ z) (_ : z ≤ 9223372036854775807) :
    Ct Tryz.prog 3 [va, .int .i64 z] G U M fun v _ _ => v = .bool true := by
  obtain ⟨ha1, ha2, ha3, _, rfl, pa, cca, xs, rfl, hcc, rw1, el⟩ := ha
  refine ct_of_st Tryz.func3 rfl rfl rfl rfl ?_
  repeat (first | refine run_S ?_ | refine w_box (fun _ => ?_) | refine w_al (fun _ => ?_))
  rename_i b2
  refine sl_call rfl rfl rfl rfl rfl rfl (fun _ => awake13_ct) ?_
  rintro v1 U1 D hU1 ⟨rfl, -, rfl⟩
  rw [List.nil_append]
  repeat (first | refine run_S ?_ | refine w_box (fun _ => ?_) | refine w_al (fun _ => ?_))
  refine sl_gdec rfl rfl (fun h => ?_) (fun h => ?_)
  · repeat (first | refine run_S ?_ | refine w_box (fun _ => ?_) | refine w_al (fun _ => ?_))
    exact sk_ret [] sym rfl (.cons (.tmp rfl) .nil) uc sb (.inl rfl) rfl
  repeat (first | refine run_S ?_ | refine w_box (fun _ => ?_) | refine w_al (fun _ => ?_))
  refine sl_call rfl rfl rfl rfl rfl rfl (fun _ => short13_ct (rw1.up uc sb) (el.up kept_x uc) ha3) ?_
  rintro v2 U2 D hU2 ⟨b, rfl, hw, rfl, rfl⟩
  rw [List.nil_append]
  cases b
  · repeat (first | refine run_S ?_ | refine w_box (fun _ => ?_) | refine w_al (fun _ => ?_))
    exact sk_ret [] sym rfl (.cons (.tmp rfl) .nil) uc sb (.inl rfl) rfl
  replace hw := hw rfl
  clear el
  repeat (first | refine run_S ?_ | refine w_box (fun _ => ?_) | refine w_al (fun _ => ?_))
  cases hP : modP z
  · refine sl_call rfl rfl rfl rfl rfl rfl (fun _ => fReduceM_np (z := z) (r := ra) (c := ca) (pa := pa) (n := na) (cc := cca) hP) ?_
    rintro v3 U3 D3 hU3 ⟨rfl, -, rfl⟩
    try rw [List.nil_append]
    repeat (first | refine run_S ?_ | refine w_box (fun _ => ?_) | refine w_al (fun _ => ?_))
    refine sl_call rfl rfl rfl rfl rfl rfl (fun _ => z4Modulus_ct (z := z)) ?_
    rintro v U' D hU ⟨rfl, rfl, rfl⟩
    repeat (first | refine run_S ?_ | refine w_box (fun _ => ?_) | refine w_al (fun _ => ?_))
    rw [hP]
    repeat (first | refine run_S ?_ | refine w_box (fun _ => ?_) | refine w_al (fun _ => ?_))
    refine sl_gdec rfl rfl (fun _ => ?_) (fun h => absurd rfl h)
    repeat (first | refine run_S ?_ | refine w_box (fun _ => ?_) | refine w_al (fun _ => ?_))
    refine sl_bslice (vs := [zFM]) sym rfl rfl rfl rfl rfl rfl (all_size rfl) rfl rfl rfl rfl rfl rfl (fun b34 => ?_)
    refine sl_call rfl rfl rfl rfl rfl rfl (fun _ => none13_ct (vs := [zFM]) ((RowO.mk (e := TF) (s := 3) (b := b34) (n := 1) (vs := [zFM]) rfl (all_size rfl) (by omega)).at sb) (fun v hv => by simpa using hv) (by decide)) ?_
    rintro v U' D hU ⟨rfl, rfl, rfl⟩
    repeat (first | refine run_S ?_ | refine w_box (fun _ => ?_) | refine w_al (fun _ => ?_))
    exact sk_ret [] sym rfl (.cons (.tmp rfl) .nil) uc sb (.inl rfl) rfl
  by_cases hV : Vld ra ca na
  rotate_left
  · refine sl_call rfl rfl rfl rfl rfl rfl (fun _ => fReduceM_nv (z := z) (r := ra) (c := ca) (pa := pa) (n := na) (cc := cca) hP ha3 hV) ?_
    rintro v3 U3 D3 hU3 ⟨rfl, -, rfl⟩
    try rw [List.nil_append]
    repeat (first | refine run_S ?_ | refine w_box (fun _ => ?_) | refine w_al (fun _ => ?_))
    refine sl_call rfl rfl rfl rfl rfl rfl (fun _ => z4Modulus_ct (z := z)) ?_
    rintro v U' D hU ⟨rfl, rfl, rfl⟩
    repeat (first | refine run_S ?_ | refine w_box (fun _ => ?_) | refine w_al (fun _ => ?_))
    rw [hP]
    repeat (first | refine run_S ?_ | refine w_box (fun _ => ?_) | refine w_al (fun _ => ?_))
    refine sl_call rfl rfl rfl rfl rfl rfl (fun _ => m9Valid_ct (r := ra) (c := ca) (p := pa) (cc := cca) ha3) ?_
    rintro v U' D hU ⟨rfl, rfl, rfl⟩
    repeat (first | refine run_S ?_ | refine w_box (fun _ => ?_) | refine w_al (fun _ => ?_))
    rw [decide_eq_false hV]
    repeat (first | refine run_S ?_ | refine w_box (fun _ => ?_) | refine w_al (fun _ => ?_))
    refine sl_gdec rfl rfl (fun _ => ?_) (fun h => absurd rfl h)
    repeat (first | refine run_S ?_ | refine w_box (fun _ => ?_) | refine w_al (fun _ => ?_))
    refine sl_bslice (vs := [zFM]) sym rfl rfl rfl rfl rfl rfl (all_size rfl) rfl rfl rfl rfl rfl rfl (fun b34 => ?_)
    refine sl_call rfl rfl rfl rfl rfl rfl (fun _ => none13_ct (vs := [zFM]) ((RowO.mk (e := TF) (s := 3) (b := b34) (n := 1) (vs := [zFM]) rfl (all_size rfl) (by omega)).at sb) (fun v hv => by simpa using hv) (by decide)) ?_
    rintro v U' D hU ⟨rfl, rfl, rfl⟩
    repeat (first | refine run_S ?_ | refine w_box (fun _ => ?_) | refine w_al (fun _ => ?_))
    exact sk_ret [] sym rfl (.cons (.tmp rfl) .nil) uc sb (.inl rfl) rfl
  obtain ⟨P, rfl, hp⟩ := modP_get hP
  obtain ⟨k1, k2, k3, k4, k5⟩ := id hV
  obtain ⟨R, rfl⟩ : ∃ R : Nat, ra = (R : Int) := ⟨ra.toNat, by omega⟩
  obtain ⟨C, rfl⟩ : ∃ C : Nat, ca = (C : Int) := ⟨ca.toNat, by omega⟩
  obtain rfl : na = R * C := by rw [← Int.natCast_mul] at k5; omega
  have hRC : R * C ≤ 1024 * 1024 := Nat.mul_le_mul (by omega) (by omega)
  refine sl_call rfl rfl rfl rfl rfl rfl (fun _ => fReduceM_ct (rw1.up uc (List.Sublist.refl _)) hw hp (by omega) (by omega)) ?_
  rintro v3 U3 D3 hU3 ⟨vm, e, rfl, rfl, h3⟩
  try rw [List.nil_append]
  rcases h3 with ⟨h5, rfl, rfl⟩ | ⟨h5, rfl, h6⟩
  · repeat (first | refine run_S ?_ | refine w_box (fun _ => ?_) | refine w_al (fun _ => ?_))
    refine sl_call rfl rfl rfl rfl rfl rfl (fun _ => z4Modulus_ct (z := (P.1 : Int))) ?_
    rintro v U' D hU ⟨rfl, rfl, rfl⟩
    repeat (first | refine run_S ?_ | refine w_box (fun _ => ?_) | refine w_al (fun _ => ?_))
    rw [hP]
    repeat (first | refine run_S ?_ | refine w_box (fun _ => ?_) | refine w_al (fun _ => ?_))
    refine sl_call rfl rfl rfl rfl rfl rfl (fun _ => m9Valid_ct (r := (R : Int)) (c := (C : Int)) (p := pa) (cc := cca) ha3) ?_
    rintro v U' D hU ⟨rfl, rfl, rfl⟩
    repeat (first | refine run_S ?_ | refine w_box (fun _ => ?_) | refine w_al (fun _ => ?_))
    rw [decide_eq_true hV]
    repeat (first | refine run_S ?_ | refine w_box (fun _ => ?_) | refine w_al (fun _ => ?_))
    refine sl_call rfl rfl rfl rfl rfl rfl (fun _ => z13ReduceM_ct (P := P) (R := R) (C := C) (by omega) (rw1.up uc (List.nil_sublist _)) (hw.up kept_w uc) hp) ?_
    rintro v4 U4 D4 hU4 ⟨vn, b, rfl, rfl, h4⟩
    try rw [List.nil_append]
    rcases h4 with ⟨h7, rfl, rfl⟩ | ⟨h7, rfl, h8⟩
    rotate_left
    · obtain ⟨i, hi, hL⟩ := h5
      exact absurd (h7 i hi) hL
    repeat (first | refine run_S ?_ | refine w_box (fun _ => ?_) | refine w_al (fun _ => ?_))
    refine sl_gdec rfl rfl (fun _ => ?_) (fun h => absurd rfl h)
    repeat (first | refine run_S ?_ | refine w_box (fun _ => ?_) | refine w_al (fun _ => ?_))
    refine sl_bslice (vs := [zFM]) sym rfl rfl rfl rfl rfl rfl (all_size rfl) rfl rfl rfl rfl rfl rfl (fun b34 => ?_)
    refine sl_call rfl rfl rfl rfl rfl rfl (fun _ => none13_ct (vs := [zFM]) ((RowO.mk (e := TF) (s := 3) (b := b34) (n := 1) (vs := [zFM]) rfl (all_size rfl) (by omega)).at sb) (fun v hv => by simpa using hv) (by decide)) ?_
    rintro v U' D hU ⟨rfl, rfl, rfl⟩
    repeat (first | refine run_S ?_ | refine w_box (fun _ => ?_) | refine w_al (fun _ => ?_))
    exact sk_ret [] sym rfl (.cons (.tmp rfl) .nil) uc sb (.inl rfl) rfl
  · obtain ⟨_, rfl, p7, c7, us7, rfl, hz7⟩ := h6
    repeat (first | refine run_S ?_ | refine w_box (fun _ => ?_) | refine w_al (fun _ => ?_))
    refine sl_call rfl rfl rfl rfl rfl rfl (fun _ => z4Modulus_ct (z := (P.1 : Int))) ?_
    rintro v U' D hU ⟨rfl, rfl, rfl⟩
    repeat (first | refine run_S ?_ | refine w_box (fun _ => ?_) | refine w_al (fun _ => ?_))
    rw [hP]
    repeat (first | refine run_S ?_ | refine w_box (fun _ => ?_) | refine w_al (fun _ => ?_))
    refine sl_call rfl rfl rfl rfl rfl rfl (fun _ => m9Valid_ct (r := (R : Int)) (c := (C : Int)) (p := pa) (cc := cca) ha3) ?_
    rintro v U' D hU ⟨rfl, rfl, rfl⟩
    repeat (first | refine run_S ?_ | refine w_box (fun _ => ?_) | refine w_al (fun _ => ?_))
    rw [decide_eq_true hV]
    repeat (first | refine run_S ?_ | refine w_box (fun _ => ?_) | refine w_al (fun _ => ?_))
    refine sl_call rfl rfl rfl rfl rfl rfl (fun _ => z13ReduceM_ct (P := P) (R := R) (C := C) (by omega) (rw1.up uc (List.nil_sublist _)) (hw.up kept_w uc) hp) ?_
    rintro v4 U4 D4 hU4 ⟨vn, b, rfl, rfl, h4⟩
    try rw [List.nil_append]
    rcases h4 with ⟨h7, rfl, rfl⟩ | ⟨h7, rfl, h8⟩
    · obtain ⟨i, hi, hL⟩ := h7
      exact absurd (h5 i hi) hL
    obtain ⟨_, rfl, p8, c8, us8, rfl, hz8⟩ := h8
    have m1 : Vmz (Vf P) R C U4 _ _ := ⟨_, rfl, Ls.up ⟨p7, c7, us7, rfl, hz7⟩ KeptC.out uc (List.Sublist.refl _)⟩
    have m2 : Vmz (Vf P) R C U4 _ _ := ⟨_, rfl, p8, c8, us8, rfl, hz8⟩
    repeat (first | refine run_S ?_ | refine w_box (fun _ => ?_) | refine w_al (fun _ => ?_))
    refine sl_gdec rfl rfl (fun _ => ?_) (fun h => absurd rfl h)
    repeat (first | refine run_S ?_ | refine w_box (fun _ => ?_) | refine w_al (fun _ => ?_))
    refine sl_call rfl rfl rfl rfl rfl rfl (fun _ => bSameFMatrix_ct (ok1 := Vf P) (ok2 := Vf P) (fun x : Fp P => (x.v : Int)) (fun x : Fp P => (x.v : Int)) (fun _ _ _ h => h) (fun _ _ _ h => h) (m1.mm uc) (m2.mm uc) (by omega) (by omega)) ?_
    rintro v8 U8 D8 hU8 ⟨b, rfl, hb, rfl, rfl⟩
    obtain rfl := hb.2 ⟨rfl, rfl, fun _ _ _ _ => rfl⟩
    rw [List.nil_append]
    repeat (first | refine run_S ?_ | refine w_box (fun _ => ?_) | refine w_al (fun _ => ?_))
    exact sk_ret [] sym rfl (.cons (.tmp rfl) .nil) uc sb (.inl rfl) rfl
end Go.Proofs.YtpigpikhjlmdoaaGreat
