/- The law on decimal forms. -/
import Derived.Test.YtcakainebimmdaaM13
import Derived.Test.YtcakainebimmdaaM11
namespace Go.Proofs.Ytcakainebimmdaa
open Go.Hp
variable {G : World} {U : UH} {M : MH}

theorem fmt_byte (z : Int) : ∀ c ∈ fmt z, c < 256 := by
  intro c hc
  unfold fmt at hc
  rcases List.mem_append.1 hc with h | h
  · split at h
    · rw [List.mem_singleton.1 h]; decide
    · cases h
  · obtain ⟨d, hd, rfl⟩ := List.mem_map.1 (List.mem_reverse.1 h)
    have := (dl_spec z.natAbs).1 d hd
    omega
theorem fmt_len {z : Int} {k : Nat} (h : Sz z k) : (fmt z).length ≤ 32 * k + 2 := by
  have := dl_len_le (n := z.natAbs) h
  unfold fmt
  rw [List.length_append, List.length_reverse, List.length_map]
  have : (if z < 0 then [45] else ([] : List Nat)).length ≤ 1 := by split <;> simp
  omega

theorem BigintStrings_ct {a : IV} {za : Int} {sv : ByteArray} (ha : a.rep U M za) :
    Ct Try.prog 4 [a.v, .string sv] G U M fun v _ _ => v = .bool true := by
  obtain ⟨s, rfl, hs⟩ := bstr_all sv
  refine ct_of_st Try.func4 rfl rfl rfl rfl ?_
  repeat (first | refine run_S ?_ | refine w_box (fun _ => ?_) | refine w_al (fun _ => ?_))
  refine sl_call rfl rfl rfl rfl rfl rfl (fun _ => awake_ct) ?_
  rintro v U1 D hUc ⟨rfl, -, rfl⟩
  repeat (first | refine run_S ?_ | refine w_box (fun _ => ?_) | refine w_al (fun _ => ?_))
  refine sl_bslice (vs := [a].map IV.v) sym rfl rfl rfl rfl rfl rfl (by intro v hv; obtain ⟨y, _, rfl⟩ := List.mem_map.1 hv; rfl) rfl rfl rfl rfl rfl rfl (fun bo => ?_)
  repeat (first | refine run_S ?_ | refine w_box (fun _ => ?_) | refine w_al (fun _ => ?_))
  refine sl_call rfl rfl rfl rfl rfl rfl (fun _ => long_ct (ivs_head.app _) rfl (by decide)) ?_
  rintro v U' D hU ⟨r, rfl, hr, rfl, rfl⟩
  repeat (first | refine run_S ?_ | refine w_box (fun _ => ?_) | refine w_al (fun _ => ?_))
  cases r
  · have hr := hr rfl
    have hna : a.n ≤ 40 := hr a (by simp)
    have sa := ha.sz hna
    repeat (first | refine run_S ?_ | refine w_box (fun _ => ?_) | refine w_al (fun _ => ?_))
    refine st_dec rfl (fun h1 => ?_) (fun h1 => ?_)
    · repeat (first | refine run_S ?_ | refine w_box (fun _ => ?_) | refine w_al (fun _ => ?_))
      exact sk_ret [] sym rfl (.cons (.tmp rfl) .nil) uc sb (.inl rfl) rfl
    rw [bstr_size] at h1
    have hfl := fmt_len sa
    repeat (first | refine run_S ?_ | refine w_box (fun _ => ?_) | refine w_al (fun _ => ?_))
    refine sl_call rfl rfl rfl rfl rfl rfl (fun _ => Format_ct (ha.up uc sb) (by omega)) ?_
    rintro v U' D hU ⟨rfl, rfl, rfl⟩
    repeat (first | refine run_S ?_ | refine w_box (fun _ => ?_) | refine w_al (fun _ => ?_))
    refine sl_call rfl rfl rfl rfl rfl rfl (fun _ => (Parse_ct (fmt_byte za) (by omega)).settle) ?_
    rintro v U3 D hU3 ⟨rfl, _, _, ⟨back, e, rfl, hgood, -, -⟩, -, -, hs3⟩
    obtain ⟨rfl, hback⟩ := hgood (fmt_good za).1
    rw [(fmt_good za).2] at hback
    replace hback := hback.sett hs3
    repeat (first | refine run_S ?_ | refine w_box (fun _ => ?_) | refine w_al (fun _ => ?_))
    refine st_draw [0, 1, 2, 3, 4, 5, 6, 7, 8, 9, 10, 11, 12, 13, 14] sym (by kernel_rfl) ?_
    repeat (first | refine run_S ?_ | refine w_box (fun _ => ?_) | refine w_al (fun _ => ?_))
    refine sl_call rfl rfl rfl rfl rfl rfl (fun _ => rFormat_ct (ha.up uc sb) (by omega)) ?_
    rintro v U4 D hU4 ⟨rfl, rfl⟩
    repeat (first | refine run_S ?_ | refine w_box (fun _ => ?_) | refine w_al (fun _ => ?_))
    refine sl_y (yl_strne rfl rfl rfl rfl) rfl rfl rfl rfl ?_
    repeat (first | refine run_S ?_ | refine w_box (fun _ => ?_) | refine w_al (fun _ => ?_))
    refine sl_gdec rfl rfl (fun h => absurd rfl h) (fun _ => ?_)
    repeat (first | refine run_S ?_ | refine w_box (fun _ => ?_) | refine w_al (fun _ => ?_))
    refine sl_call rfl rfl rfl rfl rfl rfl (fun _ => (Norm_ct (ha.up uc sb) (by omega)).settle) ?_
    rintro v Uh5 D hU ⟨rfl, _, _, ⟨xh5, rfl, h5, -⟩, -, -, hs⟩
    replace h5 := h5.sett hs
    clear hs
    repeat (first | refine run_S ?_ | refine w_box (fun _ => ?_) | refine w_al (fun _ => ?_))
    refine sl_call rfl rfl rfl rfl rfl rfl (fun _ => Same_ct (hback.up uc sb) (h5.up uc sb)) ?_
    rintro v U' D hU' ⟨rfl, rfl, rfl⟩
    repeat (first | refine run_S ?_ | refine w_box (fun _ => ?_) | refine w_al (fun _ => ?_))
    refine sl_call rfl rfl rfl rfl rfl rfl (fun _ => (Parse_ct hs (by omega)).settle) ?_
    rintro v U6 D hU6 ⟨rfl, _, _, ⟨x, e, rfl, hg, hb, -⟩, -, -, hs6⟩
    repeat (first | refine run_S ?_ | refine w_box (fun _ => ?_) | refine w_al (fun _ => ?_))
    refine sl_call rfl rfl rfl rfl rfl rfl (fun _ => rParse_ct hs (by omega)) ?_
    rintro v U7 D hU7 ⟨rfl, r, b, rfl, hrg, hrb⟩
    repeat (first | refine run_S ?_ | refine w_box (fun _ => ?_) | refine w_al (fun _ => ?_))
    by_cases hgs : Good s
    · obtain ⟨rfl, hx⟩ := hg hgs
      replace hx := hx.sett hs6
      obtain ⟨rfl, hr⟩ := hrg hgs
      have sx : Sz (pv s) 300 := by
        have hb57 : ∀ c ∈ body s, c ≤ 57 := fun c hc => (hgs.2.2 c hc).2
        have hbl : (body s).length ≤ 300 := by
          unfold body
          split
          · rw [List.length_tail]; omega
          · omega
        have := (sz_dv hb57).mono hbl
        unfold pv sg
        split
        · exact this.neg
        · exact this
      repeat (first | refine run_S ?_ | refine w_box (fun _ => ?_) | refine w_al (fun _ => ?_))
      refine sl_gdec rfl rfl (fun _ => ?_) (fun h => absurd rfl h)
      repeat (first | refine run_S ?_ | refine w_box (fun _ => ?_) | refine w_al (fun _ => ?_))
      refine sl_call rfl rfl rfl rfl rfl rfl (fun _ => Same_ct (hx.up uc sb) (hr.up uc sb)) ?_
      rintro v U' D hU' ⟨rfl, rfl, rfl⟩
      repeat (first | refine run_S ?_ | refine w_box (fun _ => ?_) | refine w_al (fun _ => ?_))
      refine sl_call rfl rfl rfl rfl rfl rfl (fun _ => Format_ct (hx.rep.up uc sb) (hx.le (sx) (by decide))) ?_
      rintro v U' D hU ⟨rfl, rfl, rfl⟩
      repeat (first | refine run_S ?_ | refine w_box (fun _ => ?_) | refine w_al (fun _ => ?_))
      refine sl_y (yl_streq rfl rfl rfl (by rw [good_fmt hgs])) rfl rfl rfl rfl ?_
      repeat (first | refine run_S ?_ | refine w_box (fun _ => ?_) | refine w_al (fun _ => ?_))
      exact sk_ret [] sym rfl (.cons (.tmp rfl) .nil) uc sb (.inl rfl) rfl
    · obtain ⟨rfl, rfl, -⟩ := hb hgs
      obtain rfl := hrb hgs
      repeat (first | refine run_S ?_ | refine w_box (fun _ => ?_) | refine w_al (fun _ => ?_))
      refine sl_gdec rfl rfl (fun _ => ?_) (fun h => absurd rfl h)
      repeat (first | refine run_S ?_ | refine w_box (fun _ => ?_) | refine w_al (fun _ => ?_))
      refine sl_bslice (vs := [zeroIV].map IV.v) sym rfl rfl rfl rfl rfl rfl (by intro v hv; obtain ⟨y, _, rfl⟩ := List.mem_map.1 hv; rfl) rfl rfl rfl rfl rfl rfl (fun b2 => ?_)
      repeat (first | refine run_S ?_ | refine w_box (fun _ => ?_) | refine w_al (fun _ => ?_))
      refine sl_call rfl rfl rfl rfl rfl rfl (fun _ => zero_ct (ivs_head.app _) rfl (by decide) (by simp)) ?_
      rintro v U' D hU ⟨rfl, rfl, rfl⟩
      repeat (first | refine run_S ?_ | refine w_box (fun _ => ?_) | refine w_al (fun _ => ?_))
      exact sk_ret [] sym rfl (.cons (.tmp rfl) .nil) uc sb (.inl rfl) rfl
  · repeat (first | refine run_S ?_ | refine w_box (fun _ => ?_) | refine w_al (fun _ => ?_))
    exact sk_ret [] sym rfl (.cons (.tmp rfl) .nil) uc sb (.inl rfl) rfl

end Go.Proofs.Ytcakainebimmdaa
