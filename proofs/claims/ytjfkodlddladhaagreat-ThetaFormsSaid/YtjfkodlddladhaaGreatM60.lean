/- Texts of this seat's own, merged: each begins with its own remark. -/
import Derived.Test.YtjfkodlddladhaaGreatM56
import Derived.Test.YtjfkodlddladhaaGreatM15
import Derived.Test.YtjfkodlddladhaaGreatM50
import Derived.Test.YtjfkodlddladhaaGreatB193
import Derived.Test.YtjfkodlddladhaaGreatM43
import Derived.Test.YtjfkodlddladhaaGreatM52
import Derived.Test.YtjfkodlddladhaaGreatM17
/- Walks of reference 33: free, Fundamental; square of reference 36. -/
namespace Go.Proofs.YtjfkodlddladhaaGreat
open Go.Hp
variable {G : World} {U U' : UH} {M : MH}
theorem r33free_ct {z : Int} (hz : -1000000 ≤ z ∧ z ≤ 1000000) :
  Ct Tryz.prog 157 [.int .i64 z] G U M fun v U' D => ∃ b : Bool, v = .bool b ∧ (b = true ↔ Fq.Sqf z.natAbs) ∧ U = U' ∧ D = [] := by
 obtain ⟨n, hn⟩ : ∃ n, n = z.natAbs := ⟨_, rfl⟩
 rw [← hn]
 refine ct_of_st Tryz.func157 rfl rfl rfl rfl ?_
 repeat (first|refine run_S ?_|refine w_box fun _=>?_|refine w_al fun _=>?_)
 rw [show IntKind.i64.wrap (0 - z) = -z by rw [IntWalk.i64_in _ (by omega)]; omega, show (if -z > z then -z else z) = (n : Int) by omega]
 try refine st_anti (M' := M) (ULe.refl _) sbk ?_
 refine st_loop (fun z E U' M' => ∃ (d : Nat), 2 ≤ d ∧ d ≤ n + 2 ∧ (∀ e, 2 ≤ e → e < d → ¬ e * e ∣ n) ∧ U = U' ∧ E = [(3, .int .i64 (d : Int)), (0, .int .i64 (n : Int)), (2, .bool false)] ∧ ULe U U' ∧ M' = M ∧ z = n + 2 - d) (n0 := n + 2 - 2) (E0 := [(3, .int .i64 ((2 : Nat) : Int)), (0, .int .i64 (n : Int)), (2, .bool false)]) ⟨rfl, rfl, rfl, trivial⟩ ⟨2, by decide, by omega, (fun e h1 h2 => by omega), rfl, rfl, uc, rfl, rfl⟩ ?_
 rintro z E U1 M' ⟨d, hd, hd2, hno, rfl, rfl, hU1, hMM, rfl⟩
 obtain rfl : M = M' := hMM.symm
 have hdd : (d : Int) * (d : Int) = ((d * d : Nat) : Int) := (Int.natCast_mul d d).symm
 have hld := Nat.le_mul_self d
 have hlm := Nat.mul_le_mul (show d ≤ 1000002 by omega) (show d ≤ 1000002 by omega)
 try refine run_s ?_
 rw [hdd]
 refine st_dec rfl (fun h1 => ?_) (fun h1 => ?_)
 ·have hdn : d * d ≤ n := by omega
  try refine run_s ?_
  refine sl_y (yl_remN (m := n) (n := d * d) rfl rfl rfl rfl hdd (by simp only [kmax]; omega) (by omega) rfl) rfl rfl rfl rfl ?_
  try refine run_s ?_
  refine st_eq rfl (fun h2 => ?_) (fun h2 => ?_)
  ·try refine run_s ?_
   exact sk_ret [] sym rfl (.cons (.tmp rfl) .nil) uc sb (.inl rfl) ⟨false, rfl, ⟨(fun h => by cases h), fun h => by
    have := h.2 d (Nat.dvd_of_mod_eq_zero (by omega))
    omega⟩, rfl, rfl⟩
  ·try refine run_s ?_
   exact sk_again (E' := [(3, .int .i64 ((d : Int) + 1)), (0, .int .i64 (n : Int)), (2, .bool false)]) (m := n + 2 - (d + 1)) ⟨rfl, rfl, rfl, trivial⟩ (by omega) ⟨d + 1, by omega, by omega, (fun e h3 h4 => by
    rcases Nat.lt_or_eq_of_le (Nat.le_of_lt_succ h4) with h5 | h5
    ·exact hno e h3 h5
    ·rw [h5]; exact fun h6 => h2 (by rw [Nat.mod_eq_zero_of_dvd h6]; rfl)), rfl, rfl, uc, rfl, rfl⟩
 ·have hdn : n < d * d := by omega
  try refine run_s ?_
  refine sk_ret [] sym rfl (.cons (.tmp rfl) .nil) uc sb (.inl rfl) ⟨dec ((n : Int) > 0), rfl, ?_, rfl, rfl⟩
  rw [dec_eq, decide_eq_true_iff]
  constructor
  ·intro h0
   refine ⟨by omega, fun e he => ?_⟩
   have hle := Nat.le_of_dvd (by omega) he
   rcases Nat.lt_or_ge e d with h3 | h3
   ·rcases show e = 0 ∨ e = 1 ∨ 2 ≤ e by omega with rfl | rfl | h4
    ·have := Nat.eq_zero_of_zero_dvd he
     omega
    ·rfl
    ·exact absurd he (hno e h4 h3)
   ·have := Nat.mul_le_mul h3 h3
    omega
  ·intro h0
   have := h0.1
   omega
theorem bMod4_ct {z : Int} (hz : -1000000 ≤ z ∧ z ≤ 1000000) :
  Ct Tryz.prog 156 [.int .i64 z, .int .i64 4] G U M fun v U' D => v = .int .i64 (z % 4) ∧ U = U' ∧ D = [] := by
 have e1 : z.tmod 4 = if 0 ≤ z then z % 4 else -((-z) % 4) := by
  split
  ·rename_i h; exact Int.tmod_eq_emod_of_nonneg h
  ·rename_i h
   have := Int.tmod_eq_emod_of_nonneg (a := -z) (b := 4) (by omega)
   rw [Int.neg_tmod] at this
   omega
 have r1 : z.tmod 4 < 0 → z.tmod 4 + 4 = z % 4 := by rw [e1]; omega
 have r2 : ¬ z.tmod 4 < 0 → z.tmod 4 = z % 4 := by rw [e1]; omega
 have r3 : -4 < z.tmod 4 ∧ z.tmod 4 < 4 := by rw [e1]; omega
 refine ct_of_st Tryz.func156 rfl rfl rfl rfl ?_
 repeat (first|refine run_S ?_|refine w_box fun _=>?_|refine w_al fun _=>?_)
 refine st_dec rfl (fun h => ?_) (fun h => ?_)
 ·repeat (first|refine run_S ?_|refine w_box fun _=>?_|refine w_al fun _=>?_)
  refine sk_ret [] sym rfl (.cons (.tmp rfl) .nil) uc sb (.inl rfl) ⟨?_, rfl, rfl⟩
  rw [← r1 h]; rfl
 ·repeat (first|refine run_S ?_|refine w_box fun _=>?_|refine w_al fun _=>?_)
  refine sk_ret [] sym rfl (.cons (.tmp rfl) .nil) uc sb (.inl rfl) ⟨?_, rfl, rfl⟩
  rw [← r2 h]; rfl
def Fdm (z : Int) : Prop := z % 4 = 1 ∧ Fq.Sqf z.natAbs ∨ z % 4 = 0 ∧ (z / 4) % 4 > 1 ∧ Fq.Sqf (z / 4).natAbs
theorem r33Fundamental_ct {z : Int} (hz : -100000 ≤ z ∧ z ≤ 100000) :
  Ct Tryz.prog 106 [.int .i64 z] G U M fun v U' D => ∃ b : Bool, v = .bool b ∧ (b = true ↔ Fdm z) ∧ U = U' ∧ D = [] := by
 refine ct_of_st Tryz.func106 rfl rfl rfl rfl ?_
 repeat (first|refine run_S ?_|refine w_box fun _=>?_|refine w_al fun _=>?_)
 refine sl_call rfl rfl rfl rfl rfl rfl (fun _ => bMod4_ct (z := z) (by omega)) ?_
 rintro v U' D hU ⟨rfl, rfl, rfl⟩
 repeat (first|refine run_S ?_|refine w_box fun _=>?_|refine w_al fun _=>?_)
 refine st_dec rfl (fun h => ?_) (fun h => ?_)
 ·repeat (first|refine run_S ?_|refine w_box fun _=>?_|refine w_al fun _=>?_)
  refine sl_call rfl rfl rfl rfl rfl rfl (fun _ => r33free_ct (z := z) (by omega)) ?_
  rintro v1 U1 D1 hU1 ⟨b, rfl, hb, rfl, rfl⟩
  try rw [List.nil_append]
  repeat (first|refine run_S ?_|refine w_box fun _=>?_|refine w_al fun _=>?_)
  exact sk_ret [] sym rfl (.cons (.tmp rfl) .nil) uc sb (.inl rfl) ⟨b, rfl, ⟨fun h2 => .inl ⟨h, hb.1 h2⟩, fun h2 => by
   rcases h2 with h2 | h2
   ·exact hb.2 h2.2
   ·omega⟩, rfl, rfl⟩
 repeat (first|refine run_S ?_|refine w_box fun _=>?_|refine w_al fun _=>?_)
 refine sl_call rfl rfl rfl rfl rfl rfl (fun _ => bMod4_ct (z := z) (by omega)) ?_
 rintro v U' D hU ⟨rfl, rfl, rfl⟩
 repeat (first|refine run_S ?_|refine w_box fun _=>?_|refine w_al fun _=>?_)
 refine sl_gdec rfl rfl (fun h1 => ?_) (fun h1 => ?_)
 ·have hq : z.tdiv 4 = z / 4 := by
   have := Int.tdiv_eq_ediv_of_dvd (show (4 : Int) ∣ z by omega)
   exact this
  repeat (first|refine run_S ?_|refine w_box fun _=>?_|refine w_al fun _=>?_)
  rw [hq, IntWalk.i64_in (z / 4) (by omega)]
  refine sl_call rfl rfl rfl rfl rfl rfl (fun _ => bMod4_ct (z := z / 4) (by omega)) ?_
  rintro v U' D hU ⟨rfl, rfl, rfl⟩
  repeat (first|refine run_S ?_|refine w_box fun _=>?_|refine w_al fun _=>?_)
  refine sl_gdec rfl rfl (fun h2 => ?_) (fun h2 => ?_)
  ·repeat (first|refine run_S ?_|refine w_box fun _=>?_|refine w_al fun _=>?_)
   rw [hq, IntWalk.i64_in (z / 4) (by omega)]
   refine sl_call rfl rfl rfl rfl rfl rfl (fun _ => r33free_ct (z := z / 4) (by omega)) ?_
   rintro v1 U1 D1 hU1 ⟨b, rfl, hb, rfl, rfl⟩
   try rw [List.nil_append]
   repeat (first|refine run_S ?_|refine w_box fun _=>?_|refine w_al fun _=>?_)
   exact sk_ret [] sym rfl (.cons (.tmp rfl) .nil) uc sb (.inl rfl) ⟨b, rfl, ⟨fun h3 => .inr ⟨h1, h2, hb.1 h3⟩, fun h3 => by
    rcases h3 with h3 | h3
    ·exact absurd h3.1 h
    ·exact hb.2 h3.2.2⟩, rfl, rfl⟩
  ·repeat (first|refine run_S ?_|refine w_box fun _=>?_|refine w_al fun _=>?_)
   exact sk_ret [] sym rfl (.cons (.tmp rfl) .nil) uc sb (.inl rfl) ⟨false, rfl, ⟨(fun h => by cases h), fun h3 => by
    rcases h3 with h3 | h3
    ·exact absurd h3.1 h
    ·exact absurd h3.2.1 h2⟩, rfl, rfl⟩
 ·repeat (first|refine run_S ?_|refine w_box fun _=>?_|refine w_al fun _=>?_)
  exact sk_ret [] sym rfl (.cons (.tmp rfl) .nil) uc sb (.inl rfl) ⟨false, rfl, ⟨(fun h => by cases h), fun h2 => by
   rcases h2 with h2 | h2
   ·exact absurd h2.1 h
   ·exact absurd h2.1 h1⟩, rfl, rfl⟩
theorem r36square_ct {x : IV} {z : Int} (hx : x.rep U M z) (hn : x.n ≤ 1000) (h0 : 0 ≤ z) :
  Ct Tryz.prog 107 [x.v] G U M fun v U' D => ∃ b : Bool, v = .bool b ∧ (b = true ↔ ∃ w : Nat, z = ((w * w : Nat) : Int)) ∧ ULe U U' ∧ D = [] := by
 have key : ∀ U8 : UH, ∃ b : Bool, Value.bool (decide (((Bx.isq z.natAbs : Nat) : Int) * ((Bx.isq z.natAbs : Nat) : Int) = z)) = .bool b ∧ (b = true ↔ ∃ w : Nat, z = ((w * w : Nat) : Int)) := fun _ => by
  refine ⟨_, rfl, ?_⟩
  rw [decide_eq_true_iff]
  constructor
  ·intro h; exact ⟨_, by rw [Int.natCast_mul, h]⟩
  ·rintro ⟨w, rfl⟩
   rw [← Int.natCast_mul, Int.natAbs_natCast]
   have := Bx.isq_at (A := w * w) (R := w) (Nat.le_refl _) (by rw [Nat.add_mul, Nat.mul_add]; omega)
   rw [← this]
 refine ct_of_st Tryz.func107 rfl rfl rfl rfl ?_
 repeat (first|refine run_S ?_|refine w_box fun _=>?_|refine w_al fun _=>?_)
 rename_i b1
 refine sl_call rfl rfl rfl rfl rfl rfl (fun _ => rRootI_st (hx.up uc sb) hn h0) ?_
 rintro v Uh5 D hU ⟨xh5, rfl, h5, rfl⟩
 repeat (first|refine run_S ?_|refine w_box fun _=>?_|refine w_al fun _=>?_)
 rename_i b3
 have s5 : Sz ((Bx.isq z.natAbs : Nat) : Int) 1000 := by
  have h6 := hx.sz hn
  have h7 := Bx.isq_le (A := z.natAbs)
  unfold Sz at h6 ⊢
  omega
 refine st_drawM [4, 5, 6] [0, 1, 3, 2, 4, 5, 6] sym (by kernel_rfl) ?_
 try refine run_s ?_
 refine sl_call rfl rfl rfl rfl rfl rfl (fun _ => (rMul_ct (h5.rep.up uc (List.nil_sublist _)) (h5.le s5 (by decide)) (h5.rep.up uc (List.nil_sublist _)) (h5.le s5 (by decide))).settle) ?_
 rintro v Uh8 D hU ⟨rfl, _, _, ⟨xh8, rfl, h8, -⟩, -, -, hs⟩
 replace h8 := h8.sett hs
 clear hs
 repeat (first|refine run_S ?_|refine w_box fun _=>?_|refine w_al fun _=>?_)
 refine sl_call rfl rfl rfl rfl rfl rfl (fun _ => (Norm_ct (hx.up uc sb) (by omega)).settle) ?_
 rintro v Uh10 D hU ⟨rfl, _, _, ⟨xh10, rfl, h10, -⟩, -, -, hs⟩
 replace h10 := h10.sett hs
 clear hs
 repeat (first|refine run_S ?_|refine w_box fun _=>?_|refine w_al fun _=>?_)
 refine sl_call rfl rfl rfl rfl rfl rfl (fun _ => rSame_cz (h8.up uc (List.nil_sublist _)) (h10.up uc (List.nil_sublist _))) ?_
 rintro v U' D hU ⟨rfl, rfl, rfl⟩
 repeat (first|refine run_S ?_|refine w_box fun _=>?_|refine w_al fun _=>?_)
 obtain ⟨b, hb1, hb2⟩ := key U
 refine sk_ret [] sym rfl (.cons (.tmp rfl) .nil) uc sb (.inl rfl) ⟨b, ?_, hb2, uc, rfl⟩
 exact hb1
end Go.Proofs.YtjfkodlddladhaaGreat

/- Walks of layer 36's reference: Disc. -/
namespace Go.Proofs.YtjfkodlddladhaaGreat
open Go.Hp
variable {G : World} {U U' : UH} {M : MH}
def dtn (n : Nat) (f : Nat → Int) : Nat := (Lr.det n (gz n f)).natAbs
def sgd (n : Nat) : Int := if n % 4 = 0 then 1 else -1
theorem sgd_or (n : Nat) : sgd n = 1 ∨ sgd n = -1 := by unfold sgd; split; exact .inl rfl; exact .inr rfl
def DscO (n : Nat) (f : Nat → Int) (v : Value) : Prop :=
 (∃ d : Nat, 1 ≤ d ∧ d ≤ 600 ∧ Fq.Cnd (dtn n f) (sgd n) (sgd n) d ∧ v = .tuple #[.int .i64 (sgd n * d), .int .i64 0]) ∨ ((∀ d : Nat, d ≤ 600 → ¬ Fq.Cnd (dtn n f) (sgd n) (sgd n) d) ∧ v = .tuple #[.int .i64 0, .int .i64 7])
theorem cnd_zero {D : Nat} {e s : Int} : ¬ Fq.Cnd D e s 0 := fun h => by
 rcases h.1 with h1 | h1
 ·have := h1.1
  rw [Int.natCast_zero, Int.mul_zero] at this
  exact absurd this (by decide)
 ·have := h1.2.1
  rw [Int.natCast_zero, Int.mul_zero] at this
  exact absurd this (by decide)
theorem cnd_fdm {D d : Nat} {e s : Int} (hs : s = 1 ∨ s = -1) : Fq.Cnd D e s d ↔ Fdm (s * d) ∧ s = e ∧ ∃ w : Nat, D * d = w * w := by
 have e1 : (s * (d : Int)).natAbs = d := by rcases hs with rfl | rfl <;> omega
 have e2 : (s * (d : Int)) % 4 = 0 → (s * (d : Int) / 4).natAbs = d / 4 := by rcases hs with rfl | rfl <;> omega
 unfold Fq.Cnd Fdm
 rw [e1]
 constructor
 ·rintro ⟨h1 | h1, h2, h3⟩
  ·exact ⟨.inl h1, h2, h3⟩
  ·exact ⟨.inr ⟨h1.1, h1.2.1, by rw [e2 h1.1]; exact h1.2.2⟩, h2, h3⟩
 ·rintro ⟨h1 | h1, h2, h3⟩
  ·exact ⟨.inl h1, h2, h3⟩
  ·exact ⟨.inr ⟨h1.1, h1.2.1, by rw [← e2 h1.1]; exact h1.2.2⟩, h2, h3⟩
set_option maxHeartbeats 4000000 in
theorem r36Disc_ct {r : Int} {N c : Nat} {p : Option Addr} {vs : List Value} {f : Nat → Int} (rw1 : RowAt U [] 1 p N vs) (el : El Vz U vs f) (hc : N ≤ c) (hN : N ≤ 9223372036854775807) :
  Ct Tryz.prog 42 [.agg #[.int .i64 r, .slice p N c]] G U M fun v U' D => (chk r N f ≠ 0 → v = .tuple #[.int .i64 0, .int .i64 (chk r N f)]) ∧ (∀ n : Nat, r = (n : Int) → chk r N f = 0 → (n % 2 = 1 → v = .tuple #[.int .i64 0, .int .i64 16]) ∧ (n % 2 = 0 → DscO n f v)) ∧ D = [] := by
 refine ct_of_st Tryz.func42 rfl rfl rfl rfl ?_
 repeat (first|refine run_S ?_|refine w_box fun _=>?_|refine w_al fun _=>?_)
 rename_i b1
 refine sl_call rfl rfl rfl rfl rfl rfl (fun _ => r36Check_ct (rw1.up uc (List.nil_sublist _)) (el.up KeptC.out uc) hc hN) ?_
 rintro v1 U1 D hU1 ⟨rfl, -, rfl⟩
 rw [List.nil_append]
 repeat (first|refine run_S ?_|refine w_box fun _=>?_|refine w_al fun _=>?_)
 refine st_ne rfl (fun h => ?_) (fun h => ?_)
 ·repeat (first|refine run_S ?_|refine w_box fun _=>?_|refine w_al fun _=>?_)
  exact sk_ret [] sym rfl (.cons (.tmp rfl) (.cons (.tmp rfl) .nil)) uc sb (.inl rfl) ⟨fun _ => rfl, fun _ _ h0 => absurd h0 h, rfl⟩
 obtain ⟨n, rfl, hn1, hn8, rfl, hb, he, hp⟩ := chk_zero h
 rw [h]
 have hres : ∀ v : Value, (n % 2 = 1 → v = .tuple #[.int .i64 0, .int .i64 16]) ∧ (n % 2 = 0 → DscO n f v) → ((0 : Int) ≠ 0 → v = .tuple #[.int .i64 0, .int .i64 0]) ∧ (∀ n' : Nat, (n : Int) = (n' : Int) → (0 : Int) = 0 → (n' % 2 = 1 → v = .tuple #[.int .i64 0, .int .i64 16]) ∧ (n' % 2 = 0 → DscO n' f v)) := fun v hv => ⟨fun h => absurd rfl h, fun n' e _ => by
  obtain rfl : n = n' := Int.ofNat.inj e
  exact hv⟩
 repeat (first|refine run_S ?_|refine w_box fun _=>?_|refine w_al fun _=>?_)
 rw [show (n : Int).tmod 2 = ((n % 2 : Nat) : Int) from rfl]
 refine st_eq rfl (fun h1 => ?_) (fun h1 => ?_)
 ·have hr := hres (tup [.int .i64 0, .int .i64 16]) ⟨fun _ => rfl, fun h2 => by omega⟩
  repeat (first|refine run_S ?_|refine w_box fun _=>?_|refine w_al fun _=>?_)
  exact sk_ret [] sym rfl (.cons (.tmp rfl) (.cons (.tmp rfl) .nil)) uc sb (.inl rfl) ⟨hr.1, hr.2, rfl⟩
 have hev : n % 2 = 0 := by omega
 replace hres := fun v hv => hres v ⟨fun h => by omega, fun _ => hv⟩
 have hdp := (pdm_pdf he hp).2.2 hn1
 repeat (first|refine run_S ?_|refine w_box fun _=>?_|refine w_al fun _=>?_)
 refine sl_call rfl rfl rfl rfl rfl rfl (fun _ => r36rows_ct (n := n) (rw1.up uc (List.nil_sublist _)) (el.up KeptC.out uc) rfl hn8 (Nat.le_refl n) hc) ?_
 rintro v27 U27 D27 hU27 ⟨hrows, rfl⟩
 rw [List.nil_append]
 obtain ⟨prw, crw, xrw, rfl, -⟩ := id hrows
 repeat (first|refine run_S ?_|refine w_box fun _=>?_|refine w_al fun _=>?_)
 refine sl_call rfl rfl rfl rfl rfl rfl (fun _ => r36det_ct (hrows.up KeptC.out uc (List.Sublist.refl _)) (fun i j hi hj => by have := hb _ (ij_lt hi hj); unfold Sz; omega) hn8) ?_
 rintro v Uh22 D hU ⟨xh22, rfl, h22, rfl⟩
 repeat (first|refine run_O ?_|refine w_box fun _=>?_|refine w_al fun _=>?_)
 rename_i b5
 rw [List.nil_append]
 change xh22.nrm Uh22 [] (Lr.det n (gz n f)) at h22
 obtain ⟨K, hK⟩ : ∃ K, K = dtn n f := ⟨_, rfl⟩
 have hKd : Lr.det n (gz n f) = (K : Int) := by rw [hK]; unfold dtn; omega
 have hK0 : 1 ≤ K := by omega
 have sK : Sz (K : Int) 3 := by
  rw [← hKd]
  exact Nat.lt_of_le_of_lt (La.det_bd hn8 fun i j hi hj => hb _ (ij_lt hi hj)) (by decide)
 rw [hKd] at h22
 obtain ⟨e, hee⟩ : ∃ e, e = sgd n := ⟨_, rfl⟩
 have heo := sgd_or n
 rw [← hee] at heo
 have sx : Sz (e * (K : Int)) 3 := by
  unfold Sz at sK ⊢
  rcases heo with rfl | rfl <;> omega
 refine st_seq_cut (fun E U' M' => ∃ (x : IV), x.nrm U' [] (e * (K : Int)) ∧ E = [(5, .pointer (some ⟨b5, 0, none⟩)), (1, .pointer (some ⟨b1, 0, none⟩)), (2, .int .i64 0), (3, .int .i64 0)] ∧ ULe Uh22 U' ∧ M' = (b5, .var x.v, TJ) :: (b1, .var (.agg #[.int .i64 (n : Int), .slice p (n * n) c]), 24) :: M) ?_ ?_
 ·try refine run_s ?_
  rw [show (n : Int).tmod 4 = ((n % 4 : Nat) : Int) from rfl]
  refine st_eq rfl (fun h2 => ?_) (fun h2 => ?_)
  ·try refine run_s ?_
   refine sl_call rfl rfl rfl rfl rfl rfl (fun _ => (rNeg_ct (h22.rep.up uc (List.nil_sublist _)) (h22.le sK (by decide))).settle) ?_
   rintro v Uh28 D hU ⟨rfl, _, _, ⟨xh28, rfl, h28, -⟩, -, -, hs⟩
   replace h28 := h28.sett hs
   clear hs
   repeat (first|refine run_S ?_|refine w_box fun _=>?_|refine w_al fun _=>?_)
   have e1 : e = -1 := by rw [hee]; unfold sgd; rw [if_neg (by omega)]
   rw [show -(K : Int) = e * (K : Int) by rw [e1]; omega] at h28
   exact sk_cut (E' := [(5, .pointer (some ⟨b5, 0, none⟩)), (1, .pointer (some ⟨b1, 0, none⟩)), (2, .int .i64 0), (3, .int .i64 0)]) ⟨rfl, rfl, rfl, rfl, trivial⟩ ⟨xh28, h28, rfl, uc, rfl⟩
  ·have e1 : e = 1 := by rw [hee]; unfold sgd; rw [if_pos (by omega)]
   try refine run_s ?_
   exact sk_cut (E' := [(5, .pointer (some ⟨b5, 0, none⟩)), (1, .pointer (some ⟨b1, 0, none⟩)), (2, .int .i64 0), (3, .int .i64 0)]) ⟨rfl, rfl, rfl, rfl, trivial⟩ ⟨xh22, by rw [e1, Int.one_mul]; exact h22.up uc (List.Sublist.refl _), rfl, uc, rfl⟩
 rintro E U4 M' ⟨x, hx, rfl, hU4, rfl⟩
 try refine run_s ?_
 try refine st_anti (M' := (b5, .var x.v, TJ) :: (b1, .var (.agg #[.int .i64 (n : Int), .slice p (n * n) c]), 24) :: M) (ULe.refl _) sbk ?_
 refine st_loop (fun z E U' M' => ∃ (d : Nat), 1 ≤ d ∧ d ≤ 601 ∧ (∀ a, a < d → ¬ Fq.Cnd K e e a) ∧ E = [(6, .int .i64 (d : Int)), (5, .pointer (some ⟨b5, 0, none⟩)), (1, .pointer (some ⟨b1, 0, none⟩)), (2, .int .i64 0), (3, .int .i64 0)] ∧ ULe U4 U' ∧ M' = (b5, .var x.v, TJ) :: (b1, .var (.agg #[.int .i64 (n : Int), .slice p (n * n) c]), 24) :: M ∧ z = 601 - d) (n0 := 601 - 1) (E0 := [(6, .int .i64 ((1 : Nat) : Int)), (5, .pointer (some ⟨b5, 0, none⟩)), (1, .pointer (some ⟨b1, 0, none⟩)), (2, .int .i64 0), (3, .int .i64 0)]) ⟨rfl, rfl, rfl, rfl, rfl, trivial⟩ ⟨1, by decide, by decide, (fun a h => by rw [show a = 0 by omega]; exact cnd_zero), rfl, uc, rfl, rfl⟩ ?_
 rintro z E U5 M' ⟨d, hd1, hd2, hno, rfl, hU5, rfl, rfl⟩
 try refine run_s ?_
 refine st_dec rfl (fun h3 => ?_) (fun h3 => ?_)
 ·try refine run_s ?_
  try refine st_anti (M' := (b5, .var x.v, TJ) :: (b1, .var (.agg #[.int .i64 (n : Int), .slice p (n * n) c]), 24) :: M) (ULe.refl _) sbk ?_
  refine st_loop (fun z E U' M' => ∃ (j : Nat), j ≤ 2 ∧ (∀ i, i < j → e = 1 - 2 * (i : Int) → ¬ Fq.Cnd K e e d) ∧ E = [(7, .int .i64 (1 - 2 * (j : Int))), (6, .int .i64 (d : Int)), (5, .pointer (some ⟨b5, 0, none⟩)), (1, .pointer (some ⟨b1, 0, none⟩)), (2, .int .i64 0), (3, .int .i64 0)] ∧ ULe U5 U' ∧ M' = (b5, .var x.v, TJ) :: (b1, .var (.agg #[.int .i64 (n : Int), .slice p (n * n) c]), 24) :: M ∧ z = 2 - j) (n0 := 2 - 0) (E0 := [(7, .int .i64 (1 - 2 * ((0 : Nat) : Int))), (6, .int .i64 (d : Int)), (5, .pointer (some ⟨b5, 0, none⟩)), (1, .pointer (some ⟨b1, 0, none⟩)), (2, .int .i64 0), (3, .int .i64 0)]) ⟨rfl, rfl, rfl, rfl, rfl, rfl, trivial⟩ ⟨0, by decide, (fun i h => absurd h (Nat.not_lt_zero i)), rfl, uc, rfl, rfl⟩ ?_
  rintro z E U6 M' ⟨j, hj, hnj, rfl, hU6, rfl, rfl⟩
  try refine run_s ?_
  refine st_dec rfl (fun h4 => ?_) (fun h4 => ?_)
  ·obtain ⟨s, hs⟩ : ∃ s, s = 1 - 2 * (j : Int) := ⟨_, rfl⟩
   have hs1 : s = 1 ∨ s = -1 := by omega
   rw [← hs]
   have sd : -600 ≤ s * (d : Int) ∧ s * (d : Int) ≤ 600 := by rcases hs1 with rfl | rfl <;> omega
   have s41 : Sz (s * (d : Int)) 1 := by unfold Sz; omega
   have s42 := sx.mul s41
   try refine run_s ?_
   refine st_drawM [7] [0, 1, 2, 3, 4, 5, 6, 7] sym (by kernel_rfl) ?_
   try refine run_s ?_
   refine sl_call rfl rfl rfl rfl rfl rfl (fun _ => (bZ_ct (z := s * (d : Int)) (by omega) (by omega)).settle) ?_
   rintro v Uh41 D hU ⟨rfl, _, _, ⟨xh41, rfl, h41, -⟩, -, -, hs⟩
   replace h41 := h41.sett hs
   clear hs
   repeat (first|refine run_S ?_|refine w_box fun _=>?_|refine w_al fun _=>?_)
   refine sl_call rfl rfl rfl rfl rfl rfl (fun _ => (rMul_ct (hx.rep.up uc (List.nil_sublist _)) (hx.le sx (by decide)) (h41.rep.up uc (List.nil_sublist _)) (h41.le s41 (by decide))).settle) ?_
   rintro v Uh42 D hU ⟨rfl, _, _, ⟨xh42, rfl, h42, -⟩, -, -, hs⟩
   replace h42 := h42.sett hs
   clear hs
   repeat (first|refine run_S ?_|refine w_box fun _=>?_|refine w_al fun _=>?_)
   rename_i b8
   obtain ⟨yz, hyz⟩ : ∃ yz, yz = e * (K : Int) * (s * (d : Int)) := ⟨_, rfl⟩
   rw [← hyz] at h42 s42
   have hKd1 : 0 < K * d := Nat.mul_pos hK0 hd1
   have hpos : s = e → yz = ((K * d : Nat) : Int) := fun h => by
    rw [hyz, h, Int.natCast_mul]
    rcases heo with rfl | rfl <;> simp only [Int.neg_mul, Int.one_mul, Int.mul_neg, Int.neg_neg]
   have hneg : s ≠ e → yz = -((K * d : Nat) : Int) := fun h => by
    have : s = -e := by omega
    rw [hyz, this, Int.natCast_mul]
    rcases heo with rfl | rfl <;> simp only [Int.neg_mul, Int.one_mul, Int.mul_neg, Int.neg_neg]
   have hsg : yz.sign > 0 ↔ s = e := by
    constructor
    ·intro h
     refine Classical.byContradiction fun h2 => ?_
     rw [Int.sign_eq_neg_one_of_neg (by have := hneg h2; omega)] at h
     exact absurd h (by decide)
    ·intro h
     rw [Int.sign_eq_one_of_pos (by have := hpos h; omega)]
     decide
   refine sl_call rfl rfl rfl rfl rfl rfl (fun _ => r33Fundamental_ct (z := s * (d : Int)) (by omega)) ?_
   rintro v46 U46 D46 hU46 ⟨bf, rfl, hbf, rfl, rfl⟩
   try rw [List.nil_append]
   cases bf
   ·have hnc : e = s → ¬ Fq.Cnd K e e d := fun h5 h6 => by
     have := (cnd_fdm heo).1 h6
     rw [h5] at this
     have := hbf.2 this.1
     cases this
    repeat (first|refine run_S ?_|refine w_box fun _=>?_|refine w_al fun _=>?_)
    rw [show s - 2 = 1 - 2 * ((j + 1 : Nat) : Int) by omega]
    refine sk_anti (M' := (b5, .var x.v, TJ) :: (b1, .var (.agg #[.int .i64 (n : Int), .slice p (n * n) c]), 24) :: M) (ULe.refl _) sbk ?_
    exact sk_again (E' := [(7, .int .i64 (1 - 2 * ((j : Int) + 1))), (6, .int .i64 (d : Int)), (5, .pointer (some ⟨b5, 0, none⟩)), (1, .pointer (some ⟨b1, 0, none⟩)), (2, .int .i64 0), (3, .int .i64 0)]) (m := 2 - (j + 1)) ⟨rfl, rfl, rfl, rfl, rfl, rfl, trivial⟩ (by omega) ⟨j + 1, by omega, (fun i hi => by
     rcases Nat.lt_or_eq_of_le (Nat.le_of_lt_succ hi) with h5 | h5
     ·exact hnj i h5
     ·rw [h5, ← hs]; exact hnc), rfl, uc, rfl, rfl⟩
   ·have hF := hbf.1 rfl
    repeat (first|refine run_S ?_|refine w_box fun _=>?_|refine w_al fun _=>?_)
    refine sl_call rfl rfl rfl rfl rfl rfl (fun _ => rSign_ct (h42.rep.up uc (List.nil_sublist _)) (h42.le s42 (by decide))) ?_
    rintro v U' D hU ⟨rfl, rfl, rfl⟩
    repeat (first|refine run_S ?_|refine w_box fun _=>?_|refine w_al fun _=>?_)
    refine sl_gdec rfl rfl (fun h5 => ?_) (fun h5 => ?_)
    ·have hse := hsg.1 h5
     have hyp := hpos hse
     repeat (first|refine run_S ?_|refine w_box fun _=>?_|refine w_al fun _=>?_)
     refine sl_call rfl rfl rfl rfl rfl rfl (fun _ => r36square_ct (h42.rep.up uc (List.nil_sublist _)) (h42.le s42 (by decide)) (by omega)) ?_
     rintro v54 U54 D54 hU54 ⟨bs, rfl, hbs, -, rfl⟩
     try rw [List.nil_append]
     have hiff : Fq.Cnd K e e d ↔ bs = true := by
      rw [cnd_fdm heo, hbs]
      constructor
      ·rintro ⟨-, -, w, hw⟩; exact ⟨w, by rw [hyp, hw]⟩
      ·rintro ⟨w, hw⟩; exact ⟨by rw [← hse]; exact hF, rfl, w, Int.ofNat.inj (hyp.symm.trans hw)⟩
     cases bs
     ·have hnc : ¬ Fq.Cnd K e e d := fun h6 => by have := hiff.1 h6; cases this
      repeat (first|refine run_S ?_|refine w_box fun _=>?_|refine w_al fun _=>?_)
      rw [show s - 2 = 1 - 2 * ((j + 1 : Nat) : Int) by omega]
      refine sk_anti (M' := (b5, .var x.v, TJ) :: (b1, .var (.agg #[.int .i64 (n : Int), .slice p (n * n) c]), 24) :: M) (ULe.refl _) sbk ?_
      exact sk_again (E' := [(7, .int .i64 (1 - 2 * ((j : Int) + 1))), (6, .int .i64 (d : Int)), (5, .pointer (some ⟨b5, 0, none⟩)), (1, .pointer (some ⟨b1, 0, none⟩)), (2, .int .i64 0), (3, .int .i64 0)]) (m := 2 - (j + 1)) ⟨rfl, rfl, rfl, rfl, rfl, rfl, trivial⟩ (by omega) ⟨j + 1, by omega, (fun i hi h6 => hnc), rfl, uc, rfl, rfl⟩
     ·have hC := hiff.2 rfl
      have hr := hres (tup [.int .i64 (s * (d : Int)), .int .i64 0]) (.inl ⟨d, hd1, by omega, by rw [← hK, ← hee]; exact hC, by rw [← hee, ← hse]; rfl⟩)
      repeat (first|refine run_S ?_|refine w_box fun _=>?_|refine w_al fun _=>?_)
      exact sk_ret [] sym rfl (.cons (.tmp rfl) (.cons (.tmp rfl) .nil)) uc sb (.inl rfl) ⟨hr.1, hr.2, rfl⟩
    ·have hse : s ≠ e := fun h6 => h5 (hsg.2 h6)
     repeat (first|refine run_S ?_|refine w_box fun _=>?_|refine w_al fun _=>?_)
     rw [show s - 2 = 1 - 2 * ((j + 1 : Nat) : Int) by omega]
     refine sk_anti (M' := (b5, .var x.v, TJ) :: (b1, .var (.agg #[.int .i64 (n : Int), .slice p (n * n) c]), 24) :: M) (ULe.refl _) sbk ?_
     exact sk_again (E' := [(7, .int .i64 (1 - 2 * ((j : Int) + 1))), (6, .int .i64 (d : Int)), (5, .pointer (some ⟨b5, 0, none⟩)), (1, .pointer (some ⟨b1, 0, none⟩)), (2, .int .i64 0), (3, .int .i64 0)]) (m := 2 - (j + 1)) ⟨rfl, rfl, rfl, rfl, rfl, rfl, trivial⟩ (by omega) ⟨j + 1, by omega, (fun i hi => by
      rcases Nat.lt_or_eq_of_le (Nat.le_of_lt_succ hi) with h6 | h6
      ·exact hnj i h6
      ·rw [h6, ← hs]; exact fun h7 => absurd h7.symm hse), rfl, uc, rfl, rfl⟩
  ·obtain rfl : j = 2 := by omega
   have hnc : ¬ Fq.Cnd K e e d := by
    rcases heo with h6 | h6
    ·exact hnj 0 (by decide) (by rw [h6]; rfl)
    ·exact hnj 1 (by decide) (by rw [h6]; rfl)
   try refine run_s ?_
   exact sk_again (E' := [(6, .int .i64 ((d : Int) + 1)), (5, .pointer (some ⟨b5, 0, none⟩)), (1, .pointer (some ⟨b1, 0, none⟩)), (2, .int .i64 0), (3, .int .i64 0)]) (m := 601 - (d + 1)) ⟨rfl, rfl, rfl, rfl, rfl, trivial⟩ (by omega) ⟨d + 1, by omega, by omega, (fun a ha => by
    rcases Nat.lt_or_eq_of_le (Nat.le_of_lt_succ ha) with h5 | h5
    ·exact hno a h5
    ·rw [h5]; exact hnc), rfl, uc, rfl, rfl⟩
 ·have hr := hres (tup [.int .i64 0, .int .i64 7]) (.inr ⟨fun a ha => by rw [← hK, ← hee]; exact hno a (by omega), rfl⟩)
  repeat (first|refine run_S ?_|refine w_box fun _=>?_|refine w_al fun _=>?_)
  exact sk_ret [] sym rfl (.cons (.tmp rfl) (.cons (.tmp rfl) .nil)) uc sb (.inl rfl) ⟨hr.1, hr.2, rfl⟩
end Go.Proofs.YtjfkodlddladhaaGreat

/- Walks of layer 36: Disc. -/
namespace Go.Proofs.YtjfkodlddladhaaGreat
open Go.Hp
open Go.Fq (Prm Sqf)
variable {G : World} {U U' : UH} {M : MH}
structure Dst (D : Nat) (P : Nat → Nat) (k Fn w lf : Nat) : Prop where
 eq : D = Fn * (w * w) * lf
 w0 : 0 < w
 l0 : 0 < lf
 sq : Sqf Fn
 of : ∀ q, Prm q → q ∣ Fn → ∃ i, i < k ∧ P i = q
 no : ∀ i, i < k → ¬ P i ∣ lf
 le : Fn ≤ 600
theorem Dst.next {D k Fn w lf w' lf' : Nat} {P : Nat → Nat} (h : Dst D P k Fn w lf) (hd : lf' ∣ lf) (h0 : 0 < lf') (hw : 0 < w') (he : D = Fn * (w' * w') * 1 * lf') (hp : ¬ P k ∣ lf') : Dst D P (k + 1) Fn w' lf' :=
 ⟨by rw [he, Nat.mul_one], hw, h0, h.sq, fun q h1 h2 => by
  obtain ⟨i, h3, h4⟩ := h.of q h1 h2
  exact ⟨i, by omega, h4⟩, fun i hi h1 => by
  rcases Nat.lt_or_eq_of_le (Nat.le_of_lt_succ hi) with h2 | h2
  ·exact h.no i h2 (Nat.dvd_trans h1 hd)
  ·exact hp (h2 ▸ h1), h.le⟩
theorem Dst.odd {D k K p0 Fn w lf w' lf' : Nat} {P : Nat → Nat} (h : Dst D P k Fn w lf) (hP : PrL p0 K P) (hk : k < K) (hd : lf' ∣ lf) (he : D = Fn * (w' * w') * P k * lf') (hp : ¬ P k ∣ lf') :
  Sqf (Fn * P k) ∧ D = Fn * P k * (w' * w') * lf' ∧ (∀ q, Prm q → q ∣ Fn * P k → ∃ i, i < k + 1 ∧ P i = q) ∧ ∀ i, i < k + 1 → ¬ P i ∣ lf' := by
 have hpk := (hP.prm k hk).1
 refine ⟨h.sq.mul hpk fun h1 => ?_, by rw [he]; simp only [Nat.mul_left_comm, Nat.mul_comm], fun q h1 h2 => ?_, fun i hi h1 => ?_⟩
 ·obtain ⟨i, h2, h3⟩ := h.of _ hpk h1
  have := hP.mono i k h2 hk
  omega
 ·rcases Fq.prm_mul h1 h2 with h3 | h3
  ·obtain ⟨i, h4, h5⟩ := h.of q h1 h3
   exact ⟨i, by omega, h5⟩
  ·exact ⟨k, by omega, (Fq.prm_dvd h1 hpk h3).symm⟩
 ·rcases Nat.lt_or_eq_of_le (Nat.le_of_lt_succ hi) with h2 | h2
  ·exact h.no i h2 (Nat.dvd_trans h1 hd)
  ·exact hp (h2 ▸ h1)
theorem prl_ge {p k : Nat} {F : Nat → Nat} (h : PrL p k F) : ∀ i, i < k → i ≤ F i
 | 0, _ => Nat.zero_le _
 | i + 1, hi => by
  have h1 := prl_ge h i (by omega)
  have h2 := h.mono i (i + 1) (by omega) hi
  omega
def DscP (n : Nat) (f : Nat → Int) (v : Value) : Prop :=
 (∃ d : Nat, 1 ≤ d ∧ d ≤ 600 ∧ (∀ a : Nat, a ≤ 600 → (Fq.Cnd (dtn n f) (sgd n) (sgd n) a ↔ a = d)) ∧ v = .tuple #[.int .i64 (sgd n * d), .int .i64 0]) ∨ ((∀ d : Nat, d ≤ 600 → ¬ Fq.Cnd (dtn n f) (sgd n) (sgd n) d) ∧ v = .tuple #[.int .i64 0, .int .i64 7])
set_option maxHeartbeats 4000000 in
theorem tDisc_ct {r : Int} {N c : Nat} {p : Option Addr} {vs : List Value} {f : Nat → Int} (rw1 : RowAt U [] 1 p N vs) (el : El Vz U vs f) (hN : N ≤ 9223372036854775807) :
  Ct Tryz.prog 41 [.agg #[.int .i64 r, .slice p N c]] G U M fun v _ D => (chk r N f ≠ 0 → v = .tuple #[.int .i64 0, .int .i64 (chk r N f)]) ∧ (∀ n : Nat, r = (n : Int) → chk r N f = 0 → (n % 2 = 1 → v = .tuple #[.int .i64 0, .int .i64 16]) ∧ (n % 2 = 0 → DscP n f v)) ∧ D = [] := by
 refine ct_of_st Tryz.func41 rfl rfl rfl rfl ?_
 repeat (first|refine run_S ?_|refine w_box fun _=>?_|refine w_al fun _=>?_)
 rename_i b1
 refine sl_call rfl rfl rfl rfl rfl rfl (fun _ => tCheck_ct (rw1.up uc (List.nil_sublist _)) (el.up KeptC.out uc) hN) ?_
 rintro v1 U1 D hU1 ⟨rfl, -, rfl⟩
 rw [List.nil_append]
 repeat (first|refine run_S ?_|refine w_box fun _=>?_|refine w_al fun _=>?_)
 refine st_ne rfl (fun h => ?_) (fun h => ?_)
 ·repeat (first|refine run_S ?_|refine w_box fun _=>?_|refine w_al fun _=>?_)
  exact sk_ret [] sym rfl (.cons (.tmp rfl) (.cons (.tmp rfl) .nil)) uc sb (.inl rfl) ⟨fun _ => rfl, fun _ _ h0 => absurd h0 h, rfl⟩
 obtain ⟨n, rfl, hn1, hn8, rfl, hb, he, hp⟩ := chk_zero h
 rw [h]
 have hres : ∀ v : Value, (n % 2 = 1 → v = .tuple #[.int .i64 0, .int .i64 16]) ∧ (n % 2 = 0 → DscP n f v) → ((0 : Int) ≠ 0 → v = .tuple #[.int .i64 0, .int .i64 0]) ∧ (∀ n' : Nat, (n : Int) = (n' : Int) → (0 : Int) = 0 → (n' % 2 = 1 → v = .tuple #[.int .i64 0, .int .i64 16]) ∧ (n' % 2 = 0 → DscP n' f v)) := fun v hv => ⟨fun h => absurd rfl h, fun n' e _ => by
  obtain rfl : n = n' := Int.ofNat.inj e
  exact hv⟩
 repeat (first|refine run_S ?_|refine w_box fun _=>?_|refine w_al fun _=>?_)
 rw [show (n : Int).tmod 2 = ((n % 2 : Nat) : Int) from rfl]
 refine st_ne rfl (fun h1 => ?_) (fun h1 => ?_)
 ·have hr := hres (tup [.int .i64 0, .int .i64 16]) ⟨fun _ => rfl, fun h2 => by omega⟩
  repeat (first|refine run_S ?_|refine w_box fun _=>?_|refine w_al fun _=>?_)
  exact sk_ret [] sym rfl (.cons (.tmp rfl) (.cons (.tmp rfl) .nil)) uc sb (.inl rfl) ⟨hr.1, hr.2, rfl⟩
 have hev : n % 2 = 0 := by omega
 replace hres := fun v hv => hres v ⟨fun h => by omega, fun _ => hv⟩
 have hdp := (pdm_pdf he hp).2.2 hn1
 obtain ⟨K, hK⟩ : ∃ K, K = dtn n f := ⟨_, rfl⟩
 have hKd : Lr.det n (gz n f) = (K : Int) := by rw [hK]; unfold dtn; omega
 have hK0 : 1 ≤ K := by omega
 have sK : Sz (K : Int) 3 := by
  rw [← hKd]
  exact Nat.lt_of_le_of_lt (La.det_bd hn8 fun i j hi hj => hb _ (ij_lt hi hj)) (by decide)
 obtain ⟨e, hee⟩ : ∃ e, e = sgd n := ⟨_, rfl⟩
 have heo := sgd_or n
 rw [← hee] at heo
 repeat (first|refine run_O ?_|refine w_box fun _=>?_|refine w_al fun _=>?_)
 refine st_seq ?_
 repeat (first|refine run_O ?_|refine w_box fun _=>?_|refine w_al fun _=>?_)
 refine st_seq_cut (fun E U' M' => True ∧ E = [(5, .int .i64 e), (1, .pointer (some ⟨b1, 0, none⟩)), (2, .int .i64 0), (3, .int .i64 0)] ∧ ULe U1 U' ∧ M' = (b1, .var (.agg #[.int .i64 (n : Int), .slice p (n * n) c]), 24) :: M) ?_ ?_
 ·try refine run_s ?_
  rw [show (n : Int).tmod 4 = ((n % 4 : Nat) : Int) from rfl]
  refine st_ne rfl (fun h2 => ?_) (fun h2 => ?_)
  ·have e1 : e = -1 := by rw [hee]; unfold sgd; rw [if_neg (by omega)]
   rw [e1]
   try refine run_s ?_
   exact sk_cut (E' := [(5, .int .i64 ((-1 : Int))), (1, .pointer (some ⟨b1, 0, none⟩)), (2, .int .i64 0), (3, .int .i64 0)]) ⟨rfl, rfl, rfl, rfl, trivial⟩ ⟨trivial, rfl, uc, rfl⟩
  ·have e1 : e = 1 := by rw [hee]; unfold sgd; rw [if_pos (by omega)]
   rw [e1]
   try refine run_s ?_
   exact sk_cut (E' := [(5, .int .i64 ((1 : Int))), (1, .pointer (some ⟨b1, 0, none⟩)), (2, .int .i64 0), (3, .int .i64 0)]) ⟨rfl, rfl, rfl, rfl, trivial⟩ ⟨trivial, rfl, uc, rfl⟩
 rintro E U4 M' ⟨-, rfl, hU4, rfl⟩
 repeat (first|refine run_S ?_|refine w_box fun _=>?_|refine w_al fun _=>?_)
 refine sl_call rfl rfl rfl rfl rfl rfl (fun _ => tdet_ct (rw1.up uc (List.nil_sublist _)) (el.up KeptC.out uc) rfl (fun k hk => by have := hb k hk; omega) hn8) ?_
 rintro v Uh35 D hU ⟨xh35, rfl, h35, rfl⟩
 repeat (first|refine run_S ?_|refine w_box fun _=>?_|refine w_al fun _=>?_)
 rename_i b6
 rw [List.nil_append]
 change xh35.nrm Uh35 [] (Lr.det n (gz n f)) at h35
 rw [hKd] at h35
 refine sl_call rfl rfl rfl rfl rfl rfl (fun _ => Primes_ct (n := 600) (by decide) (by decide)) ?_
 rintro v7 U7 D7 hU7 ⟨kp, P, _, rfl, ⟨pp, cp, ps, rfl, hcp, rp, ep⟩, hPr, rfl⟩
 try rw [List.nil_append]
 have hPb : ∀ k, k < kp → 2 ≤ P k ∧ P k ≤ 600 := fun k hk => ⟨(hPr.prm k hk).1.two, by have := (hPr.prm k hk).2; omega⟩
 have hPg := prl_ge hPr
 have hD0 : Dst K P 0 1 1 K := ⟨by omega, by decide, hK0, Fq.sqf_one, fun q h1 h2 => by
  have := h1.two
  have := Nat.le_of_dvd (by decide) h2
  omega, fun i hi => absurd hi (Nat.not_lt_zero i), by decide⟩
 have hLe : ∀ {a b : Nat}, a ≤ K → Sz (a : Int) 3 := fun {a b} h => by
  unfold Sz at sK ⊢
  omega
 have hz5 : (e : Int) = e * ((1 : Nat) : Int) := by omega
 try refine run_s ?_
 try refine st_anti (M' := (b6, .var xh35.v, TJ) :: (b1, .var (.agg #[.int .i64 (n : Int), .slice p (n * n) c]), 24) :: M) (ULe.refl _) sbk ?_
 refine st_loop (fun z E U' M' => ∃ (k Fn w lf : Nat) (fr : Int) (x : IV), k ≤ kp ∧ fr = e * (Fn : Int) ∧ Dst K P k Fn w lf ∧ x.nrm U' [] (lf : Int) ∧ E = [(42, .int .i64 (k : Int)), (41, .int .i64 (kp : Int)), (40, .slice pp kp cp), (6, .pointer (some ⟨b6, 0, none⟩)), (5, .int .i64 fr), (1, .pointer (some ⟨b1, 0, none⟩)), (2, .int .i64 0), (3, .int .i64 0)] ∧ ULe U7 U' ∧ M' = (b6, .var x.v, TJ) :: (b1, .var (.agg #[.int .i64 (n : Int), .slice p (n * n) c]), 24) :: M ∧ z = kp - k) (n0 := kp - 0) (E0 := [(42, .int .i64 ((0 : Nat) : Int)), (41, .int .i64 (kp : Int)), (40, .slice pp kp cp), (6, .pointer (some ⟨b6, 0, none⟩)), (5, .int .i64 e), (1, .pointer (some ⟨b1, 0, none⟩)), (2, .int .i64 0), (3, .int .i64 0)]) ⟨rfl, rfl, rfl, rfl, rfl, rfl, rfl, rfl, trivial⟩ ⟨0, 1, 1, K, e, xh35, Nat.zero_le kp, hz5, hD0, h35.up uc (List.Sublist.refl _), rfl, uc, rfl, rfl⟩ ?_
 rintro z E U8 M' ⟨k, Fn, w, lf, fr, x, hk, hfr, hD, hx, rfl, hU8, rfl, rfl⟩
 try refine run_s ?_
 refine st_dec rfl (fun h3 => ?_) (fun h3 => ?_)
 ·have hkp : k < kp := by omega
  obtain ⟨v1, hv1⟩ := rp.at hkp
  obtain rfl : v1 = .int .i64 (P k : Int) := ep _ _ hv1
  have hPk := hPb k hkp
  have hPk2 := hPg k hkp
  have hi0 : K = Fn * (w * w) * (if (false : Bool) = true then P k else 1) * lf := by
   rw [if_neg (by decide), Nat.mul_one]; exact hD.eq
  have hlf0 := hD.l0
  have hw0 := hD.w0
  try refine run_s ?_
  refine sl_y (yl_index sym rfl rfl rfl rfl rfl rfl ((rp.up uc sb).lt hv1) ((rp.up uc sb).get _ _ hv1).1) rfl rfl rfl rfl ?_; refine sl_y (yl_loadR1 sym rfl rfl rfl rfl (rp.up uc sb) hv1 rfl) rfl rfl rfl rfl ?_
  try refine run_s ?_
  try refine st_anti (M' := (b6, .var x.v, TJ) :: (b1, .var (.agg #[.int .i64 (n : Int), .slice p (n * n) c]), 24) :: M) (ULe.refl _) sbk ?_
  refine st_loop (fun z E U' M' => ∃ (w2 lf2 : Nat) (od : Bool) (x : IV), lf2 ∣ lf ∧ 0 < lf2 ∧ 0 < w2 ∧ K = Fn * (w2 * w2) * (if od = true then P k else 1) * lf2 ∧ x.nrm U' [] (lf2 : Int) ∧ E = [(11, .bool od), (10, .int .i64 ((P k) : Int)), (42, .int .i64 (k : Int)), (41, .int .i64 (kp : Int)), (40, .slice pp kp cp), (6, .pointer (some ⟨b6, 0, none⟩)), (5, .int .i64 fr), (1, .pointer (some ⟨b1, 0, none⟩)), (2, .int .i64 0), (3, .int .i64 0)] ∧ ULe U8 U' ∧ M' = (b6, .var x.v, TJ) :: (b1, .var (.agg #[.int .i64 (n : Int), .slice p (n * n) c]), 24) :: M ∧ z = lf2) (n0 := lf) (E0 := [(11, .bool false), (10, .int .i64 ((P k) : Int)), (42, .int .i64 (k : Int)), (41, .int .i64 (kp : Int)), (40, .slice pp kp cp), (6, .pointer (some ⟨b6, 0, none⟩)), (5, .int .i64 fr), (1, .pointer (some ⟨b1, 0, none⟩)), (2, .int .i64 0), (3, .int .i64 0)]) ⟨rfl, rfl, rfl, rfl, rfl, rfl, rfl, rfl, rfl, rfl, trivial⟩ ⟨w, lf, false, x, Nat.dvd_refl lf, hlf0, hw0, hi0, hx, rfl, uc, rfl, rfl⟩ ?_
  clear hx
  rintro z E U9 M' ⟨w2, lf2, od, x, hdv, h02, hw2, heq, hx, rfl, hU9, rfl, hzS⟩
  try refine run_s ?_
  have hlk : lf2 ≤ K := Nat.le_of_dvd hK0 ⟨_, by rw [heq, Nat.mul_comm]⟩
  have slf := hLe (b := 0) hlk
  have spk : Sz (P k : Int) 1 := by unfold Sz; omega
  try refine run_s ?_
  refine st_drawM [10, 11, 12] [0, 1, 2, 3, 4, 5, 6, 7, 8, 9, 10, 11, 12] sym (by kernel_rfl) ?_
  try refine run_s ?_
  refine sl_call rfl rfl rfl rfl rfl rfl (fun _ => (Of_ct (z := (P k : Int)) (by omega) (by omega)).settle) ?_
  rintro v Uh49 D hU ⟨rfl, _, _, ⟨xh49, rfl, h49, -⟩, -, -, hs⟩
  replace h49 := h49.sett hs
  clear hs
  repeat (first|refine run_S ?_|refine w_box fun _=>?_|refine w_al fun _=>?_)
  refine sl_call rfl rfl rfl rfl rfl rfl (fun _ => DivMod_st (hx.rep.up uc (List.nil_sublist _)) (hx.le slf (by decide)) (h49.rep.up uc (List.nil_sublist _)) (h49.le spk (by decide)) (by omega)) ?_
  rintro v50 U50 D50 hU50 ⟨q, r, rfl, hq, hr, rfl⟩
  rw [List.nil_append]
  have eq1 : (lf2 : Int) / (P k : Int) = ((lf2 / P k : Nat) : Int) := (Int.natCast_ediv ..).symm
  have er1 : (lf2 : Int) % (P k : Int) = ((lf2 % P k : Nat) : Int) := (Int.natCast_emod ..).symm
  have hrm : lf2 % P k < P k := Nat.mod_lt _ (by omega)
  have srm : Sz ((lf2 % P k : Nat) : Int) 1 := by unfold Sz; omega
  rw [eq1] at hq
  rw [er1] at hr
  repeat (first|refine run_S ?_|refine w_box fun _=>?_|refine w_al fun _=>?_)
  rename_i b12 b13
  refine sl_call rfl rfl rfl rfl rfl rfl (fun _ => Sign_ct (hr.rep.up uc (List.nil_sublist _)) (hr.le srm (by decide))) ?_
  rintro v U' D hU ⟨rfl, rfl, rfl⟩
  repeat (first|refine run_S ?_|refine w_box fun _=>?_|refine w_al fun _=>?_)
  refine st_ne rfl (fun h4 => ?_) (fun h4 => ?_)
  ·have hnd : ¬ P k ∣ lf2 := fun h5 => h4 (by rw [Nat.mod_eq_zero_of_dvd h5]; rfl)
   try refine run_s ?_
   cases od
   ·rw [if_neg (by decide)] at heq
    repeat (first|refine run_S ?_|refine w_box fun _=>?_|refine w_al fun _=>?_)
    refine sk_anti (M' := (b6, .var x.v, TJ) :: (b1, .var (.agg #[.int .i64 (n : Int), .slice p (n * n) c]), 24) :: M) (ULe.refl _) sbk ?_
    exact sk_again (E' := [(42, .int .i64 ((k : Int) + 1)), (41, .int .i64 (kp : Int)), (40, .slice pp kp cp), (6, .pointer (some ⟨b6, 0, none⟩)), (5, .int .i64 fr), (1, .pointer (some ⟨b1, 0, none⟩)), (2, .int .i64 0), (3, .int .i64 0)]) (m := kp - (k + 1)) ⟨rfl, rfl, rfl, rfl, rfl, rfl, rfl, rfl, trivial⟩ (by omega) ⟨k + 1, Fn, w2, lf2, fr, x, by omega, hfr, hD.next hdv h02 hw2 heq hnd, hx.up uc (List.Sublist.refl _), rfl, uc, rfl, rfl⟩
   ·rw [if_pos rfl] at heq
    obtain ⟨o1, o2, o3, o4⟩ := hD.odd hPr hkp hdv heq hnd
    have hFp : Fn * P k ≤ 600 * 600 := Nat.mul_le_mul hD.le hPk.2
    have hfp : fr * (P k : Int) = e * ((Fn * P k : Nat) : Int) := by rw [hfr, Int.natCast_mul, Int.mul_assoc]
    have hbig : 600 < Fn * P k → DscP n f (tup [.int .i64 0, .int .i64 7]) := fun h6 => .inr ⟨fun d hd => by
     rw [← hK]
     exact Fq.disc_none (c := 600) (sgd_or n) o2 hw2 o1 (fun q h7 h8 h9 => by
      obtain ⟨i, h10, h11⟩ := o3 q h7 h8
      exact o4 i h10 (by rw [h11]; exact h9)) h6 hd, rfl⟩
    have hfl : -360000 ≤ fr * (P k : Int) ∧ fr * (P k : Int) ≤ 360000 := by
     rw [hfp]
     rcases heo with rfl | rfl <;> omega
    repeat (first|refine run_S ?_|refine w_box fun _=>?_|refine w_al fun _=>?_)
    rw [hfp]
    refine sl_gdec rfl rfl (fun h5 => ?_) (fun h5 => ?_)
    ·have hr := hres _ (hbig (by rcases heo with rfl | rfl <;> omega))
     repeat (first|refine run_S ?_|refine w_box fun _=>?_|refine w_al fun _=>?_)
     exact sk_ret [] sym rfl (.cons (.tmp rfl) (.cons (.tmp rfl) .nil)) uc sb (.inl rfl) ⟨hr.1, hr.2, rfl⟩
    ·repeat (first|refine run_S ?_|refine w_box fun _=>?_|refine w_al fun _=>?_)
     refine st_dec rfl (fun h6 => ?_) (fun h6 => ?_)
     ·have hr := hres _ (hbig (by rcases heo with rfl | rfl <;> omega))
      repeat (first|refine run_S ?_|refine w_box fun _=>?_|refine w_al fun _=>?_)
      exact sk_ret [] sym rfl (.cons (.tmp rfl) (.cons (.tmp rfl) .nil)) uc sb (.inl rfl) ⟨hr.1, hr.2, rfl⟩
     ·repeat (first|refine run_S ?_|refine w_box fun _=>?_|refine w_al fun _=>?_)
      refine sk_anti (M' := (b6, .var x.v, TJ) :: (b1, .var (.agg #[.int .i64 (n : Int), .slice p (n * n) c]), 24) :: M) (ULe.refl _) sbk ?_
      exact sk_again (E' := [(42, .int .i64 ((k : Int) + 1)), (41, .int .i64 (kp : Int)), (40, .slice pp kp cp), (6, .pointer (some ⟨b6, 0, none⟩)), (5, .int .i64 (e * ((Fn * P k : Nat) : Int))), (1, .pointer (some ⟨b1, 0, none⟩)), (2, .int .i64 0), (3, .int .i64 0)]) (m := kp - (k + 1)) ⟨rfl, rfl, rfl, rfl, rfl, rfl, rfl, rfl, trivial⟩ (by omega) ⟨k + 1, Fn * P k, w2, lf2, e * ((Fn * P k : Nat) : Int), x, by omega, rfl, ⟨o2, hw2, h02, o1, o3, o4, by rcases heo with rfl | rfl <;> omega⟩, hx.up uc (List.Sublist.refl _), rfl, uc, rfl, rfl⟩
  ·have hmz : lf2 % P k = 0 := by
    rcases Nat.eq_zero_or_pos (lf2 % P k) with h5 | h5
    ·exact h5
    ·rw [Int.sign_eq_one_of_pos (by omega)] at h4
     exact absurd h4 (by decide)
   have hdm := Nat.div_add_mod lf2 (P k)
   rw [hmz, Nat.add_zero] at hdm
   have hq0 : 0 < lf2 / P k := by
    rcases Nat.eq_zero_or_pos (lf2 / P k) with h5 | h5
    ·rw [h5, Nat.mul_zero] at hdm; omega
    ·exact h5
   have hql : lf2 / P k < lf2 := Nat.div_lt_self h02 (by omega)
   have hqd : lf2 / P k ∣ lf := Nat.dvd_trans ⟨P k, by rw [Nat.mul_comm]; exact hdm.symm⟩ hdv
   repeat (first|refine run_S ?_|refine w_box fun _=>?_|refine w_al fun _=>?_)
   refine sk_anti (M' := (b6, .var q.v, TJ) :: (b1, .var (.agg #[.int .i64 (n : Int), .slice p (n * n) c]), 24) :: M) (ULe.refl _) sbk ?_
   cases od
   ·exact sk_again (E' := [(11, .bool true), (10, .int .i64 ((P k) : Int)), (42, .int .i64 (k : Int)), (41, .int .i64 (kp : Int)), (40, .slice pp kp cp), (6, .pointer (some ⟨b6, 0, none⟩)), (5, .int .i64 fr), (1, .pointer (some ⟨b1, 0, none⟩)), (2, .int .i64 0), (3, .int .i64 0)]) (m := (lf2 / P k)) ⟨rfl, rfl, rfl, rfl, rfl, rfl, rfl, rfl, rfl, rfl, trivial⟩ (by omega) ⟨w2, lf2 / P k, true, q, hqd, hq0, hw2, by rw [if_pos rfl, heq, if_neg (by decide), Nat.mul_one, Nat.mul_assoc (Fn * (w2 * w2)), hdm], hq, rfl, uc, rfl, rfl⟩
   ·have e7 : K = Fn * (w2 * P k * (w2 * P k)) * (if (false : Bool) = true then P k else 1) * (lf2 / P k) := by
     rw [if_pos rfl] at heq
     rw [if_neg (by decide), heq]
     generalize lf2 / P k = qn at hdm ⊢
     rw [← hdm]
     simp only [Nat.mul_one, Nat.mul_left_comm, Nat.mul_comm]
    exact sk_again (E' := [(11, .bool false), (10, .int .i64 ((P k) : Int)), (42, .int .i64 (k : Int)), (41, .int .i64 (kp : Int)), (40, .slice pp kp cp), (6, .pointer (some ⟨b6, 0, none⟩)), (5, .int .i64 fr), (1, .pointer (some ⟨b1, 0, none⟩)), (2, .int .i64 0), (3, .int .i64 0)]) (m := (lf2 / P k)) ⟨rfl, rfl, rfl, rfl, rfl, rfl, rfl, rfl, rfl, rfl, trivial⟩ (by omega) ⟨w2 * P k, lf2 / P k, false, q, hqd, hq0, Nat.mul_pos hw2 (by omega), e7, hq, rfl, uc, rfl, rfl⟩
 ·obtain rfl : kp = k := by omega
  have hlk : lf ≤ K := Nat.le_of_dvd hK0 ⟨_, by rw [hD.eq, Nat.mul_comm]⟩
  have slf := hLe (b := 0) hlk
  have hfin : ∀ a : Nat, a ≤ 600 → (Fq.Cnd K e e a ↔ (∃ v, lf = v * v) ∧ e = e ∧ a = if (e * (Fn : Int)) % 4 = 1 then Fn else 4 * Fn) := fun a ha => Fq.disc_some (c := 600) heo hD.eq hD.w0 hD.sq (fun q h6 h7 => by
   have := Nat.le_of_dvd hD.sq.1 h7
   have := hD.le
   omega) (fun q h6 h7 h8 => by
   obtain ⟨i, h9, h10⟩ := hPr.all q h6 (by omega)
   exact hD.no i h9 (by rw [h10]; exact h8)) hD.l0 ha
  repeat (first|refine run_S ?_|refine w_box fun _=>?_|refine w_al fun _=>?_)
  refine sl_call rfl rfl rfl rfl rfl rfl (fun _ => tSqrt_st (hx.rep.up uc (List.nil_sublist _)) (hx.le slf (by decide)) (by omega)) ?_
  rintro v73 U73 D73 hU73 ⟨rt, bs, rfl, hrt, hbs, rfl⟩
  try rw [List.nil_append]
  have hf6 := hD.le
  have hf1 := hD.sq.1
  cases bs
  ·have hno : ∀ d : Nat, d ≤ 600 → ¬ Fq.Cnd K e e d := fun a ha hC => by
    obtain ⟨⟨v, hv⟩, -⟩ := (hfin a ha).1 hC
    have := hbs.2 (by
     rw [Int.natAbs_natCast, hv, ← Bx.isq_at (A := v * v) (R := v) (Nat.le_refl _) (by rw [Nat.add_mul, Nat.mul_add]; omega)])
    cases this
   have hr := hres (tup [.int .i64 0, .int .i64 7]) (.inr ⟨fun a ha => by rw [← hK, ← hee]; exact hno a ha, rfl⟩)
   repeat (first|refine run_S ?_|refine w_box fun _=>?_|refine w_al fun _=>?_)
   exact sk_ret [] sym rfl (.cons (.tmp rfl) (.cons (.tmp rfl) .nil)) uc sb (.inl rfl) ⟨hr.1, hr.2, rfl⟩
  have hsq : ∃ v, lf = v * v := ⟨_, (hbs.1 rfl).symm⟩
  replace hfin : ∀ a : Nat, a ≤ 600 → (Fq.Cnd K e e a ↔ a = if (e * (Fn : Int)) % 4 = 1 then Fn else 4 * Fn) := fun a ha => (hfin a ha).trans ⟨fun h => h.2.2, fun h => ⟨hsq, rfl, h⟩⟩
  obtain ⟨dd, hdd⟩ : ∃ dd, dd = if (e * (Fn : Int)) % 4 = 1 then Fn else 4 * Fn := ⟨_, rfl⟩
  rw [← hdd] at hfin
  have hdb : 1 ≤ dd ∧ dd ≤ 2400 := by rw [hdd]; split <;> omega
  have hmod : (fr.tmod 4 + 4).tmod 4 = fr % 4 ∧ -4 < fr.tmod 4 ∧ fr.tmod 4 < 4 := by
   have e1 : fr.tmod 4 = if 0 ≤ fr then fr % 4 else -((-fr) % 4) := by
    split
    ·rename_i h; exact Int.tmod_eq_emod_of_nonneg h
    ·rename_i h
     have := Int.tmod_eq_emod_of_nonneg (a := -fr) (b := 4) (by omega)
     rw [Int.neg_tmod] at this
     omega
   have e2 : -4 < fr.tmod 4 ∧ fr.tmod 4 < 4 := by rw [e1]; omega
   refine ⟨?_, e2⟩
   rw [Int.tmod_eq_emod_of_nonneg (by omega), e1]
   omega
  have hfb : -600 ≤ fr ∧ fr ≤ 600 := by rcases heo with rfl | rfl <;> omega
  repeat (first|refine run_O ?_|refine w_box fun _=>?_|refine w_al fun _=>?_)
  refine st_seq ?_
  repeat (first|refine run_O ?_|refine w_box fun _=>?_|refine w_al fun _=>?_)
  rename_i b15
  refine st_seq_cut (fun E U' M' => ∃ (y : Int), y = e * (dd : Int) ∧ E = [(5, .int .i64 y), (1, .pointer (some ⟨b1, 0, none⟩)), (2, .int .i64 0), (3, .int .i64 0)] ∧ ULe U73 U' ∧ M' = (b15, .var rt.v, TJ) :: (b6, .var x.v, TJ) :: (b1, .var (.agg #[.int .i64 (n : Int), .slice p (n * n) c]), 24) :: M) ?_ ?_
  ·try refine run_s ?_
   refine st_ne rfl (fun h5 => ?_) (fun h5 => ?_)
   ·have e5 : e * (dd : Int) = fr * 4 := by
     rw [hmod.1, hfr] at h5
     rw [hdd, if_neg h5, hfr, Int.natCast_mul, Int.mul_assoc]
     exact congrArg _ (Int.mul_comm _ _)
    try refine run_s ?_
    exact sk_cut (E' := [(5, .int .i64 ((fr * 4))), (1, .pointer (some ⟨b1, 0, none⟩)), (2, .int .i64 0), (3, .int .i64 0)]) ⟨rfl, rfl, rfl, rfl, trivial⟩ ⟨(fr * 4), e5.symm, rfl, uc, rfl⟩
   ·have e5 : e * (dd : Int) = fr := by
     rw [hmod.1, hfr] at h5
     rw [hdd, if_pos h5, hfr]
    try refine run_s ?_
    exact sk_cut (E' := [(5, .int .i64 fr), (1, .pointer (some ⟨b1, 0, none⟩)), (2, .int .i64 0), (3, .int .i64 0)]) ⟨rfl, rfl, rfl, rfl, trivial⟩ ⟨fr, e5.symm, rfl, uc, rfl⟩
  rintro E U74 M' ⟨y, hy, rfl, hU74, rfl⟩
  have hyb : -2400 ≤ y ∧ y ≤ 2400 := by rw [hy]; rcases heo with rfl | rfl <;> omega
  have hbig : 600 < dd → DscP n f (tup [.int .i64 0, .int .i64 7]) := fun h6 => .inr ⟨fun a ha => by
   rw [← hK, ← hee]
   exact fun hC => by have := (hfin a ha).1 hC; omega, rfl⟩
  try refine run_s ?_
  refine sl_gdec rfl rfl (fun h5 => ?_) (fun h5 => ?_)
  ·have hr := hres _ (hbig (by rcases heo with rfl | rfl <;> omega))
   repeat (first|refine run_S ?_|refine w_box fun _=>?_|refine w_al fun _=>?_)
   exact sk_ret [] sym rfl (.cons (.tmp rfl) (.cons (.tmp rfl) .nil)) uc sb (.inl rfl) ⟨hr.1, hr.2, rfl⟩
  ·try refine run_s ?_
   refine st_dec rfl (fun h6 => ?_) (fun h6 => ?_)
   ·have hr := hres _ (hbig (by rcases heo with rfl | rfl <;> omega))
    repeat (first|refine run_S ?_|refine w_box fun _=>?_|refine w_al fun _=>?_)
    exact sk_ret [] sym rfl (.cons (.tmp rfl) (.cons (.tmp rfl) .nil)) uc sb (.inl rfl) ⟨hr.1, hr.2, rfl⟩
   ·have hr := hres (tup [.int .i64 y, .int .i64 0]) (.inl ⟨dd, hdb.1, by rcases heo with rfl | rfl <;> omega, fun a ha => by rw [← hK, ← hee]; exact hfin a ha, by rw [← hee, ← hy]; rfl⟩)
    repeat (first|refine run_S ?_|refine w_box fun _=>?_|refine w_al fun _=>?_)
    exact sk_ret [] sym rfl (.cons (.tmp rfl) (.cons (.tmp rfl) .nil)) uc sb (.inl rfl) ⟨hr.1, hr.2, rfl⟩
end Go.Proofs.YtjfkodlddladhaaGreat

/- Walks of layer 36's reference: even, Level. -/
namespace Go.Proofs.YtjfkodlddladhaaGreat
open Go.Hp
variable {G : World} {U U' : UH} {M : MH}
def dle (A : Nat → Nat → Rat) (i k : Nat) : Rat := if i = k then A i k * ((1 : Rat) / 2) else A i k
theorem r36even_ct {n m : Nat} {v : Value} {A : Nat → Nat → Rat} (h : Ls (Vr n) 1 n U M v A) (hA : ∀ i j, i < n → j < n → Szq (A i j) 3) (hn : n ≤ 8) (hm : m ≤ 600) :
  Ct Tryz.prog 99 [v, .int .i64 (m : Int)] G U M fun v U' D => ∃ b : Bool, v = .bool b ∧ (b = true ↔ ∀ i k, i < n → k < n → (((m : Int) : Rat) * dle A i k).den = 1) ∧ ULe U U' ∧ D = [] := by
 obtain ⟨p, c, vs, rfl, hc, rx, ex⟩ := h
 refine ct_of_st Tryz.func99 rfl rfl rfl rfl ?_
 repeat (first|refine run_S ?_|refine w_box fun _=>?_|refine w_al fun _=>?_)
 try refine st_anti (M' := M) (ULe.refl _) sbk ?_
 refine st_loop (fun z E U' M' => ∃ (i : Nat), i ≤ n ∧ (∀ a k, a < i → k < n → (((m : Int) : Rat) * dle A a k).den = 1) ∧ E = [(5, .int .i64 (i : Int)), (1, .int .i64 (m : Int)), (0, .slice p n c), (4, .bool false)] ∧ ULe U U' ∧ M' = M ∧ z = n - i) (n0 := n - 0) (E0 := [(5, .int .i64 ((0 : Nat) : Int)), (1, .int .i64 (m : Int)), (0, .slice p n c), (4, .bool false)]) ⟨rfl, rfl, rfl, rfl, trivial⟩ ⟨0, by omega, (fun a k h => absurd h (Nat.not_lt_zero a)), rfl, uc, rfl, rfl⟩ ?_
 rintro z E U1 M' ⟨i, hi, hall, rfl, hU1, hMM, rfl⟩
 obtain rfl : M = M' := hMM.symm
 try refine run_s ?_
 refine st_dec rfl (fun h1 => ?_) (fun h1 => ?_)
 ·have hin : i < n := by omega
  try refine run_s ?_
  try refine st_anti (M' := M) (ULe.refl _) sbk ?_
  refine st_loop (fun z E U' M' => ∃ (k : Nat), k ≤ n ∧ (∀ a, a < k → (((m : Int) : Rat) * dle A i a).den = 1) ∧ E = [(6, .int .i64 (k : Int)), (5, .int .i64 (i : Int)), (1, .int .i64 (m : Int)), (0, .slice p n c), (4, .bool false)] ∧ ULe U U' ∧ M' = M ∧ z = n - k) (n0 := n - 0) (E0 := [(6, .int .i64 ((0 : Nat) : Int)), (5, .int .i64 (i : Int)), (1, .int .i64 (m : Int)), (0, .slice p n c), (4, .bool false)]) ⟨rfl, rfl, rfl, rfl, rfl, trivial⟩ ⟨0, by omega, (fun a h => absurd h (Nat.not_lt_zero a)), rfl, uc, rfl, rfl⟩ ?_
  rintro z E U2 M' ⟨k, hk, hrow, rfl, hU2, hMM, rfl⟩
  obtain rfl : M = M' := hMM.symm
  try refine run_s ?_
  refine st_dec rfl (fun h2 => ?_) (fun h2 => ?_)
  ·have hkn : k < n := by omega
   obtain ⟨v1, hv1⟩ := rx.at hin
   obtain ⟨q1, c1, xs1, rfl, hc1, rr, er⟩ := ex _ _ hv1
   obtain ⟨v2, hv2⟩ := rr.at hkn
   obtain ⟨x1, rfl, hx1⟩ := er _ _ hv2
   have s1 := hA i k hin hkn
   have s23 : Szq ((m : Int) : Rat) 1 := szq_int (by unfold Sz; omega) (by decide)
   have s31 := s23.mul s1
   try refine run_s ?_
   refine st_drawM [11] [0, 2, 3, 4, 5, 6, 7, 8, 1, 9, 10, 11] sym (by kernel_rfl) ?_
   try refine run_s ?_
   refine sl_y (yl_index sym rfl rfl rfl rfl rfl rfl ((rx.up uc sb).lt hv1) ((rx.up uc sb).get _ _ hv1).1) rfl rfl rfl rfl ?_; refine sl_y (yl_loadR1 sym rfl rfl rfl rfl (rx.up uc sb) hv1 rfl) rfl rfl rfl rfl ?_
   try refine run_s ?_
   refine sl_y (yl_index sym rfl rfl rfl rfl rfl rfl ((rr.up uc sb).lt hv2) ((rr.up uc sb).get _ _ hv2).1) rfl rfl rfl rfl ?_; refine sl_y (yl_loadRs sym rfl rfl rfl rfl rfl (rr.up uc sb) hv2) rfl rfl rfl rfl ?_
   try refine run_s ?_
   refine sl_call rfl rfl rfl rfl rfl rfl (fun _ => (bQ_ct (z := (m : Int)) (by omega) (by omega)).settle) ?_
   rintro v Uh23 D hU ⟨rfl, _, _, ⟨xh23, rfl, h23, -⟩, -, -, hs⟩
   replace h23 := h23.sett hs
   clear hs
   repeat (first|refine run_S ?_|refine w_box fun _=>?_|refine w_al fun _=>?_)
   refine sl_call rfl rfl rfl rfl rfl rfl (fun _ => rqMul_ct (h23.rep.up uc (List.nil_sublist _)) (h23.le s23 (by decide)) (hx1.rep.up uc (List.nil_sublist _)) (hx1.le s1 (by decide))) ?_
   rintro v Uh31 D hU ⟨xh31, rfl, h31, rfl⟩
   repeat (first|refine run_O ?_|refine w_box fun _=>?_|refine w_al fun _=>?_)
   rename_i b7
   rw [List.nil_append, List.nil_append]
   refine st_seq_cut (fun E U' M' => ∃ (y : QV), y.nrm U' [] (((m : Int) : Rat) * dle A i k) ∧ Szq (((m : Int) : Rat) * dle A i k) 6 ∧ E = [(7, .pointer (some ⟨b7, 0, none⟩)), (6, .int .i64 (k : Int)), (5, .int .i64 (i : Int)), (1, .int .i64 (m : Int)), (0, .slice p n c), (4, .bool false)] ∧ ULe Uh31 U' ∧ M' = (b7, .var y.v, TR) :: M) ?_ ?_
   ·try refine run_s ?_
    refine st_dec rfl (fun h3 => ?_) (fun h3 => ?_)
    ·have e1 : dle A i k = A i k * ((1 : Rat) / 2) := if_pos (Int.ofNat.inj h3)
     rw [e1, ← Rat.mul_assoc]
     have s36 : Szq (Rat.divInt ((1 : Nat) : Int) ((2 : Nat) : Int)) 1 := by
      refine szq_div ?_ ?_ (by decide) <;> unfold Sz <;> decide
     have e2 : Rat.divInt ((1 : Nat) : Int) ((2 : Nat) : Int) = (1 : Rat) / 2 := Rat.divInt_eq_div 1 2
     have s37 := s31.mul s36
     try refine run_s ?_
     refine st_drawM [2, 3] [0, 1, 2, 3] sym (by kernel_rfl) ?_
     try refine run_s ?_
     refine sl_call rfl rfl rfl rfl rfl rfl (fun _ => bFrac_ct (n := 1) (d := 2) (by decide) (by decide) (by decide)) ?_
     rintro v Uh36 D hU ⟨xh36, rfl, h36, rfl⟩
     repeat (first|refine run_S ?_|refine w_box fun _=>?_|refine w_al fun _=>?_)
     refine sl_call rfl rfl rfl rfl rfl rfl (fun _ => rqMul_ct (h31.rep.up uc (List.nil_sublist _)) (h31.le s31 (by decide)) (h36.rep.up uc (List.nil_sublist _)) (h36.le s36 (by decide))) ?_
     rintro v Uh37 D hU ⟨xh37, rfl, h37, rfl⟩
     repeat (first|refine run_S ?_|refine w_box fun _=>?_|refine w_al fun _=>?_)
     rw [e2] at h37 s37
     exact sk_cut (E' := [(7, .pointer (some ⟨b7, 0, none⟩)), (6, .int .i64 (k : Int)), (5, .int .i64 (i : Int)), (1, .int .i64 (m : Int)), (0, .slice p n c), (4, .bool false)]) ⟨rfl, rfl, rfl, rfl, rfl, rfl, trivial⟩ ⟨xh37, h37, s37.mono (by decide), rfl, uc, rfl⟩
    ·have e1 : dle A i k = A i k := if_neg (fun e => h3 (by rw [e]))
     rw [e1]
     try refine run_s ?_
     exact sk_cut (E' := [(7, .pointer (some ⟨b7, 0, none⟩)), (6, .int .i64 (k : Int)), (5, .int .i64 (i : Int)), (1, .int .i64 (m : Int)), (0, .slice p n c), (4, .bool false)]) ⟨rfl, rfl, rfl, rfl, rfl, rfl, trivial⟩ ⟨xh31, h31, s31.mono (by decide), rfl, uc, rfl⟩
   rintro E U4 M' ⟨y, hy, sy, rfl, hU4, rfl⟩
   repeat (first|refine run_S ?_|refine w_box fun _=>?_|refine w_al fun _=>?_)
   refine sl_call rfl rfl rfl rfl rfl rfl (fun _ => rqInteger_ct (hy.rep.up uc (List.nil_sublist _)) (hy.le sy (by decide))) ?_
   rintro v9 U9 D9 hU9 ⟨w9, bb, rfl, hyes, hno, rfl⟩
   rw [List.nil_append]
   by_cases hden : (((m : Int) : Rat) * dle A i k).den = 1
   ·obtain ⟨rfl, -⟩ := hyes hden
    repeat (first|refine run_S ?_|refine w_box fun _=>?_|refine w_al fun _=>?_)
    rename_i b8
    refine sk_anti (M' := M) (ULe.refl _) sbk ?_
    exact sk_again (E' := [(6, .int .i64 ((k : Int) + 1)), (5, .int .i64 (i : Int)), (1, .int .i64 (m : Int)), (0, .slice p n c), (4, .bool false)]) (m := n - (k + 1)) ⟨rfl, rfl, rfl, rfl, rfl, trivial⟩ (by omega) ⟨k + 1, by omega, (fun a ha => by
     rcases Nat.lt_or_eq_of_le (Nat.le_of_lt_succ ha) with h5 | h5
     ·exact hrow a h5
     ·rw [h5]; exact hden), rfl, uc, rfl, rfl⟩
   ·obtain ⟨rfl, -⟩ := hno hden
    repeat (first|refine run_S ?_|refine w_box fun _=>?_|refine w_al fun _=>?_)
    exact sk_ret [] sym rfl (.cons (.tmp rfl) .nil) uc sb (.inl rfl) ⟨false, rfl, ⟨(fun h => by cases h), fun h => absurd (h i k hin hkn) hden⟩, uc, rfl⟩
  ·obtain rfl : n = k := by omega
   try refine run_s ?_
   exact sk_again (E' := [(5, .int .i64 ((i : Int) + 1)), (1, .int .i64 (m : Int)), (0, .slice p n c), (4, .bool false)]) (m := n - (i + 1)) ⟨rfl, rfl, rfl, rfl, trivial⟩ (by omega) ⟨i + 1, by omega, (fun a k ha hk => by
    rcases Nat.lt_or_eq_of_le (Nat.le_of_lt_succ ha) with h5 | h5
    ·exact hall a k h5 hk
    ·rw [h5]; exact hrow k hk), rfl, uc, rfl, rfl⟩
 obtain rfl : n = i := by omega
 repeat (first|refine run_S ?_|refine w_box fun _=>?_|refine w_al fun _=>?_)
 exact sk_ret [] sym rfl (.cons (.tmp rfl) .nil) uc sb (.inl rfl) ⟨true, rfl, ⟨fun _ => hall, fun _ => rfl⟩, uc, rfl⟩
end Go.Proofs.YtjfkodlddladhaaGreat

/- Walks of layer 36's reference: Level. -/
namespace Go.Proofs.YtjfkodlddladhaaGreat
open Go.Hp
variable {G : World} {U U' : UH} {M : MH}
theorem dlv_dle {n i k : Nat} {X : Nat → Nat → Rat} (hk : k < n) : dlv n X (i * n + k) = (dle X i k).den := by
 have e1 : (i * n + k) / n = i := by rw [Nat.mul_comm, Nat.mul_add_div (by omega), Nat.div_eq_of_lt hk]; rfl
 have e2 : (i * n + k) % n = k := by rw [Nat.mul_comm, Nat.mul_add_mod, Nat.mod_eq_of_lt hk]
 have e3 : fl n X (i * n + k) = X i k := by show X ((i * n + k) / n) ((i * n + k) % n) = _; rw [e1, e2]
 unfold dlv dle
 rw [e1, e2, e3]
theorem even_iff {n m : Nat} {X : Nat → Nat → Rat} : (∀ i k, i < n → k < n → (((m : Int) : Rat) * dle X i k).den = 1) ↔ Fq.lv (dlv n X) (n * n) ∣ m := by
 rw [Fq.lv_dvd]
 constructor
 ·intro h j hj
  obtain ⟨h1, h2⟩ := fl_lt hj
  have h3 := Fq.den_one.1 (h _ _ h1 h2)
  have h4 := dlv_dle (i := j / n) (X := X) h2
  rw [Nat.mul_comm, Nat.div_add_mod] at h4
  rw [h4]
  exact Int.natCast_dvd_natCast.1 h3
 ·intro h i k hi hk
  refine Fq.den_one.2 (Int.natCast_dvd_natCast.2 ?_)
  rw [← dlv_dle hk]
  exact h _ (ij_lt hi hk)
theorem r36Level_ct {r : Int} {N c : Nat} {p : Option Addr} {vs : List Value} {f : Nat → Int} (rw1 : RowAt U [] 1 p N vs) (el : El Vz U vs f) (hc : N ≤ c) (hN : N ≤ 9223372036854775807) :
  Ct Tryz.prog 40 [.agg #[.int .i64 r, .slice p N c]] G U M fun v U' D => (chk r N f ≠ 0 → v = .tuple #[.int .i64 0, .int .i64 (chk r N f)]) ∧ (∀ n : Nat, r = (n : Int) → chk r N f = 0 → ∀ X : Nat → Nat → Rat, Inv n f X →
   v = if Fq.lv (dlv n X) (n * n) ≤ 600 then .tuple #[.int .i64 (Fq.lv (dlv n X) (n * n) : Int), .int .i64 0] else .tuple #[.int .i64 0, .int .i64 7]) ∧ D = [] := by
 refine ct_of_st Tryz.func40 rfl rfl rfl rfl ?_
 repeat (first|refine run_S ?_|refine w_box fun _=>?_|refine w_al fun _=>?_)
 rename_i b1
 refine sl_call rfl rfl rfl rfl rfl rfl (fun _ => r36Check_ct (rw1.up uc (List.nil_sublist _)) (el.up KeptC.out uc) hc hN) ?_
 rintro v1 U1 D hU1 ⟨rfl, -, rfl⟩
 rw [List.nil_append]
 repeat (first|refine run_S ?_|refine w_box fun _=>?_|refine w_al fun _=>?_)
 refine st_ne rfl (fun h => ?_) (fun h => ?_)
 ·repeat (first|refine run_S ?_|refine w_box fun _=>?_|refine w_al fun _=>?_)
  exact sk_ret [] sym rfl (.cons (.tmp rfl) (.cons (.tmp rfl) .nil)) uc sb (.inl rfl) ⟨fun _ => rfl, fun _ _ h0 => absurd h0 h, rfl⟩
 obtain ⟨n, rfl, hn1, hn8, rfl, hb, he, hp⟩ := chk_zero h
 rw [h]
 have hnn : n * n ≤ 8 * 8 := Nat.mul_le_mul hn8 hn8
 obtain ⟨X, hX⟩ := inv_ex hb he hp hn1 hn8
 have hres : ∀ v : Value, (v = if Fq.lv (dlv n X) (n * n) ≤ 600 then .tuple #[.int .i64 (Fq.lv (dlv n X) (n * n) : Int), .int .i64 0] else .tuple #[.int .i64 0, .int .i64 7]) → ((0 : Int) ≠ 0 → v = .tuple #[.int .i64 0, .int .i64 0]) ∧ (∀ n' : Nat, (n : Int) = (n' : Int) → (0 : Int) = 0 → ∀ X : Nat → Nat → Rat, Inv n' f X →
   v = if Fq.lv (dlv n' X) (n' * n') ≤ 600 then .tuple #[.int .i64 (Fq.lv (dlv n' X) (n' * n') : Int), .int .i64 0] else .tuple #[.int .i64 0, .int .i64 7]) := fun v hv => ⟨fun h => absurd rfl h, fun n' e _ Y hY => by
  obtain rfl : n = n' := Int.ofNat.inj e
  have : Fq.lv (dlv n Y) (n * n) = Fq.lv (dlv n X) (n * n) := by
   refine Nat.dvd_antisymm (even_iff.1 fun i k hi hk => ?_) (even_iff.1 fun i k hi hk => ?_)
   ·have h2 := even_iff.2 (Nat.dvd_refl (Fq.lv (dlv n X) (n * n))) i k hi hk
    rw [show dle Y i k = dle X i k by unfold dle; rw [hY.uniq hX hi hk]]
    exact h2
   ·have h2 := even_iff.2 (Nat.dvd_refl (Fq.lv (dlv n Y) (n * n))) i k hi hk
    rw [show dle X i k = dle Y i k by unfold dle; rw [hY.uniq hX hi hk]]
    exact h2
  rw [this]
  exact hv⟩
 have hlp : 1 ≤ Fq.lv (dlv n X) (n * n) := Fq.lv_pos fun j _ => dlv_pos j
 repeat (first|refine run_S ?_|refine w_box fun _=>?_|refine w_al fun _=>?_)
 try refine st_anti (M' := (b1, .var (.agg #[.int .i64 (n : Int), .slice p (n * n) c]), 24) :: (([]) ++ M)) (ULe.refl _) sbk ?_
 refine st_loop (fun z E U' M' => ∃ (i : Nat) (Q : Option Addr) (C : Nat) (us : List Value) (D : MH), i ≤ n ∧ RowO TRs 1 D Q i C us ∧ El (Vr n) U' us X ∧ E = [(6, .int .i64 (i : Int)), (5, .slice Q i C), (1, .pointer (some ⟨b1, 0, none⟩)), (2, .int .i64 0), (3, .int .i64 0)] ∧ ULe U1 U' ∧ M' = (b1, .var (.agg #[.int .i64 (n : Int), .slice p (n * n) c]), 24) :: (D ++ M) ∧ z = n - i) (n0 := n - 0) (E0 := [(6, .int .i64 ((0 : Nat) : Int)), (5, .slice none 0 0), (1, .pointer (some ⟨b1, 0, none⟩)), (2, .int .i64 0), (3, .int .i64 0)]) ⟨rfl, rfl, rfl, rfl, rfl, trivial⟩ ⟨0, none, 0, [], [], by omega, RowO.nil, El.nil, rfl, uc, rfl, rfl⟩ ?_
 rintro z E U2 M' ⟨i, Q, C, us, D, hi, hrow, hel, rfl, hU2, rfl, rfl⟩
 try refine run_s ?_
 refine st_dec rfl (fun h1 => ?_) (fun h1 => ?_)
 ·have hin : i < n := by omega
  try refine run_s ?_
  try refine st_anti (M' := (b1, .var (.agg #[.int .i64 (n : Int), .slice p (n * n) c]), 24) :: (([]) ++ (D ++ M))) (ULe.refl _) sbk ?_
  refine st_loop (fun z E U' M' => ∃ (k : Nat) (q : Option Addr) (c' : Nat) (xs : List Value) (Dr : MH), k ≤ n ∧ RowO TR 4 Dr q k c' xs ∧ El Vq U' xs (X i) ∧ E = [(8, .int .i64 (k : Int)), (7, .slice q k c'), (6, .int .i64 (i : Int)), (5, .slice Q i C), (1, .pointer (some ⟨b1, 0, none⟩)), (2, .int .i64 0), (3, .int .i64 0)] ∧ ULe U2 U' ∧ M' = (b1, .var (.agg #[.int .i64 (n : Int), .slice p (n * n) c]), 24) :: (Dr ++ (D ++ M)) ∧ z = n - k) (n0 := n - 0) (E0 := [(8, .int .i64 ((0 : Nat) : Int)), (7, .slice none 0 0), (6, .int .i64 (i : Int)), (5, .slice Q i C), (1, .pointer (some ⟨b1, 0, none⟩)), (2, .int .i64 0), (3, .int .i64 0)]) ⟨rfl, rfl, rfl, rfl, rfl, rfl, rfl, trivial⟩ ⟨0, none, 0, [], [], by omega, RowO.nil, El.nil, rfl, uc, rfl, rfl⟩ ?_
  rintro z E U3 M' ⟨k, q, c', xs, Dr, hk, hrow2, hel2, rfl, hU3, rfl, rfl⟩
  try refine run_s ?_
  refine st_dec rfl (fun h2 => ?_) (fun h2 => ?_)
  ·have hkn : k < n := by omega
   try refine run_s ?_
   refine sl_call rfl rfl rfl rfl rfl rfl (fun _ => r36Inverse_ct (rw1.up uc (List.nil_sublist _)) (el.up KeptC.out uc) hb he hp hn1 hn8 hc hin hkn hX) ?_
   rintro v Uh31 D hU ⟨xh31, rfl, h31, rfl⟩
   repeat (first|refine run_S ?_|refine w_box fun _=>?_|refine w_al fun _=>?_)
   refine w_push hrow2 (X := (b1, .var (.agg #[.int .i64 (n : Int), .slice p (n * n) c]), 24) :: (D ++ M)) pgj (fun b q2 c2 D2 hr2 => ?_)
   refine sl_perm (M' := (b1, .var (.agg #[.int .i64 (n : Int), .slice p (n * n) c]), 24) :: (D2 ++ (D ++ M))) ?_ pgj
   try refine run_s ?_
   exact sk_again (E' := [(8, .int .i64 ((k : Int) + 1)), (7, .slice q2 (k + 1) c2), (6, .int .i64 (i : Int)), (5, .slice Q i C), (1, .pointer (some ⟨b1, 0, none⟩)), (2, .int .i64 0), (3, .int .i64 0)]) (m := n - (k + 1)) ⟨rfl, rfl, rfl, rfl, rfl, rfl, rfl, trivial⟩ (by omega) ⟨k + 1, q2, c2, _, D2, by omega, hr2, snoc_ok hrow2.len.1 (hel2.up kept_q uc) ⟨xh31, rfl, h31⟩, rfl, uc, rfl, rfl⟩
  ·obtain rfl : n = k := by omega
   try refine run_s ?_
   refine w_push hrow (X := (b1, .var (.agg #[.int .i64 (n : Int), .slice p (n * n) c]), 24) :: (Dr ++ M)) pgj (fun b2 P2 C2 D2 hr2 => ?_)
   try refine run_s ?_
   refine sk_perm (M' := Dr ++ ((b1, .var (.agg #[.int .i64 (n : Int), .slice p (n * n) c]), 24) :: (D2 ++ M))) pgj ?_
   refine sk_setE fun U4 hU4 hs4 => ?_
   exact sk_again (E' := [(6, .int .i64 ((i : Int) + 1)), (5, .slice P2 (i + 1) C2), (1, .pointer (some ⟨b1, 0, none⟩)), (2, .int .i64 0), (3, .int .i64 0)]) (m := n - (i + 1)) ⟨rfl, rfl, rfl, rfl, rfl, trivial⟩ (by omega) ⟨i + 1, P2, C2, _, D2, by omega, hr2, snoc_ok hrow.len.1 (hel.up kept_r uc) ⟨q, c', xs, rfl, hrow2.len.2.1, hrow2.sett hs4, hel2.up kept_q uc⟩, rfl, uc, rfl, rfl⟩
 ·obtain rfl : n = i := by omega
  try refine run_s ?_
  try refine st_anti (M' := (b1, .var (.agg #[.int .i64 (n : Int), .slice p (n * n) c]), 24) :: (D ++ M)) (ULe.refl _) sbk ?_
  refine st_loop (fun z E U' M' => ∃ (m : Nat), 1 ≤ m ∧ m ≤ 601 ∧ (∀ a, 1 ≤ a → a < m → ¬ Fq.lv (dlv n X) (n * n) ∣ a) ∧ E = [(9, .int .i64 (m : Int)), (5, .slice Q n C), (1, .pointer (some ⟨b1, 0, none⟩)), (2, .int .i64 0), (3, .int .i64 0)] ∧ ULe U2 U' ∧ M' = (b1, .var (.agg #[.int .i64 (n : Int), .slice p (n * n) c]), 24) :: (D ++ M) ∧ z = 601 - m) (n0 := 601 - 1) (E0 := [(9, .int .i64 ((1 : Nat) : Int)), (5, .slice Q n C), (1, .pointer (some ⟨b1, 0, none⟩)), (2, .int .i64 0), (3, .int .i64 0)]) ⟨rfl, rfl, rfl, rfl, rfl, trivial⟩ ⟨1, by decide, by decide, (fun a h1 h2 => by omega), rfl, uc, rfl, rfl⟩ ?_
  rintro z E U3 M' ⟨m, hm1, hm2, hno, rfl, hU3, rfl, rfl⟩
  try refine run_s ?_
  refine st_dec rfl (fun h2 => ?_) (fun h2 => ?_)
  ·try refine run_s ?_
   refine sl_call rfl rfl rfl rfl rfl rfl (fun _ => r36even_ct (n := n) (m := m) (A := X) ⟨_, _, us, rfl, hrow.len.2.1, hrow.at sb, hel.up kept_r uc⟩ hX.sz hn8 (by omega)) ?_
   rintro v4 U4 D4 hU4 ⟨bb, rfl, hbb, -, rfl⟩
   rw [even_iff] at hbb
   rw [List.nil_append]
   cases bb
   ·try refine run_s ?_
    exact sk_again (E' := [(9, .int .i64 ((m : Int) + 1)), (5, .slice Q n C), (1, .pointer (some ⟨b1, 0, none⟩)), (2, .int .i64 0), (3, .int .i64 0)]) (m := 601 - (m + 1)) ⟨rfl, rfl, rfl, rfl, rfl, trivial⟩ (by omega) ⟨m + 1, by omega, by omega, (fun a h5 h6 => by
     rcases Nat.lt_or_eq_of_le (Nat.le_of_lt_succ h6) with h7 | h7
     ·exact hno a h5 h7
     ·rw [h7]; exact fun h8 => by have := hbb.2 h8; cases this), rfl, uc, rfl, rfl⟩
   ·have hdv := hbb.1 rfl
    have hle := Nat.le_of_dvd (by omega) hdv
    have hme : m = Fq.lv (dlv n X) (n * n) := by
     rcases Nat.lt_or_eq_of_le hle with h7 | h7
     ·exact absurd (Nat.dvd_refl _) (hno _ hlp h7)
     ·exact h7.symm
    have hr := hres (tup [.int .i64 (m : Int), .int .i64 0]) (by rw [← hme, if_pos (by omega)]; rfl)
    repeat (first|refine run_S ?_|refine w_box fun _=>?_|refine w_al fun _=>?_)
    exact sk_ret [] sym rfl (.cons (.tmp rfl) (.cons (.tmp rfl) .nil)) uc sb (.inl rfl) ⟨hr.1, hr.2, rfl⟩
  ·have hgt : ¬ Fq.lv (dlv n X) (n * n) ≤ 600 := fun h5 => hno _ hlp (by omega) (Nat.dvd_refl _)
   have hr := hres (tup [.int .i64 0, .int .i64 7]) (by rw [if_neg hgt]; rfl)
   repeat (first|refine run_S ?_|refine w_box fun _=>?_|refine w_al fun _=>?_)
   exact sk_ret [] sym rfl (.cons (.tmp rfl) (.cons (.tmp rfl) .nil)) uc sb (.inl rfl) ⟨hr.1, hr.2, rfl⟩
end Go.Proofs.YtjfkodlddladhaaGreat
