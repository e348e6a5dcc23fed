/- Laws of layer 36: Invariant. -/
import Derived.Test.YtjfkodlddladhaaGreatM60
namespace Go.Proofs.YtjfkodlddladhaaGreat
open Go.Hp
open Classical
variable {G : World} {U U' : UH} {M : MH}
theorem Qhk {n : Nat} {f u : Nat → Int} {X Y : Nat → Nat → Rat} (hs : ∀ i j, i < n → j < n → gq n f i j = gq n f j i) (h : Lr.det n (gz n u) = 1 ∨ Lr.det n (gz n u) = -1) (hX : Inv n f X) (hY : Inv n (chf n f u) Y) : Fq.lv (dlv n X) (n * n) = Fq.lv (dlv n Y) (n * n) := by
 have key : ∀ m : Nat, Fq.lv (dlv n X) (n * n) ∣ m ↔ Fq.lv (dlv n Y) (n * n) ∣ m := fun m => by rw [← qJ, ← qJ, QeI hs h hX hY]
 exact Nat.dvd_antisymm ((key _).2 (Nat.dvd_refl _)) ((key _).1 (Nat.dvd_refl _))
theorem QcD {n : Nat} {f : Nat → Int} {A B : Nat → Nat → Rat} (hA : Inv n f A) (hB : Inv n f B) : Fq.lv (dlv n A) (n * n) = Fq.lv (dlv n B) (n * n) := by
 have k2 : ∀ m : Nat, Fq.lv (dlv n A) (n * n) ∣ m ↔ Fq.lv (dlv n B) (n * n) ∣ m := fun m => by
  rw [← qJ, ← qJ]
  have e : ∀ i k, i < n → k < n → dle A i k = dle B i k := fun i k hi hk => by unfold dle; rw [hA.uniq hB hi hk]
  exact ⟨fun h i k hi hk => by rw [← e i k hi hk]; exact h i k hi hk, fun h i k hi hk => by rw [e i k hi hk]; exact h i k hi hk⟩
 exact Nat.dvd_antisymm ((k2 _).2 (Nat.dvd_refl _)) ((k2 _).1 (Nat.dvd_refl _))
theorem QgZ {n : Nat} {f f' : Nat → Int} {v v' : Value} (h : DscP n f v) (h' : DscP n f' v') (e : dtn n f = dtn n f') : v' = v := by
 refine Qfe h ?_
 rcases h' with ⟨d, h1, h2, h3, rfl⟩ | ⟨h1, rfl⟩
 ·exact .inl ⟨d, h1, h2, by rw [e]; exact (h3 d h2).2 rfl, rfl⟩
 ·exact .inr ⟨fun d hd => by rw [e]; exact h1 d hd, rfl⟩
theorem QdE {n : Nat} {f u : Nat → Int} {Nu : Nat} (h : echg (n : Int) (n * n) f Nu u = 0) : Nu = n * n ∧ (Lr.det n (gz n u) = 1 ∨ Lr.det n (gz n u) = -1) ∧ Ins (n * n) (chf n f u) := by
 unfold echg at h
 rw [show ((n : Nat) : Int).toNat = n from rfl] at h
 split at h
 ·rename_i h1; exact absurd h h1
 ·split at h
  ·cases h
  ·rename_i h2
   split at h
   ·cases h
   ·split at h
    ·cases h
    ·rename_i h4
     split at h
     ·rename_i h5
      refine ⟨Classical.not_not.1 h2, ?_, h5⟩
      have h6 : smb (Lr.det n (gz n u)) = true := by
       cases e : smb (Lr.det n (gz n u))
       ·exact absurd (.inl e) h4
       ·rfl
      have h7 : smv (Lr.det n (gz n u)) = Lr.det n (gz n u) := (VN (of_decide_eq_true h6)).1
      rw [← h7]
      exact Classical.byContradiction fun h8 => h4 (.inr ⟨fun h9 => h8 (.inl h9), fun h9 => h8 (.inr h9)⟩)
     ·cases h
set_option maxHeartbeats 8000000 in
theorem qK {vg vu : Value} {r prec : Int} {N Nu : Nat} {f u : Nat → Int} (hg : RawG U vg r N f) (hu : Ls Vz 1 Nu U [] vu u) (hNu : Nu ≤ 9223372036854775807) (hp0 : -9223372036854775808 ≤ prec) (hp1 : prec ≤ 9223372036854775807) :
  Ct Tryz.prog 12 [vg, vu, .int .i64 prec] G U M fun v _ _ => v = .bool true := by
 obtain ⟨hr, hNm, _, rfl, p, c, vs, rfl, hc, rw1, el⟩ := hg
 obtain ⟨pu, cu, us, rfl, hcu, rwu, elu⟩ := hu
 refine Qf Tryz.func12 rfl rfl rfl rfl ?_
 repeat (first|refine Qb ?_|refine Qa fun _=>?_|refine w_al fun _=>?_)
 rename_i b3
 refine Qd rfl rfl rfl rfl rfl rfl (fun _ => jB (rw1.up uc (List.nil_sublist _)) (el.up KeptC.out uc) hc hNm) ?_
 rintro v1 U1 D hU1 ⟨rfl, -, rfl⟩
 rw [List.nil_append]
 repeat (first|refine Qb ?_|refine Qa fun _=>?_|refine w_al fun _=>?_)
 refine Qv rfl rfl (fun h => ?_) (fun h => ?_)
 ·repeat (first|refine Qb ?_|refine Qa fun _=>?_|refine w_al fun _=>?_)
  refine Qd rfl rfl rfl rfl rfl rfl (fun _ => JC) ?_
  rintro v9 U9 D9 hU9 ⟨rfl, -, rfl⟩
  try rw [List.nil_append]
  repeat (first|refine Qb ?_|refine Qa fun _=>?_|refine w_al fun _=>?_)
  exact Qe [] sym rfl (.cons (.tmp rfl) .nil) uc sb (.inl rfl) rfl
 obtain ⟨n, rfl, hn1, hn8, rfl, hb, he, hpm⟩ := Yn (Classical.not_not.1 h)
 replace h := Classical.not_not.1 h
 repeat (first|refine Qb ?_|refine Qa fun _=>?_|refine w_al fun _=>?_)
 refine Qd rfl rfl rfl rfl rfl rfl (fun _ => Qdg) ?_
 rintro v U' D hU ⟨rfl, rfl, rfl⟩
 repeat (first|refine Qb ?_|refine Qa fun _=>?_|refine w_al fun _=>?_)
 by_cases h64 : 64 < Nu
 ·rw [decide_eq_true h64]
  repeat (first|refine Qb ?_|refine Qa fun _=>?_|refine w_al fun _=>?_)
  refine Qd rfl rfl rfl rfl rfl rfl (fun _ => JC) ?_
  rintro v9 U9 D9 hU9 ⟨rfl, -, rfl⟩
  try rw [List.nil_append]
  repeat (first|refine Qb ?_|refine Qa fun _=>?_|refine w_al fun _=>?_)
  exact Qe [] sym rfl (.cons (.tmp rfl) .nil) uc sb (.inl rfl) rfl
 rw [decide_eq_false h64]
 repeat (first|refine Qb ?_|refine Qa fun _=>?_|refine w_al fun _=>?_)
 refine Qv rfl rfl (fun h1 => ?_) (fun h1 => ?_)
 ·repeat (first|refine Qb ?_|refine Qa fun _=>?_|refine w_al fun _=>?_)
  refine Qd rfl rfl rfl rfl rfl rfl (fun _ => JC) ?_
  rintro v9 U9 D9 hU9 ⟨rfl, -, rfl⟩
  try rw [List.nil_append]
  repeat (first|refine Qb ?_|refine Qa fun _=>?_|refine w_al fun _=>?_)
  exact Qe [] sym rfl (.cons (.tmp rfl) .nil) uc sb (.inl rfl) rfl
 repeat (first|refine Qb ?_|refine Qa fun _=>?_|refine w_al fun _=>?_)
 refine Qj rfl (fun h2 => ?_) (fun h2 => ?_)
 ·repeat (first|refine Qb ?_|refine Qa fun _=>?_|refine w_al fun _=>?_)
  refine Qd rfl rfl rfl rfl rfl rfl (fun _ => JC) ?_
  rintro v9 U9 D9 hU9 ⟨rfl, -, rfl⟩
  try rw [List.nil_append]
  repeat (first|refine Qb ?_|refine Qa fun _=>?_|refine w_al fun _=>?_)
  exact Qe [] sym rfl (.cons (.tmp rfl) .nil) uc sb (.inl rfl) rfl
 obtain ⟨P, rfl⟩ : ∃ P : Nat, prec = (P : Int) := ⟨prec.toNat, by omega⟩
 repeat (first|refine Qb ?_|refine Qa fun _=>?_|refine w_al fun _=>?_)
 refine Qd rfl rfl rfl rfl rfl rfl (fun _ => Qbn (rw1.up uc (List.nil_sublist _)) (el.up KeptC.out uc) hNm hc (rwu.up uc (List.nil_sublist _)) (elu.up KeptC.out uc) hNu hcu) ?_
 rintro v2 U2 D hU2 ⟨⟨g1, g2⟩, rfl⟩
 rw [List.nil_append]
 by_cases hez : echg (n : Int) (n * n) f Nu u = 0
 case neg =>
  obtain rfl := g1 hez
  generalize echg (n : Int) (n * n) f Nu u = ez at hez
  clear g1 g2
  repeat (first|refine Qb ?_|refine Qa fun _=>?_|refine w_al fun _=>?_)
  refine Qv rfl rfl (fun _ => ?_) (fun h => absurd hez h)
  repeat (first|refine Qb ?_|refine Qa fun _=>?_|refine w_al fun _=>?_)
  refine Qv rfl rfl (fun _ => ?_) (fun h => absurd hez h)
  repeat (first|refine Qb ?_|refine Qa fun _=>?_|refine w_al fun _=>?_)
  refine Qd rfl rfl rfl rfl rfl rfl (fun _ => JC) ?_
  rintro v9 U9 D9 hU9 ⟨rfl, -, rfl⟩
  try rw [List.nil_append]
  repeat (first|refine Qb ?_|refine Qa fun _=>?_|refine w_al fun _=>?_)
  exact Qe [] sym rfl (.cons (.tmp rfl) .nil) uc sb (.inl rfl) rfl
 obtain ⟨-, hdet, hins⟩ := QdE hez
 rw [show ((n : Nat) : Int).toNat = n from rfl] at g2
 obtain ⟨_, rfl, ph, ch, hs, rfl, hch, rwh, elh⟩ := g2 hez
 clear g1 g2
 have hchk := Qhw hn1 hn8 he hpm hdet hins
 obtain ⟨n', hn', -, -, -, hbg, heg, hpg⟩ := Yn hchk
 obtain rfl : n = n' := Int.ofNat.inj hn'
 have hsf := (JZ he hpm).1
 obtain ⟨X, hX⟩ := vW hb he hpm hn1 hn8
 obtain ⟨Y, hY⟩ := vW hbg heg hpg hn1 hn8
 have hdt := Qgq (f := f) hdet
 have hlv := Qhk hsf hdet hX hY
 have hcv := fun m q (hq : q ≤ m) => Qhl (m := m) (q := q) he heg hpm hpg hdet hX hY hq
 have hdn : dtn n f = dtn n (chf n f u) := by unfold dtn; rw [hdt]
 generalize chf n f u = g at *
 repeat (first|refine Qb ?_|refine Qa fun _=>?_|refine w_al fun _=>?_)
 rename_i b7
 refine Qv rfl rfl (fun h => absurd rfl h) (fun _ => ?_)
 repeat (first|refine Qb ?_|refine Qa fun _=>?_|refine w_al fun _=>?_)
 refine Qd rfl rfl rfl rfl rfl rfl (fun _ => jB (r := (n : Int)) (rwh.up uc (List.nil_sublist _)) (elh.up KeptC.out uc) hch hNm) ?_
 rintro v3 U3 D hU3 ⟨rfl, -, rfl⟩
 rw [List.nil_append, hchk]
 repeat (first|refine Qb ?_|refine Qa fun _=>?_|refine w_al fun _=>?_)
 refine QQ rfl (fun h => absurd rfl h) (fun _ => ?_)
 repeat (first|refine Qb ?_|refine Qa fun _=>?_|refine w_al fun _=>?_)
 refine Qd rfl rfl rfl rfl rfl rfl (fun _ => Qcq (rw1.up uc (List.nil_sublist _)) (el.up KeptC.out uc) hNm) ?_
 rintro v4 U4 D4 hU4 ⟨x, rfl, -, hx, rfl⟩
 try rw [List.nil_append]
 replace hx := hx n rfl h
 rw [h]
 repeat (first|refine Qb ?_|refine Qa fun _=>?_|refine w_al fun _=>?_)
 rename_i b9
 refine Qd rfl rfl rfl rfl rfl rfl (fun _ => Qcq (r := (n : Int)) (rwh.up uc (List.nil_sublist _)) (elh.up KeptC.out uc) hNm) ?_
 rintro v5 U5 D5 hU5 ⟨y, rfl, -, hy, rfl⟩
 try rw [List.nil_append]
 replace hy := hy n rfl hchk
 rw [hchk]
 repeat (first|refine Qb ?_|refine Qa fun _=>?_|refine w_al fun _=>?_)
 rename_i b11
 change x.nrm U4 [] (Lr.det n (gz n f)) at hx
 change y.nrm U5 [] (Lr.det n (gz n g)) at hy
 rw [hdt] at hy
 refine Qd rfl rfl rfl rfl rfl rfl (fun _ => jt (rw1.up uc (List.nil_sublist _)) (el.up KeptC.out uc) hNm) ?_
 rintro v6 U6 D6 hU6 ⟨-, l2, rfl⟩
 try rw [List.nil_append]
 obtain ⟨X5, hX5, hv5⟩ := l2 n rfl h
 clear l2
 obtain ⟨L, hL⟩ : ∃ L, L = Fq.lv (dlv n X) (n * n) := ⟨_, rfl⟩
 rw [QcD (yj hb he hpm hn1 hn8 hX5) hX, ← hL] at hv5
 obtain ⟨la, le, hll⟩ : ∃ la le : Int, (if L ≤ 600 then tup [.int .i64 (L : Int), .int .i64 0] else tup [.int .i64 0, .int .i64 7]) = tup [.int .i64 la, .int .i64 le] := by
  split <;> exact ⟨_, _, rfl⟩
 obtain rfl : v6 = tup [.int .i64 la, .int .i64 le] := hv5.trans hll
 repeat (first|refine Qb ?_|refine Qa fun _=>?_|refine w_al fun _=>?_)
 refine Qd rfl rfl rfl rfl rfl rfl (fun _ => jt (r := (n : Int)) (rwh.up uc (List.nil_sublist _)) (elh.up KeptC.out uc) hNm) ?_
 rintro v7 U7 D7 hU7 ⟨-, l2, rfl⟩
 try rw [List.nil_append]
 obtain ⟨Y5, hY5, hv6⟩ := l2 n rfl hchk
 clear l2
 rw [QcD (yj hbg heg hpg hn1 hn8 hY5) hY, ← hlv, ← hL] at hv6
 obtain rfl : v7 = tup [.int .i64 la, .int .i64 le] := hv6.trans hll
 clear hv5 hv6 hll
 repeat (first|refine Qb ?_|refine Qa fun _=>?_|refine w_al fun _=>?_)
 refine Qd rfl rfl rfl rfl rfl rfl (fun _ => QaF (rw1.up uc (List.nil_sublist _)) (el.up KeptC.out uc) hNm) ?_
 rintro v8 U8 D8 hU8 ⟨-, l2, rfl⟩
 try rw [List.nil_append]
 have d1 := l2 n rfl h
 have hd8 : ∃ a e : Int, v8 = tup [.int .i64 a, .int .i64 e] := by
  rcases Nat.mod_two_eq_zero_or_one n with h2 | h2
  ·exact Qdy (d1.2 h2)
  ·exact ⟨_, _, d1.1 h2⟩
 obtain ⟨da, de, rfl⟩ := hd8
 clear l2
 repeat (first|refine Qb ?_|refine Qa fun _=>?_|refine w_al fun _=>?_)
 refine Qd rfl rfl rfl rfl rfl rfl (fun _ => QaF (r := (n : Int)) (rwh.up uc (List.nil_sublist _)) (elh.up KeptC.out uc) hNm) ?_
 rintro v9 U9 D9 hU9 ⟨-, l2, rfl⟩
 try rw [List.nil_append]
 have d2 := l2 n rfl hchk
 clear l2
 obtain rfl : v9 = tup [.int .i64 da, .int .i64 de] := by
  rcases Nat.mod_two_eq_zero_or_one n with h2 | h2
  ·exact QgZ (d1.2 h2) (d2.2 h2) hdn
  ·exact (d2.1 h2).trans (d1.1 h2).symm
 clear d1 d2
 repeat (first|refine Qb ?_|refine Qa fun _=>?_|refine w_al fun _=>?_)
 refine Qv rfl rfl (fun h => absurd rfl h) (fun _ => ?_)
 repeat (first|refine Qb ?_|refine Qa fun _=>?_|refine w_al fun _=>?_)
 refine Qv rfl rfl (fun h => absurd rfl h) (fun _ => ?_)
 repeat (first|refine Qb ?_|refine Qa fun _=>?_|refine w_al fun _=>?_)
 refine Qd rfl rfl rfl rfl rfl rfl (fun _ => QaD (hx.up uc (List.nil_sublist _)) (hy.up uc (List.nil_sublist _))) ?_
 rintro v U' D hU ⟨rfl, rfl, rfl⟩
 repeat (first|refine Qb ?_|refine Qa fun _=>?_|refine w_al fun _=>?_)
 rw [decide_eq_true rfl]
 repeat (first|refine Qb ?_|refine Qa fun _=>?_|refine w_al fun _=>?_)
 refine Qv rfl rfl (fun h => absurd rfl h) (fun _ => ?_)
 repeat (first|refine Qb ?_|refine Qa fun _=>?_|refine w_al fun _=>?_)
 refine Qv rfl rfl (fun h => absurd rfl h) (fun _ => ?_)
 repeat (first|refine Qb ?_|refine Qa fun _=>?_|refine w_al fun _=>?_)
 refine Qv rfl rfl (fun h => absurd rfl h) (fun _ => ?_)
 repeat (first|refine Qb ?_|refine Qa fun _=>?_|refine w_al fun _=>?_)
 refine QQ rfl (fun h => absurd rfl h) (fun _ => ?_)
 repeat (first|refine Qb ?_|refine Qa fun _=>?_|refine w_al fun _=>?_)
 rw [show (if (P : Int) - 1 > 0 then (P : Int) - 1 else 0) = ((P - 1 : Nat) : Int) by omega]
 refine Qd rfl rfl rfl rfl rfl rfl (fun _ => vh (m := P - 1) (rw1.up uc (List.nil_sublist _)) (el.up KeptC.out uc) hb he hpm hn1 hn8 hc (by omega) hX) ?_
 rintro v10 U10 D10 hU10 ⟨rfl, -, rfl⟩
 try rw [List.nil_append]
 repeat (first|refine Qb ?_|refine Qa fun _=>?_|refine w_al fun _=>?_)
 refine Qv rfl rfl (fun h5 => ?_) (fun h5 => ?_)
 ·repeat (first|refine Qb ?_|refine Qa fun _=>?_|refine w_al fun _=>?_)
  refine Qd rfl rfl rfl rfl rfl rfl (fun _ => JC) ?_
  rintro v9 U9 D9 hU9 ⟨rfl, -, rfl⟩
  try rw [List.nil_append]
  repeat (first|refine Qb ?_|refine Qa fun _=>?_|refine w_al fun _=>?_)
  exact Qe [] sym rfl (.cons (.tmp rfl) .nil) uc sb (.inl rfl) rfl
 repeat (first|refine Qb ?_|refine Qa fun _=>?_|refine w_al fun _=>?_)
 rw [show (if (P : Int) - 1 > 0 then (P : Int) - 1 else 0) = ((P - 1 : Nat) : Int) by omega]
 refine Qd rfl rfl rfl rfl rfl rfl (fun _ => vh (m := P - 1) (rwh.up uc (List.nil_sublist _)) (elh.up KeptC.out uc) hbg heg hpg hn1 hn8 hch (by omega) hY) ?_
 rintro v11 U11 D11 hU11 ⟨rfl, -, rfl⟩
 try rw [List.nil_append]
 repeat (first|refine Qb ?_|refine Qa fun _=>?_|refine w_al fun _=>?_)
 refine Qj rfl (fun h6 => ?_) (fun h6 => ?_)
 ·repeat (first|refine Qb ?_|refine Qa fun _=>?_|refine w_al fun _=>?_)
  refine Qd rfl rfl rfl rfl rfl rfl (fun _ => JC) ?_
  rintro v9 U9 D9 hU9 ⟨rfl, -, rfl⟩
  try rw [List.nil_append]
  repeat (first|refine Qb ?_|refine Qa fun _=>?_|refine w_al fun _=>?_)
  exact Qe [] sym rfl (.cons (.tmp rfl) .nil) uc sb (.inl rfl) rfl
 have hbx : Bx.pre (bd X (P - 1)) n ≤ 1048576 := by
  rcases Nat.lt_or_ge 1048576 (Bx.pre (bd X (P - 1)) n) with h7 | h7
  ·rcases (Bx.szl_ok (B := 1048576) n).2 h7 with h8 | h8 <;> omega
  ·exact h7
 have hby : Bx.pre (bd Y (P - 1)) n ≤ 1048576 := by
  rcases Nat.lt_or_ge 1048576 (Bx.pre (bd Y (P - 1)) n) with h7 | h7
  ·rcases (Bx.szl_ok (B := 1048576) n).2 h7 with h8 | h8 <;> omega
  ·exact h7
 repeat (first|refine Qb ?_|refine Qa fun _=>?_|refine w_al fun _=>?_)
 refine Qd rfl rfl rfl rfl rfl rfl (fun _ => YZ (r := (n : Int)) (prec := (P : Int)) (rw1.up uc (List.nil_sublist _)) (el.up KeptC.out uc) hNm ⟨by omega, by omega⟩) ?_
 rintro v12 U12 D12 hU12 ⟨-, a2, rfl⟩
 try rw [List.nil_append]
 have hA := (a2 n rfl h).2 P rfl (by omega)
 clear a2
 obtain ⟨F2, q2, w2, c2, e2, rfl⟩ := yU hA
 repeat (first|refine Qb ?_|refine Qa fun _=>?_|refine w_al fun _=>?_)
 refine Qd rfl rfl rfl rfl rfl rfl (fun _ => YZ (r := (n : Int)) (prec := (P : Int)) (rwh.up uc (List.nil_sublist _)) (elh.up KeptC.out uc) hNm ⟨by omega, by omega⟩) ?_
 rintro v13 U13 D13 hU13 ⟨-, a2, rfl⟩
 try rw [List.nil_append]
 have hB := (a2 n rfl hchk).2 P rfl (by omega)
 clear a2
 obtain ⟨F, a, a', K, gc, gc', g1, g2, g3, g4, g5, g6⟩ := Qhy hA hB hX hY hbx hby (fun q hq => hcv (P - 1) q (by omega))
 obtain ⟨q3, c3, xs3, rfl, -⟩ := id g4
 obtain ⟨q4, c4, xs4, rfl, -⟩ := id g3
 obtain ⟨rfl, rfl, rfl, rfl, rfl⟩ : F2 = F ∧ q2 = q4 ∧ w2 = K ∧ c2 = c4 ∧ e2 = 0 := by cases g1; exact ⟨rfl, rfl, rfl, rfl, rfl⟩
 clear g1
 subst g2
 repeat (first|refine Qb ?_|refine Qa fun _=>?_|refine w_al fun _=>?_)
 refine Qv rfl rfl (fun _ => ?_) (fun h => absurd rfl h)
 repeat (first|refine Qb ?_|refine Qa fun _=>?_|refine w_al fun _=>?_)
 refine Qv rfl rfl (fun _ => ?_) (fun h => absurd rfl h)
 repeat (first|refine Qb ?_|refine Qa fun _=>?_|refine w_al fun _=>?_)
 refine Qd rfl rfl rfl rfl rfl rfl (fun _ => VJ ⟨_, rfl, Ls.up g3 QL uc (List.nil_sublist _)⟩ ⟨_, rfl, Ls.up g4 QL uc (List.nil_sublist _)⟩ (by omega) (by omega)) ?_
 rintro v5 U5 D5 hU5 ⟨bb, rfl, hbb, rfl, rfl⟩
 obtain rfl := hbb.2 ⟨rfl, rfl, g6⟩
 rw [List.nil_append]
 repeat (first|refine Qb ?_|refine Qa fun _=>?_|refine w_al fun _=>?_)
 refine Qd rfl rfl rfl rfl rfl rfl (fun _ => JC) ?_
 rintro v9 U9 D9 hU9 ⟨rfl, -, rfl⟩
 try rw [List.nil_append]
 repeat (first|refine Qb ?_|refine Qa fun _=>?_|refine w_al fun _=>?_)
 exact Qe [] sym rfl (.cons (.tmp rfl) .nil) uc sb (.inl rfl) rfl
end Go.Proofs.YtjfkodlddladhaaGreat
