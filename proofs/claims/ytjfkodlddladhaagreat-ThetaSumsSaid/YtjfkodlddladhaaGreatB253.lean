/- Laws of layer 36: Sums. -/
import Derived.Test.YtjfkodlddladhaaGreatM62
import Derived.Test.YtjfkodlddladhaaGreatM60
import Derived.Test.YtjfkodlddladhaaGreatM53
namespace Go.Hp
variable {P : Program} {T : TT} {N : Nat} {G : World} {E : Env} {U : UH} {M : MH} {o : Oper}
theorem jC {t e len j b : Nat} {x ix : Operand} {k : IntKind} {ti : TI} (hu : P.underlying t = some (.array len e)) (he : TI.ok P e ti) (h1 : ti.size = 1) (ho : o.op = .indexAddr t x ix) (hx : ev E x = some (.pointer (some ⟨b, 0, none⟩))) (hi : ev E ix = some (.int k (j : Int))) (hj : j < len) :
  Yl P N G o E U M (.pointer (some ⟨b, j, none⟩)) := by
 refine ⟨fun a w ha hw => ?_⟩
 have hsz := he.run_size (P := P) w
 rw [h1] at hsz
 have h2 : (0 : Int) ≤ (j : Int) ∧ (j : Int) < (len : Int) := by omega
 simp [execOp, ho, ha.eval hx, ha.eval hi, Instr.indexAt, Instr.sureAddr, asIntOf, Qp hu, hsz, h2, hj, Ji]
end Go.Hp
namespace Go.Proofs.YtjfkodlddladhaaGreat
open Go.Hp
open Classical
variable {G : World} {U U' : UH} {M : MH}
theorem Qej : Tryz.prog.underlying 86 = some (.array 2 TInt) := by kernel_rfl
theorem qK {n P : Nat} {f : Nat → Int} {X : Nat → Nat → Rat} {v : Value} (h : WgtO n f P U v) (hX : Inv n f X) (hbx : Bx.pre (bd X (P - 1)) n ≤ 1048576) :
  ∃ a, v = .tuple #[.agg #[.int .i64 0, a], .int .i64 0] ∧ Ls Vq 4 P U [] a (fun q => (((cv n f (bd X (P - 1)) (Bx.pre (bd X (P - 1)) n) q : Nat) : Int) : Rat)) := by
 obtain ⟨X1, hX1, h1, -⟩ := h
 have b1 : ∀ i, i < n → bd X1 (P - 1) i = bd X (P - 1) i := fun i hi => Qfy hX1 hX hi
 obtain ⟨s, _, e1, rfl, a, rfl, e3⟩ := h1 (by rw [Jt b1]; exact hbx)
 have hfe : (fun q => (((cv n f (bd X1 (P - 1)) (Bx.pre (bd X1 (P - 1)) n) q : Nat) : Int) : Rat)) = (fun q => (((cv n f (bd X (P - 1)) (Bx.pre (bd X (P - 1)) n) q : Nat) : Int) : Rat)) := funext fun q => by rw [Jt b1, qS b1]
 have hfk : ∀ s, (fun k => (((cv n f (bd X1 (P - 1)) (Bx.pre (bd X1 (P - 1)) n) (s + k) : Nat) : Int) : Rat)) = (fun k => (((cv n f (bd X (P - 1)) (Bx.pre (bd X (P - 1)) n) (s + k) : Nat) : Int) : Rat)) := fun s => funext fun q => by rw [Jt b1, qS b1]
 rw [hfe] at e1
 rw [hfk] at e3
 have h0 : (((cv n f (bd X (P - 1)) (Bx.pre (bd X (P - 1)) n) 0 : Nat) : Int) : Rat) ≠ 0 := fun h0 => by
  have := Rat.intCast_inj.1 (h0.trans (show (0 : Rat) = ((0 : Int) : Rat) from rfl))
  have := Qeh (n := n) (f := f) (b := bd X (P - 1))
  omega
 obtain rfl : s = 0 := e1.uniq ⟨Nat.zero_le P, fun a ha => absurd ha (Nat.not_lt_zero a), fun _ => h0⟩
 simp only [Nat.sub_zero, Nat.zero_add] at e3
 exact ⟨a, rfl, e3⟩
theorem QbG {n P : Nat} {f : Nat → Int} {b : Nat → Nat} : Skp (fun q => (((cv n f b (Bx.pre b n) q : Nat) : Int) : Rat)) P 0 :=
 ⟨Nat.zero_le P, fun a ha => absurd ha (Nat.not_lt_zero a), fun _ h0 => by
  have := Rat.intCast_inj.1 (h0.trans (show (0 : Rat) = ((0 : Int) : Rat) from rfl))
  have := Qeh (n := n) (f := f) (b := b)
  omega⟩
theorem QdO {n q : Nat} {f : Nat → Int} {b : Nat → Nat} (h : Bx.pre b n ≤ 1048576) : Szq (((cv n f b (Bx.pre b n) q : Nat) : Int) : Rat) 1 :=
 Yo (by have := cnt_le (fun t => vn n f b t == q) (Bx.pre b n); unfold Sz cv; omega) (by decide)
theorem Qbe {F : Nat → Nat} : ∀ k, (((Bx.sumn k F : Nat) : Int) : Rat) = La.sm k fun j => (((F j : Nat) : Int) : Rat)
 | 0 => rfl
 | k + 1 => by
  show (((Bx.sumn k F + F k : Nat) : Int) : Rat) = _
  rw [Int.natCast_add, Rat.intCast_add, Qbe k]; rfl
set_option maxHeartbeats 8000000 in
theorem Qaa {va vb : Value} {r1 r2 p0 d0 : Int} {N1 N2 : Nat} {f1 f2 : Nat → Int} (ha : RawG U va r1 N1 f1) (hb : RawG U vb r2 N2 f2) :
  Ct Tryz.prog 10 [va, vb, .agg #[.int .i64 p0, .int .i64 d0]] G U M fun v _ _ => v = .bool true := by
 obtain ⟨hr1, hN1, _, rfl, p1, c1, vs1, rfl, hc1, rw1, el1⟩ := ha
 obtain ⟨hr2, hN2, _, rfl, p2, c2, vs2, rfl, hc2, rw2, el2⟩ := hb
 refine Qf Tryz.func10 rfl rfl rfl rfl ?_
 repeat (first|refine Qb ?_|refine Qa fun _=>?_|refine w_al fun _=>?_)
 rename_i b3 b4 b5
 refine Qy [5] [0, 1, 2, 3, 4, 5] sym (by kernel_rfl) ?_
 try refine Qc ?_
 refine sl_y (jC (j := 0) Qej Qfx rfl rfl rfl rfl (by decide)) rfl rfl rfl rfl ?_
 try refine Qc ?_
 refine sl_y (jC (j := 1) Qej Qfx rfl rfl rfl rfl (by decide)) rfl rfl rfl rfl ?_
 repeat (first|refine Qb ?_|refine Qa fun _=>?_|refine w_al fun _=>?_)
 refine Qd rfl rfl rfl rfl rfl rfl (fun _ => jB (rw1.up uc (List.nil_sublist _)) (el1.up KeptC.out uc) hc1 hN1) ?_
 rintro v1 U1 D hU1 ⟨rfl, -, rfl⟩
 rw [List.nil_append]
 repeat (first|refine Qb ?_|refine Qa fun _=>?_|refine w_al fun _=>?_)
 refine Qv rfl rfl (fun h => ?_) (fun h1 => ?_)
 ·repeat (first|refine Qb ?_|refine Qa fun _=>?_|refine w_al fun _=>?_)
  refine Qd rfl rfl rfl rfl rfl rfl (fun _ => Jp) ?_
  rintro v9 U9 D9 hU9 ⟨rfl, -, rfl⟩
  try rw [List.nil_append]
  repeat (first|refine Qb ?_|refine Qa fun _=>?_|refine w_al fun _=>?_)
  exact Qe [] sym rfl (.cons (.tmp rfl) .nil) uc sb (.inl rfl) rfl
 replace h1 := Classical.not_not.1 h1
 obtain ⟨n1, rfl, hn1, hn18, rfl, hb1, he1, hpm1⟩ := QQ h1
 repeat (first|refine Qb ?_|refine Qa fun _=>?_|refine w_al fun _=>?_)
 refine Qd rfl rfl rfl rfl rfl rfl (fun _ => jB (rw2.up uc (List.nil_sublist _)) (el2.up KeptC.out uc) hc2 hN2) ?_
 rintro v2 U2 D hU2 ⟨rfl, -, rfl⟩
 rw [List.nil_append]
 repeat (first|refine Qb ?_|refine Qa fun _=>?_|refine w_al fun _=>?_)
 refine Qv rfl rfl (fun h => ?_) (fun h2 => ?_)
 ·repeat (first|refine Qb ?_|refine Qa fun _=>?_|refine w_al fun _=>?_)
  refine Qd rfl rfl rfl rfl rfl rfl (fun _ => Jp) ?_
  rintro v9 U9 D9 hU9 ⟨rfl, -, rfl⟩
  try rw [List.nil_append]
  repeat (first|refine Qb ?_|refine Qa fun _=>?_|refine w_al fun _=>?_)
  exact Qe [] sym rfl (.cons (.tmp rfl) .nil) uc sb (.inl rfl) rfl
 replace h2 := Classical.not_not.1 h2
 obtain ⟨n2, rfl, hn2, hn28, rfl, hb2, he2, hpm2⟩ := QQ h2
 repeat (first|refine Qb ?_|refine Qa fun _=>?_|refine w_al fun _=>?_)
 refine Qv rfl rfl (fun h => ?_) (fun h3 => ?_)
 ·repeat (first|refine Qb ?_|refine Qa fun _=>?_|refine w_al fun _=>?_)
  refine Qd rfl rfl rfl rfl rfl rfl (fun _ => Jp) ?_
  rintro v9 U9 D9 hU9 ⟨rfl, -, rfl⟩
  try rw [List.nil_append]
  repeat (first|refine Qb ?_|refine Qa fun _=>?_|refine w_al fun _=>?_)
  exact Qe [] sym rfl (.cons (.tmp rfl) .nil) uc sb (.inl rfl) rfl
 repeat (first|refine Qb ?_|refine Qa fun _=>?_|refine w_al fun _=>?_)
 refine Qv rfl rfl (fun h => ?_) (fun h4 => ?_)
 ·repeat (first|refine Qb ?_|refine Qa fun _=>?_|refine w_al fun _=>?_)
  refine Qd rfl rfl rfl rfl rfl rfl (fun _ => Jp) ?_
  rintro v9 U9 D9 hU9 ⟨rfl, -, rfl⟩
  try rw [List.nil_append]
  repeat (first|refine Qb ?_|refine Qa fun _=>?_|refine w_al fun _=>?_)
  exact Qe [] sym rfl (.cons (.tmp rfl) .nil) uc sb (.inl rfl) rfl
 repeat (first|refine Qb ?_|refine Qa fun _=>?_|refine w_al fun _=>?_)
 refine Qv rfl rfl (fun h => ?_) (fun h5 => ?_)
 ·repeat (first|refine Qb ?_|refine Qa fun _=>?_|refine w_al fun _=>?_)
  refine Qd rfl rfl rfl rfl rfl rfl (fun _ => Jp) ?_
  rintro v9 U9 D9 hU9 ⟨rfl, -, rfl⟩
  try rw [List.nil_append]
  repeat (first|refine Qb ?_|refine Qa fun _=>?_|refine w_al fun _=>?_)
  exact Qe [] sym rfl (.cons (.tmp rfl) .nil) uc sb (.inl rfl) rfl
 repeat (first|refine Qb ?_|refine Qa fun _=>?_|refine w_al fun _=>?_)
 refine Qv rfl rfl (fun h => ?_) (fun h6 => ?_)
 ·repeat (first|refine Qb ?_|refine Qa fun _=>?_|refine w_al fun _=>?_)
  refine Qd rfl rfl rfl rfl rfl rfl (fun _ => Jp) ?_
  rintro v9 U9 D9 hU9 ⟨rfl, -, rfl⟩
  try rw [List.nil_append]
  repeat (first|refine Qb ?_|refine Qa fun _=>?_|refine w_al fun _=>?_)
  exact Qe [] sym rfl (.cons (.tmp rfl) .nil) uc sb (.inl rfl) rfl
 repeat (first|refine Qb ?_|refine Qa fun _=>?_|refine w_al fun _=>?_)
 refine Qj rfl (fun h => ?_) (fun h7 => ?_)
 ·repeat (first|refine Qb ?_|refine Qa fun _=>?_|refine w_al fun _=>?_)
  refine Qd rfl rfl rfl rfl rfl rfl (fun _ => Jp) ?_
  rintro v9 U9 D9 hU9 ⟨rfl, -, rfl⟩
  try rw [List.nil_append]
  repeat (first|refine Qb ?_|refine Qa fun _=>?_|refine w_al fun _=>?_)
  exact Qe [] sym rfl (.cons (.tmp rfl) .nil) uc sb (.inl rfl) rfl
 obtain ⟨P, rfl⟩ : ∃ P : Nat, p0 = (P : Int) := ⟨p0.toNat, by omega⟩
 obtain ⟨d, rfl⟩ : ∃ d : Nat, d0 = (d : Int) := ⟨d0.toNat, by omega⟩
 have h8 : n1 + n2 ≤ 8 := by omega
 have hes : esum (n1 : Int) (n1 * n1) f1 (n2 : Int) (n2 * n2) f2 = 0 := by
  unfold esum
  rw [if_neg (Classical.not_not.2 h1), if_neg (Classical.not_not.2 h2), if_neg (by omega)]
 have hsc := vS h1 h2 h8
 repeat (first|refine Qb ?_|refine Qa fun _=>?_|refine w_al fun _=>?_)
 refine Qd rfl rfl rfl rfl rfl rfl (fun _ => QfN (rw1.up uc (List.nil_sublist _)) (el1.up KeptC.out uc) hN1 hc1 (rw2.up uc (List.nil_sublist _)) (el2.up KeptC.out uc) hN2 hc2) ?_
 rintro v3 U3 D hU3 ⟨⟨-, g2⟩, rfl⟩
 rw [hes, show ((n1 : Int) + (n2 : Int)).toNat = n1 + n2 by omega, show ((n1 : Nat) : Int).toNat = n1 from rfl, show ((n2 : Nat) : Int).toNat = n2 from rfl] at g2
 obtain ⟨_, rfl, ps, cs, ss, rfl, hcs, rws, els⟩ := g2 rfl
 clear g2
 change El Vz U3 ss (sgf n1 n2 f1 f2) at els
 rw [List.nil_append]
 obtain ⟨X1, hX1⟩ := vW hb1 he1 hpm1 hn1 hn18
 obtain ⟨X2, hX2⟩ := vW hb2 he2 hpm2 hn2 hn28
 obtain ⟨X, hX, hx1, hx2⟩ := Qgy h1 h2 h8 hX1 hX2
 have hbd1 : ∀ i, i < n1 → bd X (P - 1) i = bd X1 (P - 1) i := fun i hi => by unfold bd; rw [hx1 i hi]
 have hbd2 : ∀ i, i < n2 → bd X (P - 1) (n1 + i) = bd X2 (P - 1) i := fun i hi => by unfold bd; rw [hx2 i hi]
 have hcv := fun q => Qhm (q := q) h1 h2 h8 hbd1 hbd2
 have hpp : Bx.pre (bd X (P - 1)) (n1 + n2) = Bx.pre (bd X1 (P - 1)) n1 * Bx.pre (bd X2 (P - 1)) n2 := by
  rw [← Bx.pre_vol, Bx.all_app, Bx.pre_vol, Bx.pre_vol, Jt hbd1, Jt hbd2]
 generalize sgf n1 n2 f1 f2 = g at *
 obtain ⟨n, hn⟩ : ∃ n, n = n1 + n2 := ⟨_, rfl⟩
 rw [← hn] at hsc hcs rws hX hpp
 simp only [← hn] at hcv
 rw [← hn]
 obtain ⟨m, hm, hn0, hn08, -, hbs, hes', hpms⟩ := QQ hsc
 obtain rfl : n = m := Int.ofNat.inj hm
 have hNs : n * n ≤ 9223372036854775807 := by have := Nat.mul_le_mul hn08 hn08; omega
 repeat (first|refine Qb ?_|refine Qa fun _=>?_|refine w_al fun _=>?_)
 rename_i b9
 refine Qv rfl rfl (fun h => absurd rfl h) (fun _ => ?_)
 repeat (first|refine Qb ?_|refine Qa fun _=>?_|refine w_al fun _=>?_)
 refine Qd rfl rfl rfl rfl rfl rfl (fun _ => YC (r := (n : Int)) (rws.up uc (List.nil_sublist _)) (els.up KeptC.out uc) hNs) ?_
 rintro v68 U68 D hU68 ⟨rfl, -, rfl⟩
 rw [List.nil_append, hsc]
 repeat (first|refine Qb ?_|refine Qa fun _=>?_|refine w_al fun _=>?_)
 refine QZ rfl (fun h => absurd rfl h) (fun _ => ?_)
 repeat (first|refine Qb ?_|refine Qa fun _=>?_|refine w_al fun _=>?_)
 rw [show (P : Int) - 1 = ((P - 1 : Nat) : Int) by omega]
 refine Qd rfl rfl rfl rfl rfl rfl (fun _ => Qdu (m := P - 1) (rws.up uc (List.nil_sublist _)) (els.up KeptC.out uc) hbs hes' hpms hn0 hn08 hcs (by omega) hX) ?_
 rintro v10 U10 D10 hU10 ⟨rfl, -, rfl⟩
 try rw [List.nil_append]
 repeat (first|refine Qb ?_|refine Qa fun _=>?_|refine w_al fun _=>?_)
 refine Qj rfl (fun h => ?_) (fun h9 => ?_)
 ·repeat (first|refine Qb ?_|refine Qa fun _=>?_|refine w_al fun _=>?_)
  refine Qd rfl rfl rfl rfl rfl rfl (fun _ => Jp) ?_
  rintro v9 U9 D9 hU9 ⟨rfl, -, rfl⟩
  try rw [List.nil_append]
  repeat (first|refine Qb ?_|refine Qa fun _=>?_|refine w_al fun _=>?_)
  exact Qe [] sym rfl (.cons (.tmp rfl) .nil) uc sb (.inl rfl) rfl
 have hbx : Bx.pre (bd X (P - 1)) n ≤ 4000 := by
  rcases Nat.lt_or_ge 1048576 (Bx.pre (bd X (P - 1)) n) with h10 | h10
  ·rcases (Bx.szl_ok (B := 1048576) n).2 h10 with h11 | h11 <;> omega
  ·have := (Bx.szl_ok (B := 1048576) n).1 h10
   omega
 have hpo1 := Bx.pre_pos (bd X1 (P - 1)) n1
 have hpo2 := Bx.pre_pos (bd X2 (P - 1)) n2
 have hbx1 : Bx.pre (bd X1 (P - 1)) n1 ≤ 4000 := Nat.le_trans (Nat.le_mul_of_pos_right _ hpo2) (by rw [← hpp]; exact hbx)
 have hbx2 : Bx.pre (bd X2 (P - 1)) n2 ≤ 4000 := Nat.le_trans (Nat.le_mul_of_pos_left _ hpo1) (by rw [← hpp]; exact hbx)
 repeat (first|refine Qb ?_|refine Qa fun _=>?_|refine w_al fun _=>?_)
 refine Qd rfl rfl rfl rfl rfl rfl (fun _ => JN (r := (n1 : Int)) (prec := (P : Int)) (rw1.up uc (List.nil_sublist _)) (el1.up KeptC.out uc) hN1 ⟨by omega, by omega⟩) ?_
 rintro v11 U11 D11 hU11 ⟨-, a11, rfl⟩
 try rw [List.nil_append]
 obtain ⟨x, rfl, hx⟩ := qK ((a11 n1 rfl h1).2 P rfl (by omega)) hX1 (Nat.le_trans hbx1 (by decide))
 clear a11
 obtain ⟨qx, kx, xsx, rfl, -⟩ := id hx
 repeat (first|refine Qb ?_|refine Qa fun _=>?_|refine w_al fun _=>?_)
 refine Qd rfl rfl rfl rfl rfl rfl (fun _ => JN (r := (n2 : Int)) (prec := (P : Int)) (rw2.up uc (List.nil_sublist _)) (el2.up KeptC.out uc) hN2 ⟨by omega, by omega⟩) ?_
 rintro v12 U12 D12 hU12 ⟨-, a12, rfl⟩
 try rw [List.nil_append]
 obtain ⟨y, rfl, hy⟩ := qK ((a12 n2 rfl h2).2 P rfl (by omega)) hX2 (Nat.le_trans hbx2 (by decide))
 clear a12
 obtain ⟨qy, ky, xsy, rfl, -⟩ := id hy
 repeat (first|refine Qb ?_|refine Qa fun _=>?_|refine w_al fun _=>?_)
 refine Qd rfl rfl rfl rfl rfl rfl (fun _ => JN (r := (n : Int)) (prec := (P : Int)) (rws.up uc (List.nil_sublist _)) (els.up KeptC.out uc) hNs ⟨by omega, by omega⟩) ?_
 rintro v13 U13 D13 hU13 ⟨-, a13, rfl⟩
 try rw [List.nil_append]
 obtain ⟨zz, rfl, hzz⟩ := qK ((a13 n rfl hsc).2 P rfl (by omega)) hX (Nat.le_trans hbx (by decide))
 clear a13
 obtain ⟨qzz, kzz, xszz, rfl, -⟩ := id hzz
 generalize hc1e : (fun q => (((cv n1 f1 (bd X1 (P - 1)) (Bx.pre (bd X1 (P - 1)) n1) q : Nat) : Int) : Rat)) = w1 at hx
 have hk1 : Skp w1 P 0 := by rw [← hc1e]; exact QbG
 have hz1 : ∀ i, Szq (w1 i) 1 := fun i => by rw [← hc1e]; exact QdO (Nat.le_trans hbx1 (by decide))
 generalize hc2e : (fun q => (((cv n2 f2 (bd X2 (P - 1)) (Bx.pre (bd X2 (P - 1)) n2) q : Nat) : Int) : Rat)) = w2 at hy
 have hk2 : Skp w2 P 0 := by rw [← hc2e]; exact QbG
 have hz2 : ∀ i, Szq (w2 i) 1 := fun i => by rw [← hc2e]; exact QdO (Nat.le_trans hbx2 (by decide))
 have hconv : ∀ q, cnv w1 w2 q = (((cv n g (bd X (P - 1)) (Bx.pre (bd X (P - 1)) n) q : Nat) : Int) : Rat) := fun q => by
  rw [hcv q, Qbe]
  unfold cnv cnvp
  refine La.sm_congr fun j _ => ?_
  rw [← hc1e, ← hc2e, Int.natCast_mul, Rat.intCast_mul]
 have hkc : Skp (cnv w1 w2) P 0 := (QbG (n := n) (f := g) (b := bd X (P - 1))).congr fun q _ => (hconv q).symm
 repeat (first|refine Qb ?_|refine Qa fun _=>?_|refine w_al fun _=>?_)
 refine Qd rfl rfl rfl rfl rfl rfl (fun _ => QfR (P := P) ⟨_, rfl, hx.up QB uc (List.nil_sublist _)⟩ ⟨_, rfl, hy.up QB uc (List.nil_sublist _)⟩ hz1 hz2 hk1 hk2 hkc (by omega)) ?_
 rintro v14 U14 D14 hU14 ⟨_, rfl, ⟨_, rfl, hp⟩, rfl⟩
 try rw [List.nil_append]
 obtain ⟨qp, kp, xsp, rfl, -⟩ := id hp
 repeat (first|refine Qb ?_|refine Qa fun _=>?_|refine w_al fun _=>?_)
 refine Qv rfl rfl (fun h => absurd (by decide) h) (fun _ => ?_)
 repeat (first|refine Qb ?_|refine Qa fun _=>?_|refine w_al fun _=>?_)
 refine Qd rfl rfl rfl rfl rfl rfl (fun _ => YK ⟨_, rfl, Ls.up hp QB uc (List.nil_sublist _)⟩ ⟨_, rfl, Ls.up hzz QB uc (List.nil_sublist _)⟩ (by omega) (by omega)) ?_
 rintro v15 U15 D15 hU15 ⟨bb, rfl, hbb, rfl, rfl⟩
 obtain rfl := hbb.2 ⟨rfl, rfl, fun i _ => hconv i⟩
 rw [List.nil_append]
 repeat (first|refine Qb ?_|refine Qa fun _=>?_|refine w_al fun _=>?_)
 refine Qd rfl rfl rfl rfl rfl rfl (fun _ => QcQ (d := (d : Int)) (rw1.up uc (List.nil_sublist _)) (el1.up KeptC.out uc) hN1 hc1) ?_
 rintro v16 U16 D16 hU16 ⟨⟨g1, g2⟩, rfl⟩
 rw [List.nil_append]
 have hmin : min (d : Int) 1001 = (d : Int) := Int.min_eq_left (by omega)
 have hscf : ∀ k, scf f1 (d : Int) k = (d : Int) * f1 k := fun k => by unfold scf; rw [hmin, Int.mul_comm]
 have hee : escl (n1 : Int) (n1 * n1) f1 (d : Int) = if Ins (n1 * n1) (scf f1 (d : Int)) then 0 else 7 := by
  unfold escl
  rw [if_neg (Classical.not_not.2 h1), if_neg h6]
 rw [hee] at g1 g2
 rw [show ((n1 : Nat) : Int).toNat = n1 from rfl] at g2
 by_cases hI : Ins (n1 * n1) (scf f1 (d : Int))
 case neg =>
  rw [if_neg hI] at g1
  obtain rfl := g1 (by decide)
  clear g1 g2
  repeat (first|refine Qb ?_|refine Qa fun _=>?_|refine w_al fun _=>?_)
  refine Qj rfl (fun _ => ?_) (fun h => absurd (by decide) h)
  repeat (first|refine Qb ?_|refine Qa fun _=>?_|refine w_al fun _=>?_)
  refine Qv rfl rfl (fun _ => ?_) (fun h => absurd rfl h)
  repeat (first|refine Qb ?_|refine Qa fun _=>?_|refine w_al fun _=>?_)
  refine Qd rfl rfl rfl rfl rfl rfl (fun _ => Jp) ?_
  rintro v9 U9 D9 hU9 ⟨rfl, -, rfl⟩
  try rw [List.nil_append]
  repeat (first|refine Qb ?_|refine Qa fun _=>?_|refine w_al fun _=>?_)
  exact Qe [] sym rfl (.cons (.tmp rfl) .nil) uc sb (.inl rfl) rfl
 rw [if_pos hI] at g2
 obtain ⟨_, rfl, pc, cc, xc, rfl, hcc, rwc, elc⟩ := g2 rfl
 clear g1 g2
 have hsk := QfO h1 (d := (d : Int)) (by omega) hscf hI
 have hXc := mul_inv hsk (by omega) hscf hX1
 obtain ⟨T, hT⟩ : ∃ T, T = d * (P - 1) + 1 := ⟨_, rfl⟩
 have hTb : d * (P - 1) ≤ 4 * 11 := Nat.mul_le_mul (by omega) (by omega)
 have hTd : d * (P - 1) + d ≤ d * P := by
  have : d * (P - 1 + 1) = d * (P - 1) + d := Nat.mul_succ d (P - 1)
  rw [show P - 1 + 1 = P by omega] at this
  omega
 have hT1 : T - 1 = d * (P - 1) := by omega
 have hTi : (d : Int) * ((P : Int) - 1) = ((d * (P - 1) : Nat) : Int) := by rw [Int.natCast_mul]; congr 1; omega
 have hbc : ∀ i, i < n1 → bd (fun i j => ((d : Int) : Rat)⁻¹ * X1 i j) (T - 1) i = bd X1 (P - 1) i := fun i _ => by rw [hT1]; exact Qhh (by omega)
 repeat (first|refine Qb ?_|refine Qa fun _=>?_|refine w_al fun _=>?_)
 refine QZ rfl (fun h => absurd rfl h) (fun _ => ?_)
 repeat (first|refine Qb ?_|refine Qa fun _=>?_|refine w_al fun _=>?_)
 rw [show (d : Int) * ((P : Int) - 1) + 1 = (T : Int) by rw [hTi, hT]; rfl]
 refine Qd rfl rfl rfl rfl rfl rfl (fun _ => JN (r := (n1 : Int)) (prec := (T : Int)) (rwc.up uc (List.nil_sublist _)) (elc.up KeptC.out uc) hN1 ⟨by omega, by omega⟩) ?_
 rintro v17 U17 D17 hU17 ⟨-, a17, rfl⟩
 try rw [List.nil_append]
 obtain ⟨u, rfl, hu⟩ := qK ((a17 n1 rfl hsk).2 T rfl (by omega)) hXc (by rw [Jt hbc]; exact Nat.le_trans hbx1 (by decide))
 clear a17
 obtain ⟨qu, ku, xsu, rfl, -⟩ := id hu
 have hexq : ∀ q, (((cv n1 (scf f1 (d : Int)) (bd (fun i j => ((d : Int) : Rat)⁻¹ * X1 i j) (T - 1)) (Bx.pre (bd (fun i j => ((d : Int) : Rat)⁻¹ * X1 i j) (T - 1)) n1) q : Nat) : Int) : Rat) = exq d w1 q := fun q => by
  rw [Jt hbc, qS hbc, Qhr (d := d) (by omega) hscf h1 hsk, ← hc1e]
  unfold exq
  split <;> rfl
 repeat (first|refine Qb ?_|refine Qa fun _=>?_|refine w_al fun _=>?_)
 refine Qd rfl rfl rfl rfl rfl rfl (fun _ => QbY (P := P) (d := d) ⟨_, rfl, hx.up QB uc (List.nil_sublist _)⟩ hz1 hk1 (by omega) (by omega) (by omega) (by omega)) ?_
 rintro v18 U18 D18 hU18 ⟨_, rfl, ⟨_, rfl, hv⟩, rfl⟩
 try rw [List.nil_append]
 obtain ⟨qv, kv, xsv, rfl, -⟩ := id hv
 have hze : ∀ i, Szq (exq d w1 i) 1 := fun i => by
  unfold exq
  split
  ·exact hz1 _
  ·exact VL.mono (by decide)
 have hke : Skp (exq d w1) (d * P) 0 := ⟨Nat.zero_le _, fun a ha => absurd ha (Nat.not_lt_zero a), fun _ => by
  unfold exq
  rw [Nat.zero_mod, Nat.zero_div, if_pos rfl]
  exact hk1.2.2 (by omega)⟩
 repeat (first|refine Qb ?_|refine Qa fun _=>?_|refine w_al fun _=>?_)
 rw [show (d : Int) * ((P : Int) - 1) + 1 = (T : Int) by rw [hTi, hT]; rfl]
 refine Qd rfl rfl rfl rfl rfl rfl (fun _ => Qgz (P := d * P) (T := T) ⟨_, rfl, hv.up QB uc (List.nil_sublist _)⟩ hze hke (by omega) (by omega) (by have := Nat.mul_le_mul (show d ≤ 4 by omega) (show P ≤ 12 by omega); omega)) ?_
 rintro v19 U19 D19 hU19 ⟨_, rfl, ⟨_, rfl, hw⟩, rfl⟩
 try rw [List.nil_append]
 obtain ⟨qw, kw, xsw, rfl, -⟩ := id hw
 repeat (first|refine Qb ?_|refine Qa fun _=>?_|refine w_al fun _=>?_)
 refine Qv rfl rfl (fun _ => ?_) (fun h => absurd (by decide) h)
 repeat (first|refine Qb ?_|refine Qa fun _=>?_|refine w_al fun _=>?_)
 refine Qd rfl rfl rfl rfl rfl rfl (fun _ => YK ⟨_, rfl, Ls.up hu QB uc (List.nil_sublist _)⟩ ⟨_, rfl, Ls.up hw QB uc (List.nil_sublist _)⟩ (by omega) (by omega)) ?_
 rintro v20 U20 D20 hU20 ⟨bb, rfl, hbb, rfl, rfl⟩
 obtain rfl := hbb.2 ⟨rfl, rfl, fun i _ => hexq i⟩
 rw [List.nil_append]
 repeat (first|refine Qb ?_|refine Qa fun _=>?_|refine w_al fun _=>?_)
 refine Qd rfl rfl rfl rfl rfl rfl (fun _ => Jp) ?_
 rintro v9 U9 D9 hU9 ⟨rfl, -, rfl⟩
 try rw [List.nil_append]
 repeat (first|refine Qb ?_|refine Qa fun _=>?_|refine w_al fun _=>?_)
 exact Qe [] sym rfl (.cons (.tmp rfl) .nil) uc sb (.inl rfl) rfl
end Go.Proofs.YtjfkodlddladhaaGreat
