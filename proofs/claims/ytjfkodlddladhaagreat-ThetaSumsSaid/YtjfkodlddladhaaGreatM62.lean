/- Texts of this seat's own, merged: each begins with its own remark. -/
import Derived.Test.YtjfkodlddladhaaGreatM53
import Derived.Test.YtjfkodlddladhaaGreatM14
import Derived.Test.YtjfkodlddladhaaGreatM56
import Derived.Test.YtjfkodlddladhaaGreatM16
import Derived.Test.YtjfkodlddladhaaGreatM1
import Derived.Test.YtjfkodlddladhaaGreatM58
import Derived.Test.YtjfkodlddladhaaGreatM60
/- Walk of series.Mul. -/
namespace Go.Hp
theorem QfZ {P : Program} {N : Nat} {G : World} {U : UH} {M : MH} {E : Env} {o : Oper} {x y z : Operand} {ts : Array TypeId} {k : IntKind} {a b c : Int} (ho : o.op = .call { callee := .builtin .min, args := #[x, y, z], argTypes := ts }) (hx : ev E x = some (.int k a)) (hy : ev E y = some (.int k b)) (hz : ev E z = some (.int k c)) :
  Yl P N G o E U M (.int k (if c < (if b < a then b else a) then c else if b < a then b else a)) :=
 ⟨fun act w ha hm => by simp [execOp, ho, ha.eval hx, ha.eval hy, ha.eval hz, resolve, invoke, builtin, Builtin.min_, Builtin.min2]⟩
end Go.Hp
namespace Go.Proofs.YtjfkodlddladhaaGreat
open Go.Hp
variable {G : World} {U U' : UH} {M : MH}
def cnvp (g h : Nat → Rat) (k i : Nat) : Rat := La.sm i fun t => g t * h (k - t)
def cnv (g h : Nat → Rat) (k : Nat) : Rat := cnvp g h k (k + 1)
theorem vC {g h : Nat → Rat} {k : Nat} (hg : ∀ i, Szq (g i) 1) (hh : ∀ i, Szq (h i) 1) : ∀ i, Szq (cnvp g h k i) (3 * i + 1)
 | 0 => VL
 | i + 1 => ((vC hg hh i).add ((hg i).mul (hh (k - i)))).mono (by omega)
theorem ls_w {N b : Nat} {v : Value} {g : Nat → Rat} (h : Ls Vq 4 N U M v g) (hz : ∀ i, i < N → Szq (g i) b) : Ls (Wq b) 4 N U M v g := by
 obtain ⟨p, c, vs, h1, h2, h3, h4⟩ := h
 exact ⟨p, c, vs, h1, h2, h3, fun k x hk => (h4 k x hk).w (hz k (by rw [← h3.len]; exact (List.getElem?_eq_some_iff.1 hk).1))⟩
set_option maxHeartbeats 4000000 in
theorem QfR {P : Nat} {v w : Value} {g h : Nat → Rat} (hv : Vser Vq U [] v 0 P g) (hw : Vser Vq U [] w 0 P h) (sg : ∀ i, Szq (g i) 1) (sh : ∀ i, Szq (h i) 1) (kg : Skp g P 0) (kh : Skp h P 0) (kc : Skp (cnv g h) P 0) (hP : P ≤ 100) :
  Ct Tryz.prog 46 [v, w] G U M fun v U' D => ∃ r, v = .tuple #[r, .int .i64 0] ∧ Vser Vq U' [] r 0 P (cnv g h) ∧ D = [] := by
 obtain ⟨_, rfl, hv⟩ := hv
 obtain ⟨_, rfl, hw⟩ := hw
 obtain ⟨p1, c1, vs1, rfl, -⟩ := id hv
 obtain ⟨p2, c2, vs2, rfl, -⟩ := id hw
 refine Qf Tryz.func46 rfl rfl rfl rfl ?_
 repeat (first|refine Qb ?_|refine Qa fun _=>?_|refine w_al fun _=>?_)
 rename_i b2 b3 b4
 refine Qd rfl rfl rfl rfl rfl rfl (fun _ => Vk (ok := Vq) ⟨_, rfl, hv.up QB uc (List.nil_sublist _)⟩ (by decide) (by decide) (by omega)) ?_
 rintro v U' D hU ⟨rfl, rfl, rfl⟩
 repeat (first|refine Qb ?_|refine Qa fun _=>?_|refine w_al fun _=>?_)
 refine Qd rfl rfl rfl rfl rfl rfl (fun _ => Vk (ok := Vq) ⟨_, rfl, hw.up QB uc (List.nil_sublist _)⟩ (by decide) (by decide) (by omega)) ?_
 rintro v U' D hU ⟨rfl, rfl, rfl⟩
 repeat (first|refine Qb ?_|refine Qa fun _=>?_|refine w_al fun _=>?_)
 rw [List.nil_append, List.nil_append]
 try refine Qc ?_
 refine Qy [3, 4, 5] [0, 2, 1, 3, 4, 5] sym (by kernel_rfl) ?_
 try refine Qc ?_
 have hvw := ls_w hv fun i _ => sg i
 have hww := ls_w hw fun i _ => sh i
 refine Qd rfl rfl rfl rfl rfl rfl (fun _ => Vg (N := P) (b := 1) (f := 0) ⟨_, rfl, hvw.up JY uc (List.nil_sublist _)⟩ (by decide) (by decide) (by decide) (by decide) (by omega)) ?_
 rintro v22 U22 D hU22 ⟨s, hs, ⟨_, rfl, ta⟩, rfl⟩
 obtain rfl := hs.uniq kg
 rw [List.nil_append]
 simp only [Nat.sub_zero, Nat.zero_add] at ta
 obtain ⟨pa, ca, as1, rfl, hca, ra, ea⟩ := ta
 try refine Qc ?_
 refine Qd rfl rfl rfl rfl rfl rfl (fun _ => Vg (N := P) (b := 1) (f := 0) ⟨_, rfl, hww.up JY uc (List.nil_sublist _)⟩ (by decide) (by decide) (by decide) (by decide) (by omega)) ?_
 rintro v24 U24 D hU24 ⟨s, hs, ⟨_, rfl, tb⟩, rfl⟩
 obtain rfl := hs.uniq kh
 rw [List.nil_append]
 simp only [Nat.sub_zero, Nat.zero_add] at tb
 obtain ⟨pb, cb, bs1, rfl, hcb, rb, eb⟩ := tb
 rw [show (0 : Int) + ((0 : Nat) : Int) = 0 from rfl]
 repeat (first|refine Qb ?_|refine Qa fun _=>?_|refine w_al fun _=>?_)
 refine sl_y (QfZ rfl rfl rfl rfl) rfl rfl rfl rfl ?_
 repeat (first|refine Qb ?_|refine Qa fun _=>?_|refine w_al fun _=>?_)
 rw [show (if (if (1000 : Int) - (0 + 0) < (if (P : Int) < (P : Int) then (P : Int) else (P : Int)) then (1000 : Int) - (0 + 0) else if (P : Int) < (P : Int) then (P : Int) else (P : Int)) > 0 then (if (1000 : Int) - (0 + 0) < (if (P : Int) < (P : Int) then (P : Int) else (P : Int)) then (1000 : Int) - (0 + 0) else if (P : Int) < (P : Int) then (P : Int) else (P : Int)) else 0) = (P : Int) by omega]
 refine QM (m := 0) (n := P) sym rfl rfl rfl rfl rfl rfl (by omega) rfl rfl (Nat.zero_le _) (by omega) (by omega) rfl rfl rfl rfl (fun b41 => ?_)
 have hrow := yx (e := TR) (s := 4) (b := b41) (c := P) (z := zeroQV.v) rfl (by omega)
 refine Qh (M' := (b4, .var (.agg #[.int .i64 0, .slice none 0 0]), 30) :: (b3, .var (.agg #[.int .i64 0, .slice pb P cb]), 30) :: (b2, .var (.agg #[.int .i64 0, .slice pa P ca]), 30) :: ([(b41, .arr (List.replicate P zeroQV.v), TR)] ++ M)) ?_ pgj
 generalize [(b41, Blk.arr (List.replicate P zeroQV.v), TR)] = D0 at hrow ⊢
 rw [show (0 : Int) + 0 = 0 from rfl]
 try refine Qc ?_
 try refine QA (M' := (b4, .var (.agg #[.int .i64 0, .slice none 0 0]), 30) :: (b3, .var (.agg #[.int .i64 0, .slice pb P cb]), 30) :: (b2, .var (.agg #[.int .i64 0, .slice pa P ca]), 30) :: (D0 ++ M)) (ULe.refl _) sbk ?_
 refine Ql (fun z E U' M' => ∃ (k : Nat) (Q : Option Addr) (C : Nat) (us : List Value) (D : MH), k ≤ P ∧ RowO TR 4 D Q k C us ∧ El Vq U' us (cnv g h) ∧ E = [(43, .int .i64 (k : Int)), (42, .int .i64 (P : Int)), (8, .slice Q k C), (2, .pointer (some ⟨b2, 0, none⟩)), (3, .pointer (some ⟨b3, 0, none⟩)), (4, .pointer (some ⟨b4, 0, none⟩)), (5, .int .i64 0), (6, .int .i64 0)] ∧ ULe U24 U' ∧ M' = (b4, .var (.agg #[.int .i64 0, .slice none 0 0]), 30) :: (b3, .var (.agg #[.int .i64 0, .slice pb P cb]), 30) :: (b2, .var (.agg #[.int .i64 0, .slice pa P ca]), 30) :: (D ++ M) ∧ z = P - k) (n0 := P - 0) (E0 := [(43, .int .i64 ((0 : Nat) : Int)), (42, .int .i64 (P : Int)), (8, .slice (some ⟨b41, 0, none⟩) 0 P), (2, .pointer (some ⟨b2, 0, none⟩)), (3, .pointer (some ⟨b3, 0, none⟩)), (4, .pointer (some ⟨b4, 0, none⟩)), (5, .int .i64 0), (6, .int .i64 0)]) ⟨rfl, rfl, rfl, rfl, rfl, rfl, rfl, rfl, trivial⟩ ⟨0, some ⟨b41, 0, none⟩, P, [], D0, by omega, hrow, El.nil, rfl, uc, rfl, rfl⟩ ?_
 clear hrow
 rintro z E U3 M' ⟨k, Q, C, us, D, hk, hrow, hel, rfl, hU3, rfl, rfl⟩
 try refine Qc ?_
 refine Qj rfl (fun h1 => ?_) (fun h1 => ?_)
 ·have hkP : k < P := by omega
  repeat (first|refine Qb ?_|refine Qa fun _=>?_|refine w_al fun _=>?_)
  refine Qd rfl rfl rfl rfl rfl rfl (fun _ => (VF (z := 0) (by decide) (by decide)).settle) ?_
  rintro v Uh46 D hU ⟨rfl, _, _, ⟨xh46, rfl, h46, -⟩, -, -, hs⟩
  replace h46 := h46.sett hs
  clear hs
  repeat (first|refine Qb ?_|refine Qa fun _=>?_|refine w_al fun _=>?_)
  rename_i b10
  have z46 : xh46.nrm Uh46 [] (cnvp g h k 0) := h46
  try refine QA (M' := (b10, .var xh46.v, TR) :: (b4, .var (.agg #[.int .i64 0, .slice none 0 0]), 30) :: (b3, .var (.agg #[.int .i64 0, .slice pb P cb]), 30) :: (b2, .var (.agg #[.int .i64 0, .slice pa P ca]), 30) :: (D ++ M)) (ULe.refl _) sbk ?_
  refine Ql (fun z E U' M' => ∃ (j : Nat) (x : QV), j ≤ k + 1 ∧ x.nrm U' [] (cnvp g h k j) ∧ E = [(11, .int .i64 (j : Int)), (10, .pointer (some ⟨b10, 0, none⟩)), (9, .int .i64 (k : Int)), (43, .int .i64 (k : Int)), (42, .int .i64 (P : Int)), (8, .slice Q k C), (2, .pointer (some ⟨b2, 0, none⟩)), (3, .pointer (some ⟨b3, 0, none⟩)), (4, .pointer (some ⟨b4, 0, none⟩)), (5, .int .i64 0), (6, .int .i64 0)] ∧ ULe Uh46 U' ∧ M' = (b10, .var x.v, TR) :: (b4, .var (.agg #[.int .i64 0, .slice none 0 0]), 30) :: (b3, .var (.agg #[.int .i64 0, .slice pb P cb]), 30) :: (b2, .var (.agg #[.int .i64 0, .slice pa P ca]), 30) :: (D ++ M) ∧ z = k + 1 - j) (n0 := k + 1 - 0) (E0 := [(11, .int .i64 ((0 : Nat) : Int)), (10, .pointer (some ⟨b10, 0, none⟩)), (9, .int .i64 (k : Int)), (43, .int .i64 (k : Int)), (42, .int .i64 (P : Int)), (8, .slice Q k C), (2, .pointer (some ⟨b2, 0, none⟩)), (3, .pointer (some ⟨b3, 0, none⟩)), (4, .pointer (some ⟨b4, 0, none⟩)), (5, .int .i64 0), (6, .int .i64 0)]) ⟨rfl, rfl, rfl, rfl, rfl, rfl, rfl, rfl, rfl, rfl, rfl, trivial⟩ ⟨0, xh46, by omega, z46.up uc (List.Sublist.refl _), rfl, uc, rfl, rfl⟩ ?_
  rintro z E U4 M' ⟨j, x, hj, hx, rfl, hU4, rfl, rfl⟩
  try refine Qc ?_
  refine Qj rfl (fun h2 => ?_) (fun h2 => ?_)
  ·have hjk : j ≤ k := by omega
   obtain ⟨v1, hv1⟩ := ra.at (k := j) (by omega)
   obtain ⟨x1, rfl, hx1⟩ := ea _ _ hv1
   obtain ⟨v2, hv2⟩ := rb.at (k := k - j) (by omega)
   obtain ⟨x2, rfl, hx2⟩ := eb _ _ hv2
   have hkj : (k : Int) - (j : Int) = ((k - j : Nat) : Int) := by omega
   have sj := vC sg sh (k := k) j
   have hstep : cnvp g h k (j + 1) = cnvp g h k j + g j * h (k - j) := rfl
   try refine Qc ?_
   refine sl_y (Qg sym rfl rfl rfl rfl rfl rfl ((ra.up uc sb).lt hv1) ((ra.up uc sb).get _ _ hv1).1) rfl rfl rfl rfl ?_; refine sl_y (Qs sym rfl rfl rfl rfl rfl (ra.up uc sb) hv1) rfl rfl rfl rfl ?_
   try refine Qc ?_
   refine Qd rfl rfl rfl rfl rfl rfl (fun _ => YL (hx1.rep.up uc (List.nil_sublist _)) (hx1.le (sg j) (by decide))) ?_
   rintro v U' D hU ⟨rfl, rfl, rfl⟩
   repeat (first|refine Qb ?_|refine Qa fun _=>?_|refine w_al fun _=>?_)
   refine Qv rfl rfl (fun h3 => ?_) (fun h3 => ?_)
   ·try refine Qc ?_
    refine sl_y (Qg sym rfl rfl rfl rfl rfl ( hkj) ((rb.up uc sb).lt hv2) ((rb.up uc sb).get _ _ hv2).1) rfl rfl rfl rfl ?_; refine sl_y (Qs sym rfl rfl rfl rfl rfl (rb.up uc sb) hv2) rfl rfl rfl rfl ?_
    try refine Qc ?_
    refine Qd rfl rfl rfl rfl rfl rfl (fun _ => YL (hx2.rep.up uc (List.nil_sublist _)) (hx2.le (sh (k - j)) (by decide))) ?_
    rintro v U' D hU ⟨rfl, rfl, rfl⟩
    repeat (first|refine Qb ?_|refine Qa fun _=>?_|refine w_al fun _=>?_)
    refine QZ rfl (fun h4 => ?_) (fun h4 => ?_)
    ·try refine Qc ?_
     refine Qy [14, 15] [0, 1, 2, 3, 4, 5, 6, 7, 8, 9, 10, 11, 12, 13, 14, 15] sym (by kernel_rfl) ?_
     try refine Qc ?_
     refine sl_y (Qg sym rfl rfl rfl rfl rfl rfl ((ra.up uc sb).lt hv1) ((ra.up uc sb).get _ _ hv1).1) rfl rfl rfl rfl ?_; refine sl_y (Qs sym rfl rfl rfl rfl rfl (ra.up uc sb) hv1) rfl rfl rfl rfl ?_
     try refine Qc ?_
     refine sl_y (Qg sym rfl rfl rfl rfl rfl ( hkj) ((rb.up uc sb).lt hv2) ((rb.up uc sb).get _ _ hv2).1) rfl rfl rfl rfl ?_; refine sl_y (Qs sym rfl rfl rfl rfl rfl (rb.up uc sb) hv2) rfl rfl rfl rfl ?_
     try refine Qc ?_
     refine Qd rfl rfl rfl rfl rfl rfl (fun _ => (VB (hx1.rep.up uc (List.nil_sublist _)) (hx1.le (sg j) (by decide)) (hx2.rep.up uc (List.nil_sublist _)) (hx2.le (sh (k - j)) (by decide))).settle) ?_
     rintro v Uh83 D hU ⟨rfl, _, _, ⟨xh83, rfl, h83, -⟩, -, -, hs⟩
     replace h83 := h83.sett hs
     clear hs
     repeat (first|refine Qb ?_|refine Qa fun _=>?_|refine w_al fun _=>?_)
     refine Qd rfl rfl rfl rfl rfl rfl (fun _ => (Vw (hx.rep.up uc (List.nil_sublist _)) (hx.le sj (by omega)) (h83.rep.up uc (List.nil_sublist _)) (h83.le ((sg j).mul (sh (k - j))) (by decide))).settle) ?_
     rintro v Uh84 D hU ⟨rfl, _, _, ⟨xh84, rfl, h84, -⟩, -, -, hs⟩
     replace h84 := h84.sett hs
     clear hs
     repeat (first|refine Qb ?_|refine Qa fun _=>?_|refine w_al fun _=>?_)
     exact Qi (E' := [(11, .int .i64 ((j : Int) + 1)), (10, .pointer (some ⟨b10, 0, none⟩)), (9, .int .i64 (k : Int)), (43, .int .i64 (k : Int)), (42, .int .i64 (P : Int)), (8, .slice Q k C), (2, .pointer (some ⟨b2, 0, none⟩)), (3, .pointer (some ⟨b3, 0, none⟩)), (4, .pointer (some ⟨b4, 0, none⟩)), (5, .int .i64 0), (6, .int .i64 0)]) (m := k + 1 - (j + 1)) ⟨rfl, rfl, rfl, rfl, rfl, rfl, rfl, rfl, rfl, rfl, rfl, trivial⟩ (by omega) ⟨j + 1, xh84, by omega, h84, rfl, uc, rfl, rfl⟩
    ·have e0 : h (k - j) = 0 := Rat.num_eq_zero.1 (Int.sign_eq_zero_iff_zero.1 h4)
     rw [e0, Rat.mul_zero, Rat.add_zero] at hstep
     try refine Qc ?_
     exact Qi (E' := [(11, .int .i64 ((j : Int) + 1)), (10, .pointer (some ⟨b10, 0, none⟩)), (9, .int .i64 (k : Int)), (43, .int .i64 (k : Int)), (42, .int .i64 (P : Int)), (8, .slice Q k C), (2, .pointer (some ⟨b2, 0, none⟩)), (3, .pointer (some ⟨b3, 0, none⟩)), (4, .pointer (some ⟨b4, 0, none⟩)), (5, .int .i64 0), (6, .int .i64 0)]) (m := k + 1 - (j + 1)) ⟨rfl, rfl, rfl, rfl, rfl, rfl, rfl, rfl, rfl, rfl, rfl, trivial⟩ (by omega) ⟨j + 1, x, by omega, by rw [hstep]; exact hx.up uc (List.Sublist.refl _), rfl, uc, rfl, rfl⟩
   ·have e0 : g j = 0 := Rat.num_eq_zero.1 (Int.sign_eq_zero_iff_zero.1 (Classical.not_not.1 h3))
    rw [e0, Rat.zero_mul, Rat.add_zero] at hstep
    try refine Qc ?_
    exact Qi (E' := [(11, .int .i64 ((j : Int) + 1)), (10, .pointer (some ⟨b10, 0, none⟩)), (9, .int .i64 (k : Int)), (43, .int .i64 (k : Int)), (42, .int .i64 (P : Int)), (8, .slice Q k C), (2, .pointer (some ⟨b2, 0, none⟩)), (3, .pointer (some ⟨b3, 0, none⟩)), (4, .pointer (some ⟨b4, 0, none⟩)), (5, .int .i64 0), (6, .int .i64 0)]) (m := k + 1 - (j + 1)) ⟨rfl, rfl, rfl, rfl, rfl, rfl, rfl, rfl, rfl, rfl, rfl, trivial⟩ (by omega) ⟨j + 1, x, by omega, by rw [hstep]; exact hx.up uc (List.Sublist.refl _), rfl, uc, rfl, rfl⟩
  ·obtain rfl : k + 1 = j := by omega
   try refine Qc ?_
   refine Yy hrow (X := (b10, .var x.v, TR) :: (b4, .var (.agg #[.int .i64 0, .slice none 0 0]), 30) :: (b3, .var (.agg #[.int .i64 0, .slice pb P cb]), 30) :: (b2, .var (.agg #[.int .i64 0, .slice pa P ca]), 30) :: M) pgj (fun b P2 C2 D2 hr2 => ?_)
   refine Qh (M' := (b10, .var x.v, TR) :: (b4, .var (.agg #[.int .i64 0, .slice none 0 0]), 30) :: (b3, .var (.agg #[.int .i64 0, .slice pb P cb]), 30) :: (b2, .var (.agg #[.int .i64 0, .slice pa P ca]), 30) :: (D2 ++ M)) ?_ pgj
   try refine Qc ?_
   refine Yz (M' := (b4, .var (.agg #[.int .i64 0, .slice none 0 0]), 30) :: (b3, .var (.agg #[.int .i64 0, .slice pb P cb]), 30) :: (b2, .var (.agg #[.int .i64 0, .slice pa P ca]), 30) :: (D2 ++ M)) (ULe.refl _) sbk ?_
   exact Qi (E' := [(43, .int .i64 ((k : Int) + 1)), (42, .int .i64 (P : Int)), (8, .slice P2 (k + 1) C2), (2, .pointer (some ⟨b2, 0, none⟩)), (3, .pointer (some ⟨b3, 0, none⟩)), (4, .pointer (some ⟨b4, 0, none⟩)), (5, .int .i64 0), (6, .int .i64 0)]) (m := P - (k + 1)) ⟨rfl, rfl, rfl, rfl, rfl, rfl, rfl, rfl, trivial⟩ (by omega) ⟨k + 1, P2, C2, _, D2, by omega, hr2, JQ hrow.len.1 (hel.up QB uc) ⟨x, rfl, hx⟩, rfl, uc, rfl, rfl⟩
 ·obtain rfl : P = k := by omega
  have hser : Ls (Wq 1000) 4 P U3 ((b4, .var (.agg #[.int .i64 0, .slice none 0 0]), 30) :: (b3, .var (.agg #[.int .i64 0, .slice pb P cb]), 30) :: (b2, .var (.agg #[.int .i64 0, .slice pa P ca]), 30) :: (D ++ M)) (.slice Q P C) (cnv g h) := ls_w ⟨_, _, us, rfl, hrow.len.2.1, hrow.at sb, hel⟩ fun i hi => (vC sg sh (i + 1)).mono (by omega)
  repeat (first|refine Qb ?_|refine Qa fun _=>?_|refine w_al fun _=>?_)
  refine Qd rfl rfl rfl rfl rfl rfl (fun _ => ji (f := 0) (hser.up JY uc sb) (by decide) (by decide) (by omega) (by decide) (by decide)) ?_
  rintro v92 U92 D92 hU92 ⟨s, r, hs, rfl, hvs, rfl⟩
  rw [show min P (1000 - (0 : Int)).toNat = P by omega] at hs hvs
  obtain rfl := hs.uniq kc
  simp only [Nat.sub_zero, Nat.zero_add] at hvs
  obtain ⟨_, rfl, hvs⟩ := hvs
  obtain ⟨pv, cv', us', rfl, -⟩ := id hvs
  rw [List.nil_append]
  repeat (first|refine Qb ?_|refine Qa fun _=>?_|refine w_al fun _=>?_)
  exact Qe [] sym rfl (.cons (.cell 0 rfl rfl rfl) (.cons (.tmp rfl) .nil)) uc sb (.inl rfl) ⟨_, rfl, ⟨_, rfl, hvs⟩, rfl⟩
end Go.Proofs.YtjfkodlddladhaaGreat

/- Walks of series.Expand, Cut. -/
namespace Go.Proofs.YtjfkodlddladhaaGreat
open Go.Hp
variable {G : World} {U U' : UH} {M : MH}
theorem QdJ {d : Nat} (h1 : 1 ≤ d) (h2 : d ≤ 1000) : Ct Tryz.prog 113 [.int .i64 (d : Int)] G U M fun v U' D => v = .bool true ∧ U = U' ∧ D = [] := by
 refine Qf Tryz.func113 rfl rfl rfl rfl ?_
 repeat (first|refine Qb ?_|refine Qa fun _=>?_|refine w_al fun _=>?_)
 refine Qv rfl rfl (fun _ => ?_) (fun h => absurd (show (d : Int) ≥ 1 by omega) h)
 repeat (first|refine Qb ?_|refine Qa fun _=>?_|refine w_al fun _=>?_)
 refine Qe [] sym rfl (.cons (.tmp rfl) .nil) uc sb (.inl rfl) ⟨?_, rfl, rfl⟩
 show Value.bool (dec ((d : Int) ≤ 1000)) = _
 rw [yj (by omega)]
theorem Qen {P c : Nat} {p : Option Addr} (hP : P ≤ 1000000) : Ct Tryz.prog 164 [.agg #[.int .i64 0, .slice p P c]] G U M fun v U' D => v = .int .i64 (0 + (P : Int)) ∧ U = U' ∧ D = [] := by
 refine Qf Tryz.func164 rfl rfl rfl rfl ?_
 repeat (first|refine Qb ?_|refine Qa fun _=>?_|refine w_al fun _=>?_)
 exact Qe [] sym rfl (.cons (.tmp rfl) .nil) uc sb (.inl rfl) ⟨rfl, rfl, rfl⟩
theorem Qgx {P T : Nat} {v : Value} {g : Nat → Rat} (hv : Vser Vq U [] v 0 P g) (sg : ∀ i, Szq (g i) 1) (kg : Skp g P 0) (h1 : 1 ≤ T) (hT : T ≤ P) (hP : P ≤ 100) :
  Ct Tryz.prog 114 [v, .int .i64 (T : Int)] G U M fun v U' D => Vser Vq U' [] v 0 T g ∧ D = [] := by
 obtain ⟨_, rfl, hv⟩ := hv
 obtain ⟨p, c, vs, rfl, hc, rv, ev⟩ := id hv
 have hvw := ls_w hv fun i _ => sg i
 refine Qf Tryz.func114 rfl rfl rfl rfl ?_
 repeat (first|refine Qb ?_|refine Qa fun _=>?_|refine w_al fun _=>?_)
 rename_i b2 b4
 refine Qd rfl rfl rfl rfl rfl rfl (fun _ => Qen (P := P) (by omega)) ?_
 rintro v U' D hU ⟨rfl, rfl, rfl⟩
 repeat (first|refine Qb ?_|refine Qa fun _=>?_|refine w_al fun _=>?_)
 refine Qj rfl (fun h2 => ?_) (fun h2 => ?_)
 ·obtain rfl : T = P := by omega
  repeat (first|refine Qb ?_|refine Qa fun _=>?_|refine w_al fun _=>?_)
  refine Qd rfl rfl rfl rfl rfl rfl (fun _ => Vg (N := T) (b := 1) (f := 0) ⟨_, rfl, hvw.up JY uc (List.nil_sublist _)⟩ (by decide) (by decide) (by decide) (by decide) (by omega)) ?_
  rintro v11 U11 D hU11 ⟨s, hs, ⟨_, rfl, ta⟩, rfl⟩
  obtain rfl := hs.uniq kg
  rw [List.nil_append]
  simp only [Nat.sub_zero, Nat.zero_add] at ta
  obtain ⟨pa, ca, as1, rfl, -⟩ := id ta
  repeat (first|refine Qb ?_|refine Qa fun _=>?_|refine w_al fun _=>?_)
  exact Qe [] sym rfl (.cons (.cell 0 rfl rfl rfl) .nil) uc sb (.inl rfl) ⟨⟨_, rfl, ta⟩, rfl⟩
 repeat (first|refine Qb ?_|refine Qa fun _=>?_|refine w_al fun _=>?_)
 refine Qj rfl (fun h3 => absurd h3 (by omega)) (fun _ => ?_)
 rw [List.nil_append]
 try refine Qc ?_
 refine Qy [9, 10, 11] [0, 1, 2, 3, 4, 5, 6, 7, 8, 9, 10, 11] sym (by kernel_rfl) ?_
 try refine Qc ?_
 refine QgI (h := T) (c := c) (by omega) ?_ (hv := by omega)
 try refine Qc ?_
 have hlt : Ls (Wq 1) 4 T U [] (.slice p T c) g := ⟨_, _, vs.take T, rfl, by omega, rv.take hT, fun k x hk => by
  rw [List.getElem?_take] at hk
  split at hk
  ·exact (ev _ _ hk).w (sg k)
  ·cases hk⟩
 refine Qd rfl rfl rfl rfl rfl rfl (fun _ => Vg (N := T) (b := 1) (f := 0) ⟨_, rfl, hlt.up JY uc (List.nil_sublist _)⟩ (by decide) (by decide) (by decide) (by decide) (by omega)) ?_
 rintro v11 U11 D hU11 ⟨s, hs, ⟨_, rfl, ta⟩, rfl⟩
 obtain rfl := hs.uniq ⟨Nat.zero_le T, fun a ha => absurd ha (Nat.not_lt_zero a), fun _ => kg.2.2 (by omega)⟩
 rw [List.nil_append]
 simp only [Nat.sub_zero, Nat.zero_add] at ta
 obtain ⟨pa, ca, as1, rfl, -⟩ := id ta
 repeat (first|refine Qb ?_|refine Qa fun _=>?_|refine w_al fun _=>?_)
 exact Qe [] sym rfl (.cons (.cell 0 rfl rfl rfl) .nil) uc sb (.inl rfl) ⟨⟨_, rfl, ta⟩, rfl⟩
theorem Qgz {P T : Nat} {v : Value} {g : Nat → Rat} (hv : Vser Vq U [] v 0 P g) (sg : ∀ i, Szq (g i) 1) (kg : Skp g P 0) (h1 : 1 ≤ T) (hT : T ≤ P) (hP : P ≤ 100) :
  Ct Tryz.prog 49 [v, .int .i64 (T : Int)] G U M fun v U' D => ∃ r, v = .tuple #[r, .int .i64 0] ∧ Vser Vq U' [] r 0 T g ∧ D = [] := by
 obtain ⟨_, rfl, hv'⟩ := id hv
 obtain ⟨p, c, vs, rfl, -⟩ := id hv'
 refine Qf Tryz.func49 rfl rfl rfl rfl ?_
 repeat (first|refine Qb ?_|refine Qa fun _=>?_|refine w_al fun _=>?_)
 rename_i b2 b4
 refine Qd rfl rfl rfl rfl rfl rfl (fun _ => Vk (ok := Vq) ⟨_, rfl, hv'.up QB uc (List.nil_sublist _)⟩ (by decide) (by decide) (by omega)) ?_
 rintro v U' D hU ⟨rfl, rfl, rfl⟩
 repeat (first|refine Qb ?_|refine Qa fun _=>?_|refine w_al fun _=>?_)
 refine Qj rfl (fun h => absurd h (by omega)) (fun _ => ?_)
 repeat (first|refine Qb ?_|refine Qa fun _=>?_|refine w_al fun _=>?_)
 refine Qd rfl rfl rfl rfl rfl rfl (fun _ => Qgx (P := P) (T := T) (g := g) ⟨_, rfl, hv'.up QB uc (List.nil_sublist _)⟩ sg kg h1 hT hP) ?_
 rintro v11 U11 D hU11 ⟨⟨_, rfl, ta⟩, rfl⟩
 obtain ⟨pa, ca, as1, rfl, -⟩ := id ta
 rw [List.nil_append]
 repeat (first|refine Qb ?_|refine Qa fun _=>?_|refine w_al fun _=>?_)
 exact Qe [] sym rfl (.cons (.cell 0 rfl rfl rfl) (.cons (.tmp rfl) .nil)) uc sb (.inl rfl) ⟨_, rfl, ⟨_, rfl, ta⟩, rfl⟩
def exq (d : Nat) (g : Nat → Rat) (k : Nat) : Rat := if k % d = 0 then g (k / d) else 0
def exi (d : Nat) (g : Nat → Rat) (i k : Nat) : Rat := if k % d = 0 ∧ k / d < i then g (k / d) else 0
set_option maxHeartbeats 4000000 in
theorem QbY {P d : Nat} {v : Value} {g : Nat → Rat} (hv : Vser Vq U [] v 0 P g) (sg : ∀ i, Szq (g i) 1) (kg : Skp g P 0) (h1 : 1 ≤ P) (hP : P ≤ 50) (hd1 : 1 ≤ d) (hd : d ≤ 10) :
  Ct Tryz.prog 48 [v, .int .i64 (d : Int)] G U M fun v U' D => ∃ r, v = .tuple #[r, .int .i64 0] ∧ Vser Vq U' [] r 0 (d * P) (exq d g) ∧ D = [] := by
 have hdP : d * P ≤ 10 * 50 := Nat.mul_le_mul hd hP
 have hdP1 : 1 * 1 ≤ d * P := Nat.mul_le_mul hd1 h1
 have hdi : (d : Int) * (P : Int) = ((d * P : Nat) : Int) := (Int.natCast_mul d P).symm
 obtain ⟨_, rfl, hv⟩ := hv
 obtain ⟨p, c, vs, rfl, -⟩ := id hv
 have hvw := ls_w hv fun i _ => sg i
 refine Qf Tryz.func48 rfl rfl rfl rfl ?_
 repeat (first|refine Qb ?_|refine Qa fun _=>?_|refine w_al fun _=>?_)
 rename_i b2 b4
 refine Qd rfl rfl rfl rfl rfl rfl (fun _ => Vk (ok := Vq) ⟨_, rfl, hv.up QB uc (List.nil_sublist _)⟩ (by decide) (by decide) (by omega)) ?_
 rintro v U' D hU ⟨rfl, rfl, rfl⟩
 repeat (first|refine Qb ?_|refine Qa fun _=>?_|refine w_al fun _=>?_)
 refine Qd rfl rfl rfl rfl rfl rfl (fun _ => QdJ (d := d) hd1 (by omega)) ?_
 rintro v U' D hU ⟨rfl, rfl, rfl⟩
 repeat (first|refine Qb ?_|refine Qa fun _=>?_|refine w_al fun _=>?_)
 refine Qd rfl rfl rfl rfl rfl rfl (fun _ => Vg (N := P) (b := 1) (f := 0) ⟨_, rfl, hvw.up JY uc (List.nil_sublist _)⟩ (by decide) (by decide) (by decide) (by decide) (by omega)) ?_
 rintro v22 U22 D hU22 ⟨s, hs, ⟨_, rfl, ta⟩, rfl⟩
 obtain rfl := hs.uniq kg
 rw [List.nil_append]
 simp only [Nat.sub_zero, Nat.zero_add] at ta
 obtain ⟨pa, ca, as1, rfl, hca, ra, ea⟩ := ta
 rw [show (0 : Int) + ((0 : Nat) : Int) = 0 from rfl]
 repeat (first|refine Qb ?_|refine Qa fun _=>?_|refine w_al fun _=>?_)
 rw [hdi, Int.mul_zero, show (if (if (1000 : Int) - 0 < ((d * P : Nat) : Int) then (1000 : Int) - 0 else ((d * P : Nat) : Int)) > 0 then (if (1000 : Int) - 0 < ((d * P : Nat) : Int) then (1000 : Int) - 0 else ((d * P : Nat) : Int)) else 0) = ((d * P : Nat) : Int) by omega]
 refine QM (m := d * P) (n := d * P) sym rfl rfl rfl rfl rfl rfl rfl rfl rfl (Nat.le_refl _) (by omega) (by omega) rfl rfl rfl rfl (fun b33 => ?_)
 have hrow := Jh (e := TR) (s := 4) (b := b33) (n := d * P) (z := zeroQV.v) rfl (by omega)
 have hel0 : El (Wq 1) U22 (List.replicate (d * P) zeroQV.v) (exi d g 0) := fun k x hk => by
  rw [List.getElem?_replicate] at hk
  split at hk
  ·cases hk
   unfold exi
   rw [if_neg (fun h => absurd h.2 (Nat.not_lt_zero _))]
   exact ⟨zeroQV, rfl, Qbu, Nat.zero_le _, Nat.zero_le _⟩
  ·cases hk
 refine Qh (M' := (b4, .var (.agg #[.int .i64 0, .slice none 0 0]), 30) :: (b2, .var (.agg #[.int .i64 0, .slice pa P ca]), 30) :: ([(b33, .arr (List.replicate (d * P) zeroQV.v), TR)] ++ M)) ?_ pgj
 generalize List.replicate (d * P) zeroQV.v = us0 at hrow hel0 ⊢
 generalize [(b33, Blk.arr us0, TR)] = D0 at hrow ⊢
 try refine Qc ?_
 try refine QA (M' := (b4, .var (.agg #[.int .i64 0, .slice none 0 0]), 30) :: (b2, .var (.agg #[.int .i64 0, .slice pa P ca]), 30) :: (D0 ++ M)) (ULe.refl _) sbk ?_
 refine Ql (fun z E U' M' => ∃ (i : Nat) (us : List Value) (D : MH), i ≤ P ∧ RowO TR 4 D (some ⟨b33, 0, none⟩) (d * P) (d * P) us ∧ El (Wq 1) U' us (exi d g i) ∧ E = [(8, .int .i64 (i : Int)), (7, .slice (some ⟨b33, 0, none⟩) (d * P) (d * P)), (1, .int .i64 (d : Int)), (2, .pointer (some ⟨b2, 0, none⟩)), (4, .pointer (some ⟨b4, 0, none⟩)), (5, .int .i64 0), (6, .int .i64 0)] ∧ ULe U22 U' ∧ M' = (b4, .var (.agg #[.int .i64 0, .slice none 0 0]), 30) :: (b2, .var (.agg #[.int .i64 0, .slice pa P ca]), 30) :: (D ++ M) ∧ z = P - i) (n0 := P - 0) (E0 := [(8, .int .i64 ((0 : Nat) : Int)), (7, .slice (some ⟨b33, 0, none⟩) (d * P) (d * P)), (1, .int .i64 (d : Int)), (2, .pointer (some ⟨b2, 0, none⟩)), (4, .pointer (some ⟨b4, 0, none⟩)), (5, .int .i64 0), (6, .int .i64 0)]) ⟨rfl, rfl, rfl, rfl, rfl, rfl, rfl, trivial⟩ ⟨0, us0, D0, by omega, hrow, hel0, rfl, uc, rfl, rfl⟩ ?_
 clear hrow hel0
 rintro z E U3 M' ⟨i, us, D, hi, hrow, hel, rfl, hU3, rfl, rfl⟩
 have hid : (i : Int) * (d : Int) = ((i * d : Nat) : Int) := (Int.natCast_mul i d).symm
 have hil : i * d ≤ P * d := Nat.mul_le_mul_right d hi
 have hcm : P * d = d * P := Nat.mul_comm P d
 try refine Qc ?_
 refine Qj rfl (fun h3 => ?_) (fun h3 => ?_)
 ·have hin : i < P := by
   rcases Nat.lt_or_ge i P with h4 | h4
   ·exact h4
   ·have : i = P := by omega
    subst this
    omega
  have hij : i * d < d * P := by omega
  obtain ⟨v1, hv1⟩ := ra.at hin
  obtain ⟨x1, rfl, hx1⟩ := ea _ _ hv1
  have hlen := hrow.len.1
  try refine Qc ?_
  refine sl_y (Qg sym rfl rfl rfl rfl rfl rfl ((ra.up uc sb).lt hv1) ((ra.up uc sb).get _ _ hv1).1) rfl rfl rfl rfl ?_; refine sl_y (Qs sym rfl rfl rfl rfl rfl (ra.up uc sb) hv1) rfl rfl rfl rfl ?_
  try refine Qc ?_
  refine QU (j := i * d) hij rfl ?_ (hj := hid)
  refine QK (v := x1.v) (X := (b4, .var (.agg #[.int .i64 0, .slice none 0 0]), 30) :: (b2, .var (.agg #[.int .i64 0, .slice pa P ca]), 30) :: M) hrow pgj hij (fun D3 hr3 => ?_)
  refine Qh (M' := (b4, .var (.agg #[.int .i64 0, .slice none 0 0]), 30) :: (b2, .var (.agg #[.int .i64 0, .slice pa P ca]), 30) :: (D3 ++ M)) ?_ pgj
  try refine Qc ?_
  exact Qi (E' := [(8, .int .i64 ((i : Int) + 1)), (7, .slice (some ⟨b33, 0, none⟩) (d * P) (d * P)), (1, .int .i64 (d : Int)), (2, .pointer (some ⟨b2, 0, none⟩)), (4, .pointer (some ⟨b4, 0, none⟩)), (5, .int .i64 0), (6, .int .i64 0)]) (m := P - (i + 1)) ⟨rfl, rfl, rfl, rfl, rfl, rfl, rfl, trivial⟩ (by omega) ⟨i + 1, us.set (i * d) x1.v, D3, by omega, hr3, VI (fun k x hx hne => by
   have h5 := hel _ _ hx
   have e5 : exi d g (i + 1) k = exi d g i k := by
    unfold exi
    by_cases h6 : k % d = 0
    ·have h7 : k / d ≠ i := fun h8 => hne (by rw [← h8]; have := Nat.div_add_mod k d; rw [h6, Nat.add_zero, Nat.mul_comm] at this; exact this.symm)
     have e8 : (k % d = 0 ∧ k / d < i + 1) ↔ (k % d = 0 ∧ k / d < i) := by omega
     simp only [e8]
    ·rw [if_neg (fun h => h6 h.1), if_neg (fun h => h6 h.1)]
   rw [e5]
   exact JY _ _ _ _ uc h5) (by
   have e5 : exi d g (i + 1) (i * d) = g i := by
    unfold exi
    rw [Nat.mul_mod_left, Nat.mul_div_cancel _ (by omega), if_pos ⟨rfl, by omega⟩]
   rw [e5]
   exact JY _ _ _ _ uc (Vq.w ⟨x1, rfl, hx1⟩ (sg i))), rfl, uc, rfl, rfl⟩
 ·have hiP : P = i := by
   rcases Nat.lt_or_ge i P with h4 | h4
   ·have := Nat.mul_le_mul_right d (show i + 1 ≤ P by omega)
    rw [Nat.add_mul] at this
    omega
   ·omega
  have hser : Ls (Wq 1) 4 (d * P) U3 ((b4, .var (.agg #[.int .i64 0, .slice none 0 0]), 30) :: (b2, .var (.agg #[.int .i64 0, .slice pa P ca]), 30) :: (D ++ M)) (.slice (some ⟨b33, 0, none⟩) (d * P) (d * P)) (exq d g) := ⟨_, _, us, rfl, Nat.le_refl _, hrow.at sb, fun k x hk => by
   have hkl : k < d * P := by
    have := (List.getElem?_eq_some_iff.1 hk).1
    have := hrow.len.1
    omega
   have h5 := hel _ _ hk
   have e5 : exi d g i k = exq d g k := by
    unfold exi exq
    have h6 : k / d < i := by rw [← hiP]; exact (Nat.div_lt_iff_lt_mul (by omega)).2 (by omega)
    simp only [h6, and_true]
   rw [← e5]
   exact h5⟩
  repeat (first|refine Qb ?_|refine Qa fun _=>?_|refine w_al fun _=>?_)
  refine Qd rfl rfl rfl rfl rfl rfl (fun _ => ji (f := 0) (hser.up JY uc sb) (by decide) (by decide) (by omega) (by decide) (by decide)) ?_
  rintro v92 U92 D92 hU92 ⟨s, r, hs, rfl, hvs, rfl⟩
  rw [show min (d * P) (1000 - (0 : Int)).toNat = d * P by omega] at hs hvs
  obtain rfl := hs.uniq ⟨Nat.zero_le _, fun a ha => absurd ha (Nat.not_lt_zero a), fun _ => by
   unfold exq
   rw [Nat.zero_mod, Nat.zero_div, if_pos rfl]
   exact kg.2.2 (by omega)⟩
  simp only [Nat.sub_zero, Nat.zero_add] at hvs
  obtain ⟨_, rfl, hvs⟩ := hvs
  obtain ⟨pv, cv', us', rfl, -⟩ := id hvs
  rw [List.nil_append]
  repeat (first|refine Qb ?_|refine Qa fun _=>?_|refine w_al fun _=>?_)
  exact Qe [] sym rfl (.cons (.cell 0 rfl rfl rfl) (.cons (.tmp rfl) .nil)) uc sb (.inl rfl) ⟨_, rfl, ⟨_, rfl, hvs⟩, rfl⟩
end Go.Proofs.YtjfkodlddladhaaGreat

/- Orthogonal sums of forms: plain. -/
namespace Go.Proofs.YtjfkodlddladhaaGreat
open Go.Hp
open Go.La (Eqm)
variable {G : World} {U U' : UH} {M : MH}
def sgf (n1 n2 : Nat) (f1 f2 : Nat → Int) : Nat → Int := sgc (n1 + n2) n1 n2 f1 f2 n1 n2
theorem jp {n1 n2 i j : Nat} {f1 f2 : Nat → Int} (hi : i < n1) (hj : j < n1) : sgf n1 n2 f1 f2 (i * (n1 + n2) + j) = f1 (i * n1 + j) := by
 unfold sgf sgc
 rw [(dm (show j < n1 + n2 by omega)).1, (dm (show j < n1 + n2 by omega)).2, if_pos ⟨hi, hj⟩]
theorem yz {n1 n2 i j : Nat} {f1 f2 : Nat → Int} (hi : i < n1) (hj : j < n2) : sgf n1 n2 f1 f2 (i * (n1 + n2) + (n1 + j)) = 0 := by
 unfold sgf sgc
 rw [(dm (show n1 + j < n1 + n2 by omega)).1, (dm (show n1 + j < n1 + n2 by omega)).2, if_neg (by omega), if_neg (by omega)]
theorem yc {n1 n2 i j : Nat} {f1 f2 : Nat → Int} (_hi : i < n2) (hj : j < n1) : sgf n1 n2 f1 f2 ((n1 + i) * (n1 + n2) + j) = 0 := by
 unfold sgf sgc
 rw [(dm (show j < n1 + n2 by omega)).1, (dm (show j < n1 + n2 by omega)).2, if_neg (by omega), if_neg (by omega)]
theorem jw {n1 n2 i j : Nat} {f1 f2 : Nat → Int} (hi : i < n2) (hj : j < n2) : sgf n1 n2 f1 f2 ((n1 + i) * (n1 + n2) + (n1 + j)) = f2 (i * n2 + j) := by
 unfold sgf sgc
 rw [(dm (show n1 + j < n1 + n2 by omega)).1, (dm (show n1 + j < n1 + n2 by omega)).2, if_neg (by omega), if_pos ⟨by omega, by omega, by omega⟩, show n1 + i - n1 = i by omega, show n1 + j - n1 = j by omega]
theorem Qhb {n1 n2 : Nat} {f1 f2 : Nat → Int} (x : Nat → Int) : qp (n1 + n2) (sgf n1 n2 f1 f2) x (n1 + n2) = qp n1 f1 x n1 + qp n2 f2 (fun i => x (n1 + i)) n2 := by
 unfold qp rp
 rw [Lr.sm_app]
 refine congr (congrArg _ (Lr.sm_congr fun a ha => ?_)) (Lr.sm_congr fun a ha => ?_)
 ·rw [Lr.sm_app, Lr.sm_congr (n := n1) fun j hj => by rw [jp ha hj], Lr.sm_zero (n := n2) fun j hj => by rw [yz ha hj, Int.zero_mul], Int.add_zero]
 ·rw [Lr.sm_app, Lr.sm_zero (n := n1) fun j hj => by rw [yc ha hj, Int.zero_mul], Lr.sm_congr (n := n2) fun j hj => by rw [jw ha hj], Int.zero_add]
theorem Qhp {n1 n2 : Nat} {f1 f2 : Nat → Int} (x : Nat → Rat) : La.bl (n1 + n2) (gq (n1 + n2) (sgf n1 n2 f1 f2)) x x = La.bl n1 (gq n1 f1) x x + La.bl n2 (gq n2 f2) (fun i => x (n1 + i)) (fun i => x (n1 + i)) := by
 unfold La.bl gq
 rw [La.sm_app]
 refine congr (congrArg _ (La.sm_congr fun a ha => ?_)) (La.sm_congr fun a ha => ?_)
 ·rw [La.sm_app, La.sm_congr (n := n1) fun j hj => by rw [jp hj ha], La.sm_zero (n := n2) fun j hj => by rw [yc hj ha]; exact Rat.mul_zero _, Rat.add_zero]
 ·rw [La.sm_app, La.sm_zero (n := n1) fun j hj => by rw [yz hj ha]; exact Rat.mul_zero _, La.sm_congr (n := n2) fun j hj => by rw [jw hj ha], Rat.zero_add]
theorem qC {n1 n2 i : Nat} (h : i < n1 + n2) : i < n1 ∨ ∃ j, i = n1 + j ∧ j < n2 := by
 rcases Nat.lt_or_ge i n1 with h1 | h1
 ·exact .inl h1
 ·exact .inr ⟨i - n1, by omega, by omega⟩
theorem vS {n1 n2 : Nat} {f1 f2 : Nat → Int} (h1 : chk (n1 : Int) (n1 * n1) f1 = 0) (h2 : chk (n2 : Int) (n2 * n2) f2 = 0) (h8 : n1 + n2 ≤ 8) : chk ((n1 + n2 : Nat) : Int) ((n1 + n2) * (n1 + n2)) (sgf n1 n2 f1 f2) = 0 := by
 obtain ⟨m1, e1, a1, -, -, b1, v1, p1⟩ := QQ h1
 obtain rfl : n1 = m1 := Int.ofNat.inj e1
 obtain ⟨m2, e2, a2, -, -, b2, v2, p2⟩ := QQ h2
 obtain rfl : n2 = m2 := Int.ofNat.inj e2
 obtain ⟨s1, d1, -⟩ := JC v1 p1
 obtain ⟨s2, d2, -⟩ := JC v2 p2
 have hev : Evn (n1 + n2) (sgf n1 n2 f1 f2) := fun i hi => by
  rcases qC hi with gi | ⟨i', rfl, gi⟩
  ·refine ⟨fun k hk => ?_, ?_⟩
   ·rcases qC hk with gk | ⟨k', rfl, gk⟩
    ·rw [jp gi gk, jp gk gi]; exact (v1 i gi).1 k gk
    ·rw [yz gi gk, yc gk gi]
   ·rw [jp gi gi]; exact (v1 i gi).2
  ·refine ⟨fun k hk => ?_, ?_⟩
   ·rcases qC hk with gk | ⟨k', rfl, gk⟩
    ·rw [yc gi gk, yz gk gi]
    ·rw [jw gi gk, jw gk gi]; exact (v2 i' gi).1 k' gk
   ·rw [jw gi gi]; exact (v2 i' gi).2
 have hsH : ∀ i j, i < n1 + n2 → j < n1 + n2 → gq (n1 + n2) (sgf n1 n2 f1 f2) i j = gq (n1 + n2) (sgf n1 n2 f1 f2) j i := fun i j hi hj => congrArg (fun z : Int => (z : Rat)) ((hev i hi).1 j hj)
 have hpH : La.Pdf (n1 + n2) (gq (n1 + n2) (sgf n1 n2 f1 f2)) := fun x ⟨j, hj, hx⟩ => by
  rw [Qhp]
  have q1 := Bx.pdf_nonneg d1 x
  have q2 := Bx.pdf_nonneg d2 (fun i => x (n1 + i))
  rcases qC hj with gj | ⟨j', rfl, gj⟩
  ·have q3 := d1 x ⟨j, gj, hx⟩
   grind
  ·have q3 := d2 (fun i => x (n1 + i)) ⟨j', gj, hx⟩
   grind
 have hpm : Pdm (n1 + n2) (sgf n1 n2 f1 f2) := fun k _ hk => (La.pdf_minors hsH hpH k hk).2
 unfold chk
 rw [Int.toNat_natCast, if_neg (by omega), if_neg (fun h => h (Int.natCast_mul _ _)), if_neg (Classical.not_not.2 (show ∀ k, k < (n1 + n2) * (n1 + n2) → -1000 ≤ sgf n1 n2 f1 f2 k ∧ sgf n1 n2 f1 f2 k ≤ 1000 from fun k hk => QdC rfl b1 b2 hk)), if_neg (Classical.not_not.2 hev), if_neg (Classical.not_not.2 hpm)]
end Go.Proofs.YtjfkodlddladhaaGreat

/- Orthogonal sums and multiples of forms: the counts. -/
namespace Go.Proofs.YtjfkodlddladhaaGreat
open Go.Hp
open Go.La (Eqm)
variable {G : World} {U U' : UH} {M : MH}
theorem Qgy {n1 n2 : Nat} {f1 f2 : Nat → Int} {X1 X2 : Nat → Nat → Rat} (h1 : chk (n1 : Int) (n1 * n1) f1 = 0) (h2 : chk (n2 : Int) (n2 * n2) f2 = 0) (h8 : n1 + n2 ≤ 8) (k1 : Inv n1 f1 X1) (k2 : Inv n2 f2 X2) :
  ∃ X, Inv (n1 + n2) (sgf n1 n2 f1 f2) X ∧ (∀ i, i < n1 → X i i = X1 i i) ∧ ∀ i, i < n2 → X (n1 + i) (n1 + i) = X2 i i := by
 obtain ⟨m, e, a1, a8, -, b, v, p⟩ := QQ (vS h1 h2 h8)
 obtain rfl := Int.ofNat.inj e
 obtain ⟨X, hX⟩ : ∃ X : Nat → Nat → Rat, X = fun i j => if i < n1 ∧ j < n1 then X1 i j else if n1 ≤ i ∧ n1 ≤ j then X2 (i - n1) (j - n1) else 0 := ⟨_, rfl⟩
 have x1 : ∀ i j, i < n1 → j < n1 → X i j = X1 i j := fun i j hi hj => by rw [hX]; exact if_pos ⟨hi, hj⟩
 have x2 : ∀ i j, i < n1 → X i (n1 + j) = 0 := fun i j hi => by rw [hX]; show (if _ then _ else _) = _; rw [if_neg (by omega), if_neg (by omega)]
 have x3 : ∀ i j, j < n1 → X (n1 + i) j = 0 := fun i j hj => by rw [hX]; show (if _ then _ else _) = _; rw [if_neg (by omega), if_neg (by omega)]
 have x4 : ∀ i j, X (n1 + i) (n1 + j) = X2 i j := fun i j => by rw [hX]; show (if _ then _ else _) = _; rw [if_neg (by omega), if_pos (by omega), show n1 + i - n1 = i by omega, show n1 + j - n1 = j by omega]
 refine ⟨X, ym b v p a1 a8 fun i j hi hj => ?_, fun i hi => x1 i i hi hi, fun i _ => x4 i i⟩
 show (La.sm (n1 + n2) fun k => X i k * ((sgf n1 n2 f1 f2 (k * (n1 + n2) + j) : Int) : Rat)) = if i = j then (1 : Rat) else 0
 rw [La.sm_app]
 rcases qC hi with gi | ⟨i', rfl, gi⟩
 ·rw [La.sm_zero (n := n2) fun k hk => by rw [x2 i k gi, Rat.zero_mul], Rat.add_zero]
  rcases qC hj with gj | ⟨j', rfl, gj⟩
  ·rw [La.sm_congr (n := n1) fun k hk => by rw [x1 i k gi hk, jp hk gj]]
   exact k1.left i j gi gj
  ·rw [La.sm_zero (n := n1) fun k hk => by rw [yz hk gj]; exact Rat.mul_zero _, if_neg (by omega)]
 ·rw [La.sm_zero (n := n1) fun k hk => by rw [x3 i' k hk, Rat.zero_mul], Rat.zero_add]
  rcases qC hj with gj | ⟨j', rfl, gj⟩
  ·rw [La.sm_zero (n := n2) fun k hk => by rw [yc hk gj]; exact Rat.mul_zero _, if_neg (by omega)]
  ·rw [La.sm_congr (n := n2) fun k hk => by rw [x4 i' k, jw hk gj]]
   refine (k2.left i' j' gi gj).trans ?_
   show (if i' = j' then (1 : Rat) else 0) = _
   by_cases e : i' = j'
   ·rw [if_pos e, if_pos (by omega)]
   ·rw [if_neg e, if_neg (by omega)]
theorem yp {n : Nat} {f x : Nat → Int} (he : Evn n f) : qp n f x n = 2 * qv n f x := by
 obtain ⟨z, hz⟩ := Qgm (x := x) he
 unfold qv
 rw [hz, Int.mul_tdiv_cancel_left _ (by decide)]
theorem Qhm {n1 n2 q : Nat} {f1 f2 : Nat → Int} {b b1 b2 : Nat → Nat} (h1 : chk (n1 : Int) (n1 * n1) f1 = 0) (h2 : chk (n2 : Int) (n2 * n2) f2 = 0) (h8 : n1 + n2 ≤ 8) (e1 : ∀ i, i < n1 → b i = b1 i) (e2 : ∀ i, i < n2 → b (n1 + i) = b2 i) :
  cv (n1 + n2) (sgf n1 n2 f1 f2) b (Bx.pre b (n1 + n2)) q = Bx.sumn (q + 1) fun j => cv n1 f1 b1 (Bx.pre b1 n1) j * cv n2 f2 b2 (Bx.pre b2 n2) (q - j) := by
 obtain ⟨m, e, -, -, -, -, v, p⟩ := QQ (vS h1 h2 h8)
 obtain rfl := Int.ofNat.inj e
 obtain ⟨m1, e, -, -, -, -, v1, p1⟩ := QQ h1
 obtain rfl : n1 = m1 := Int.ofNat.inj e
 obtain ⟨m2, e, -, -, -, -, v2, p2⟩ := QQ h2
 obtain rfl : n2 = m2 := Int.ofNat.inj e
 have d := (JC v p).2.1
 have d1 := (JC v1 p1).2.1
 have d2 := (JC v2 p2).2.1
 have hvn : ∀ k, vn (n1 + n2) (sgf n1 n2 f1 f2) b k = vn n1 f1 b (k / Bx.all (fun i => b (n1 + i)) n2) + vn n2 f2 (fun i => b (n1 + i)) (k % Bx.all (fun i => b (n1 + i)) n2) := fun k => by
  have q0 := ve (k := k) (b := b) d
  have q1 := ve (k := k / Bx.all (fun i => b (n1 + i)) n2) (b := b) d1
  have q2 := ve (k := k % Bx.all (fun i => b (n1 + i)) n2) (b := fun i => b (n1 + i)) d2
  have t0 := yp (x := Bx.vec b (n1 + n2) k) v
  rw [Qhb, yp v1, yp v2, qR (y := Bx.vec b n1 (k / Bx.all (fun i => b (n1 + i)) n2)) (fun i hi => Bx.vec_left hi), qR (n := n2) (y := Bx.vec (fun i => b (n1 + i)) n2 (k % Bx.all (fun i => b (n1 + i)) n2)) (fun i hi => Bx.vec_right hi)] at t0
  omega
 unfold cv
 rw [← Bx.pre_vol, Bx.all_app, Bx.cnt_congr (g := fun k => vn n1 f1 b (k / Bx.all (fun i => b (n1 + i)) n2) + vn n2 f2 (fun i => b (n1 + i)) (k % Bx.all (fun i => b (n1 + i)) n2) == q) fun k _ => by rw [hvn k], Bx.cnt_conv (V := Bx.all (fun i => b (n1 + i)) n2) (Bx.vol_pos _ _ _) (vn n1 f1 b) (vn n2 f2 (fun i => b (n1 + i))) q]
 refine Bx.sumn_congr fun j _ => ?_
 rw [Bx.pre_vol, Bx.pre_vol, Jt e1, Jt e2]
 exact congr (congrArg _ (Bx.cnt_congr fun k _ => by rw [yG e1])) (Bx.cnt_congr fun k _ => by rw [yG (f := f2) (k := k) e2])
theorem Qeh {n : Nat} {f : Nat → Int} {b : Nat → Nat} : 1 ≤ cv n f b (Bx.pre b n) 0 := by
 obtain ⟨k, hk, hv⟩ := Bx.vec_ex (b := b) n (fun _ => 0) fun i _ => ⟨by omega, by omega⟩
 have h0 : vn n f b k = 0 := by
  unfold vn
  rw [qR hv]
  have : qp n f (fun _ => 0) n = 0 := by
   unfold qp
   exact Lr.sm_zero fun a _ => Int.zero_mul _
  unfold qv
  rw [this]; rfl
 unfold cv
 rw [← Bx.pre_vol, Bx.cnt_drop (f := fun t => vn n f b t == 0) hk (beq_iff_eq.2 h0)]
 omega
theorem Qhz {n : Nat} {f g x : Nat → Int} {d : Int} (h : ∀ k, g k = d * f k) : qp n g x n = d * qp n f x n := by
 unfold qp rp
 rw [← Lr.sm_mul]
 refine Lr.sm_congr fun a _ => ?_
 rw [Lr.sm_congr (g := fun j => d * (f (a * n + j) * x j)) fun j _ => by rw [h, Int.mul_assoc], Lr.sm_mul, Int.mul_left_comm]
theorem QfO {n : Nat} {f g : Nat → Int} {d : Int} (h1 : chk (n : Int) (n * n) f = 0) (hd : 1 ≤ d) (h : ∀ k, g k = d * f k) (hi : Ins (n * n) g) : chk (n : Int) (n * n) g = 0 := by
 obtain ⟨m, e, a1, a8, -, b, v, p⟩ := QQ h1
 obtain rfl : n = m := Int.ofNat.inj e
 obtain ⟨s, dd, -⟩ := JC v p
 have hev : Evn n g := fun i hi => ⟨fun k hk => by rw [h, h, (v i hi).1 k hk], by
  rw [h]
  have h2 := (v i hi).2
  rw [← Int.dvd_iff_tmod_eq_zero] at h2 ⊢
  exact Int.dvd_mul_of_dvd_right h2⟩
 have hd0 : (0 : Rat) < (d : Rat) := Rat.intCast_lt_intCast.2 (show (0 : Int) < d by omega)
 have hbl : ∀ x : Nat → Rat, La.bl n (gq n g) x x = (d : Rat) * La.bl n (gq n f) x x := fun x => by
  unfold La.bl gq
  rw [← La.sm_mul]
  refine La.sm_congr fun j _ => ?_
  rw [← Rat.mul_assoc, ← La.sm_mul]
  congr 1
  exact La.sm_congr fun i _ => by rw [h, Rat.intCast_mul, ← Rat.mul_assoc, ← Rat.mul_assoc, Rat.mul_comm (x i)]
 have hsH : ∀ i j, i < n → j < n → gq n g i j = gq n g j i := fun i j hi hj => congrArg (fun z : Int => (z : Rat)) ((hev i hi).1 j hj)
 have hpH : La.Pdf n (gq n g) := fun x hx => by
  rw [hbl]
  exact Rat.mul_pos hd0 (dd x hx)
 have hpm : Pdm n g := fun k _ hk => (La.pdf_minors hsH hpH k hk).2
 unfold chk
 rw [Int.toNat_natCast, if_neg (by omega), if_neg (fun h => h (Int.natCast_mul _ _)), if_neg (Classical.not_not.2 (show ∀ k, k < n * n → -1000 ≤ g k ∧ g k ≤ 1000 from hi)), if_neg (Classical.not_not.2 hev), if_neg (Classical.not_not.2 hpm)]
theorem mul_inv {n : Nat} {f g : Nat → Int} {d : Int} {X : Nat → Nat → Rat} (h1 : chk (n : Int) (n * n) g = 0) (hd : 1 ≤ d) (h : ∀ k, g k = d * f k) (hX : Inv n f X) : Inv n g (fun i j => (d : Rat)⁻¹ * X i j) := by
 obtain ⟨m, e, a1, a8, -, b, v, p⟩ := QQ h1
 obtain rfl : n = m := Int.ofNat.inj e
 have hd0 : (d : Rat) ≠ 0 := fun h0 => by
  have := Rat.intCast_inj.1 (h0.trans (show (0 : Rat) = ((0 : Int) : Rat) from rfl))
  omega
 refine ym b v p a1 a8 fun i j hi hj => ?_
 rw [← hX.left i j hi hj]
 refine La.sm_congr fun k _ => ?_
 show (d : Rat)⁻¹ * X i k * ((g (k * n + j) : Int) : Rat) = X i k * ((f (k * n + j) : Int) : Rat)
 rw [h, Rat.intCast_mul, Rat.mul_comm ((d : Rat)⁻¹), Rat.mul_assoc, ← Rat.mul_assoc ((d : Rat)⁻¹), Rat.inv_mul_cancel _ hd0, Rat.one_mul]
theorem Qhh {m i : Nat} {d : Nat} {X : Nat → Nat → Rat} (hd : 1 ≤ d) : bd (fun i j => ((d : Int) : Rat)⁻¹ * X i j) (d * m) i = bd X m i := by
 have hd0 : ((d : Int) : Rat) ≠ 0 := fun h0 => by
  have := Rat.intCast_inj.1 (h0.trans (show (0 : Rat) = ((0 : Int) : Rat) from rfl))
  omega
 unfold bd
 have e : (((2 * ((d * m : Nat) : Int) : Int)) : Rat) * (((d : Int) : Rat)⁻¹ * X i i) = ((2 * (m : Int) : Int) : Rat) * X i i := by
  rw [Int.natCast_mul, Int.mul_left_comm, Rat.intCast_mul, ← Rat.mul_assoc, Rat.mul_comm ((d : Int) : Rat), Rat.mul_assoc, Rat.mul_assoc, ← Rat.mul_assoc ((d : Int) : Rat), Rat.mul_inv_cancel _ hd0, Rat.one_mul]
 rw [e]
theorem Qhr {n q N : Nat} {d : Nat} {f g : Nat → Int} {b : Nat → Nat} (hd : 1 ≤ d) (h : ∀ k, g k = (d : Int) * f k) (h1 : chk (n : Int) (n * n) f = 0) (h2 : chk (n : Int) (n * n) g = 0) : cv n g b N q = if q % d = 0 then cv n f b N (q / d) else 0 := by
 obtain ⟨m, e, -, -, -, -, v, p⟩ := QQ h1
 obtain rfl : n = m := Int.ofNat.inj e
 obtain ⟨m, e, -, -, -, -, v2, p2⟩ := QQ h2
 obtain rfl : n = m := Int.ofNat.inj e
 have d1 := (JC v p).2.1
 have d2 := (JC v2 p2).2.1
 have hvn : ∀ k, vn n g b k = d * vn n f b k := fun k => by
  have q1 := ve (k := k) (b := b) d1
  have q2 := ve (k := k) (b := b) d2
  have t0 := yp (x := Bx.vec b n k) v2
  rw [Qhz h, yp v, q1, q2, Int.mul_left_comm] at t0
  have : (d : Int) * (vn n f b k : Int) = (vn n g b k : Int) := by omega
  rw [← Int.natCast_mul] at this
  exact (Int.ofNat.inj this).symm
 unfold cv
 by_cases e : q % d = 0
 ·rw [if_pos e]
  refine Bx.cnt_congr fun k _ => ?_
  rw [hvn k, Bool.eq_iff_iff, beq_iff_eq, beq_iff_eq]
  constructor
  ·rintro rfl; rw [Nat.mul_div_cancel_left _ (by omega)]
  ·intro h5; rw [h5]; exact Nat.mul_div_cancel' (Nat.dvd_of_mod_eq_zero e)
 ·rw [if_neg e]
  refine Bx.cnt_zero fun k _ => ?_
  rw [hvn k, beq_eq_false_iff_ne]
  rintro rfl
  exact e (Nat.mul_mod_right ..)
end Go.Proofs.YtjfkodlddladhaaGreat
