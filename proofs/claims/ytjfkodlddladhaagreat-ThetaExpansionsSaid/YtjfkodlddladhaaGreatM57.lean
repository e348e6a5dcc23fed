/- Texts of this seat's own, merged: each begins with its own remark. -/
import Derived.Test.YtjfkodlddladhaaGreatM56
import Derived.Test.YtjfkodlddladhaaGreatM50
import Derived.Test.YtjfkodlddladhaaGreatRt
/- Walks of layer 36: Vectors of the program. -/
namespace Go.Proofs.YtjfkodlddladhaaGreat
open Go.Hp
variable {G : World} {U U' : UH} {M : MH}
abbrev TIss : Nat := 49
def VecI (n : Nat) (A : Nat → Nat → Int) (b9 b3 : Nat) (m : Int) (X : MH) (U : UH) (t : Nat) (L : MH) : Prop :=
 ∃ (Q : Option Addr) (C : Nat) (svs : List Value) (Do : MH) (F : List MH), L = (b9, .var (.slice Q t C), TIss) :: (b3, .var (.int .i64 m), TInt) :: (Do ++ (F.flatten ++ X)) ∧ RowO TIs 1 Do Q t C svs ∧ Gz Vz zO n U svs F A
def pv (n : Nat) (f : Nat → Int) (b : Nat → Nat) (m : Nat) : Nat → Bool := fun k => vn n f b k == m
def vv (n : Nat) (f : Nat → Int) (b : Nat → Nat) (m : Nat) : Nat → Nat → Int := fun i => Bx.vec b n ((Bx.idx (pv n f b m) (Bx.pre b n)).getD i 0)
def VecO (n : Nat) (f : Nat → Int) (m : Nat) (U : UH) (v : Value) : Prop :=
 ∃ X, Inv n f X ∧ (Bx.pre (bd X m) n ≤ 1048576 → ∃ s, v = .tuple #[s, .int .i64 0] ∧ Ls (Vrs Vz n) 1 (Bx.idx (pv n f (bd X m) m) (Bx.pre (bd X m) n)).length U [] s (vv n f (bd X m) m)) ∧
  (1048576 < Bx.pre (bd X m) n → v = .tuple #[.slice none 0 0, .int .i64 7])
def VecC (n : Nat) (f : Nat → Int) (m : Nat) (U : UH) (D : MH) (v : Value) : Prop :=
 ∃ X, Inv n f X ∧ (Bx.pre (bd X m) n ≤ 1048576 → ∃ s, v = .tuple #[s, .int .i64 0] ∧ Goz Vz zO (Bx.idx (pv n f (bd X m) m) (Bx.pre (bd X m) n)).length n U D s (vv n f (bd X m) m)) ∧
  (1048576 < Bx.pre (bd X m) n → v = .tuple #[.slice none 0 0, .int .i64 7])
end Go.Proofs.YtjfkodlddladhaaGreat

/- Layer 36: the vectors of a number come in pairs (plain). -/
namespace Go.Proofs.YtjfkodlddladhaaGreat
open Go.Hp
variable {G : World} {U U' : UH} {M : MH}
def ws (n : Nat) (f x : Nat → Int) (j k : Nat) : Int := (Lr.sm j fun a => Lr.sm n fun k => x a * x k * f (a * n + k)) + Lr.sm k fun t => x j * x t * f (j * n + t)
theorem ws_qp {n : Nat} {f x : Nat → Int} : (Lr.sm n fun a => Lr.sm n fun k => x a * x k * f (a * n + k)) = qp n f x n := by
 unfold qp rp
 exact Lr.sm_congr fun a _ => by
  rw [← Lr.sm_mul]
  exact Lr.sm_congr fun j _ => by rw [Int.mul_assoc, Int.mul_comm (x j)]
theorem ws_bd {n : Nat} {f x : Nat → Int} {j k : Nat} (hn : n ≤ 8) (hj : j < n) (hk : k ≤ n) (hb : ∀ k, k < n * n → -1000 ≤ f k ∧ f k ≤ 1000) (hx : ∀ i, i < n → -1048576 ≤ x i ∧ x i ≤ 1048576) : -80000000000000000 ≤ ws n f x j k ∧ ws n f x j k ≤ 80000000000000000 := by
 have hone : ∀ a t, a < n → t < n → -(1048576 * 1048576 * 1000) ≤ x a * x t * f (a * n + t) ∧ x a * x t * f (a * n + t) ≤ 1048576 * 1048576 * 1000 := fun a t ha ht => mul_bd (mul_bd (hx a ha) (hx t ht)) (hb _ (ij_lt ha ht))
 have h1 : ∀ a, a < j → -(8 * (1048576 * 1048576 * 1000)) ≤ (Lr.sm n fun k => x a * x k * f (a * n + k)) ∧ (Lr.sm n fun k => x a * x k * f (a * n + k)) ≤ 8 * (1048576 * 1048576 * 1000) := fun a ha => by
  have := sm_absl (c := 1048576 * 1048576 * 1000) (n := n) (f := fun k => x a * x k * f (a * n + k)) fun t ht => hone a t (by omega) ht
  have h2 : ((n : Nat) : Int) * (1048576 * 1048576 * 1000) ≤ 8 * (1048576 * 1048576 * 1000) := Int.mul_le_mul_of_nonneg_right (by omega) (by decide)
  omega
 have h3 := sm_absl (n := j) h1
 have h4 : ((j : Nat) : Int) * (8 * (1048576 * 1048576 * 1000)) ≤ 8 * (8 * (1048576 * 1048576 * 1000)) := Int.mul_le_mul_of_nonneg_right (by omega) (by decide)
 have h5 := sm_absl (c := 1048576 * 1048576 * 1000) (n := k) (f := fun t => x j * x t * f (j * n + t)) fun t ht => hone j t hj (by omega)
 have h6 : ((k : Nat) : Int) * (1048576 * 1048576 * 1000) ≤ 8 * (1048576 * 1048576 * 1000) := Int.mul_le_mul_of_nonneg_right (by omega) (by decide)
 unfold ws
 omega
end Go.Proofs.YtjfkodlddladhaaGreat

/- Walks of layer 36's reference: first, value, next. -/
namespace Go.Proofs.YtjfkodlddladhaaGreat
open Go.Hp
variable {G : World} {U U' : UH} {M : MH}
theorem r36first_ct {n c : Nat} {p : Option Addr} {bs : List Value} {b : Nat → Nat} (rw1 : RowAt U [] 1 p n bs) (el : El Vz U bs fun i => (b i : Int)) (hb : ∀ i, i < n → b i ≤ 1048576) (hn : n ≤ 8) :
  Ct Tryz.prog 64 [.slice p n c] G U M fun v U' D => Lo Vz TInt 1 n U' D v (fun i => -(b i : Int)) ∧ ULe U U' := by
 have wneg : ∀ a, a < n → IntKind.i64.wrap (0 - ((b a : Nat) : Int)) = -((b a : Nat) : Int) := fun a ha => by
  have := hb a ha
  rw [IntWalk.i64_in _ (by omega)]; omega
 refine ct_of_st Tryz.func64 rfl rfl rfl rfl ?_
 repeat (first|refine run_S ?_|refine w_box fun _=>?_|refine w_al fun _=>?_)
 try refine st_anti (M' := ([]) ++ M) (ULe.refl _) sbk ?_
 refine st_loop (fun z E U' M' => ∃ (i : Nat) (q : Option Addr) (C : Nat) (vs : List Value) (D : MH), i ≤ n ∧ RowO TInt 1 D q i C vs ∧ El Vz U' vs (fun i => -(b i : Int)) ∧ E = [(3, .slice q i C), (4, .int .i64 (i : Int)), (0, .slice p n c)] ∧ ULe U U' ∧ M' = D ++ M ∧ z = n - i) (n0 := n - 0) (E0 := [(3, .slice none 0 0), (4, .int .i64 ((0 : Nat) : Int)), (0, .slice p n c)]) ⟨rfl, rfl, rfl, trivial⟩ ⟨0, none, 0, [], [], by omega, RowO.nil, El.nil, rfl, uc, rfl, rfl⟩ ?_
 rintro z E U1 M' ⟨i, q, C, vs, D, hi, hrow, hel, rfl, hU1, rfl, rfl⟩
 try refine run_s ?_
 refine st_dec rfl (fun h => ?_) (fun h => ?_)
 ·have hin : i < n := by omega
  have hbi := hb i hin
  obtain ⟨v1, hv1⟩ := rw1.at hin
  obtain ⟨hv, hz⟩ := el _ _ hv1
  obtain rfl : v1 = .int .i64 ((b i : Nat) : Int) := hv
  try refine run_s ?_
  refine sl_y (yl_index sym rfl rfl rfl rfl rfl rfl ((rw1.up uc sb).lt hv1) ((rw1.up uc sb).get _ _ hv1).1) rfl rfl rfl rfl ?_; refine sl_y (yl_loadR1 sym rfl rfl rfl rfl (rw1.up uc sb) hv1 rfl) rfl rfl rfl rfl ?_
  try refine run_s ?_
  rw [wneg i hin]
  refine w_push hrow (X := M) (List.Perm.refl _) (fun b2 P2 C2 D2 hr2 => ?_)
  try refine run_s ?_
  exact sk_again (E' := [(3, .slice P2 (i + 1) C2), (4, .int .i64 ((i : Int) + 1)), (0, .slice p n c)]) (m := n - (i + 1)) ⟨rfl, rfl, rfl, trivial⟩ (by omega) ⟨i + 1, P2, C2, _, D2, by omega, hr2, snoc_ok hrow.len.1 (hel.up KeptC.out uc) ⟨rfl, by omega⟩, rfl, uc, rfl, rfl⟩
 ·obtain rfl : n = i := by omega
  try refine run_s ?_
  exact sk_ret D sym rfl (.cons (.tmp rfl) .nil) uc sb (.inl rfl) ⟨⟨_, _, vs, rfl, hrow, hel⟩, uc⟩
theorem r36value_ct {n c cx : Nat} {p px : Option Addr} {vs xs : List Value} {f x : Nat → Int} (rw1 : RowAt U [] 1 p (n * n) vs) (el : El Vz U vs f) (hb : ∀ k, k < n * n → -1000 ≤ f k ∧ f k ≤ 1000) (rx : RowAt U M 1 px n xs) (ex : El Vz U xs x) (hx : ∀ i, i < n → -1048576 ≤ x i ∧ x i ≤ 1048576) (hn : n ≤ 8) :
  Ct Tryz.prog 66 [.agg #[.int .i64 (n : Int), .slice p (n * n) c], .slice px n cx] G U M fun v U' D => v = .int .i64 (qv n f x) ∧ U = U' ∧ D = [] := by
 have hnn : n * n ≤ 8 * 8 := Nat.mul_le_mul hn hn
 refine ct_of_st Tryz.func66 rfl rfl rfl rfl ?_
 repeat (first|refine run_S ?_|refine w_box fun _=>?_|refine w_al fun _=>?_)
 rename_i b2
 try refine st_anti (M' := (b2, .var (.agg #[.int .i64 (n : Int), .slice p (n * n) c]), 24) :: M) (ULe.refl _) sbk ?_
 refine st_loop (fun z E U' M' => ∃ (j : Nat), j ≤ n ∧ U = U' ∧ E = [(6, .int .i64 (j : Int)), (5, .int .i64 (ws n f x j 0)), (2, .pointer (some ⟨b2, 0, none⟩)), (1, .slice px n cx)] ∧ ULe U U' ∧ M' = (b2, .var (.agg #[.int .i64 (n : Int), .slice p (n * n) c]), 24) :: M ∧ z = n - j) (n0 := n - 0) (E0 := [(6, .int .i64 ((0 : Nat) : Int)), (5, .int .i64 (ws n f x 0 0)), (2, .pointer (some ⟨b2, 0, none⟩)), (1, .slice px n cx)]) ⟨rfl, rfl, rfl, rfl, trivial⟩ ⟨0, by omega, rfl, rfl, uc, rfl, rfl⟩ ?_
 rintro z E U1 M' ⟨j, hj, rfl, rfl, hU1, rfl, rfl⟩
 try refine run_s ?_
 refine st_dec rfl (fun h6 => ?_) (fun h6 => ?_)
 ·have hjn : j < n := by omega
  obtain ⟨u1, hu1⟩ := rx.at hjn
  obtain ⟨hv1, hz1⟩ := ex _ _ hu1
  subst hv1
  try refine run_s ?_
  try refine st_anti (M' := (b2, .var (.agg #[.int .i64 (n : Int), .slice p (n * n) c]), 24) :: M) (ULe.refl _) sbk ?_
  refine st_loop (fun z E U' M' => ∃ (k : Nat), k ≤ n ∧ U = U' ∧ E = [(7, .int .i64 (k : Int)), (6, .int .i64 (j : Int)), (5, .int .i64 (ws n f x j k)), (2, .pointer (some ⟨b2, 0, none⟩)), (1, .slice px n cx)] ∧ ULe U U' ∧ M' = (b2, .var (.agg #[.int .i64 (n : Int), .slice p (n * n) c]), 24) :: M ∧ z = n - k) (n0 := n - 0) (E0 := [(7, .int .i64 ((0 : Nat) : Int)), (6, .int .i64 (j : Int)), (5, .int .i64 (ws n f x j 0)), (2, .pointer (some ⟨b2, 0, none⟩)), (1, .slice px n cx)]) ⟨rfl, rfl, rfl, rfl, rfl, trivial⟩ ⟨0, by omega, rfl, rfl, uc, rfl, rfl⟩ ?_
  rintro z E U10 M' ⟨k, hk, rfl, rfl, hU10, rfl, rfl⟩
  try refine run_s ?_
  refine st_dec rfl (fun h7 => ?_) (fun h7 => ?_)
  ·have hkn : k < n := by omega
   obtain ⟨u2, hu2⟩ := rx.at hkn
   obtain ⟨hv2, hz2⟩ := ex _ _ hu2
   subst hv2
   have hl := ij_lt hjn hkn
   obtain ⟨u4, hu4⟩ := rw1.at hl
   obtain ⟨hv4, hz4⟩ := el _ _ hu4
   subst hv4
   have m1 := mul_bd (hx j hjn) (hx k hkn)
   have m2 := mul_bd m1 (hb _ hl)
   have r1 := ws_bd (x := x) hn hjn (show k ≤ n by omega) hb hx
   have r2 := ws_bd (x := x) hn hjn (show k + 1 ≤ n by omega) hb hx
   have e1 : ws n f x j (k + 1) = ws n f x j k + x j * x k * f (j * n + k) := (Int.add_assoc _ _ _).symm
   have e2 : (j : Int) * (n : Int) = ((j * n : Nat) : Int) := (Int.natCast_mul j n).symm
   try refine run_s ?_
   refine st_drawM [22] [0, 1, 2, 3, 4, 5, 6, 7, 8, 9, 10, 11, 12, 13, 14, 15, 16, 17, 18, 19, 20, 21, 22] sym (by kernel_rfl) ?_
   try refine run_s ?_
   refine sl_y (yl_index sym rfl rfl rfl rfl rfl rfl ((rx.up uc sb).lt hu1) ((rx.up uc sb).get _ _ hu1).1) rfl rfl rfl rfl ?_; refine sl_y (yl_loadR1 sym rfl rfl rfl rfl (rx.up uc sb) hu1 rfl) rfl rfl rfl rfl ?_
   try refine run_s ?_
   refine sl_y (yl_index sym rfl rfl rfl rfl rfl rfl ((rx.up uc sb).lt hu2) ((rx.up uc sb).get _ _ hu2).1) rfl rfl rfl rfl ?_; refine sl_y (yl_loadR1 sym rfl rfl rfl rfl (rx.up uc sb) hu2 rfl) rfl rfl rfl rfl ?_
   try refine run_s ?_
   refine sl_y (yl_index sym rfl rfl rfl rfl rfl ( (show _ = ((j * n + k : Nat) : Int) by omega)) ((rw1.up uc sb).lt hu4) ((rw1.up uc sb).get _ _ hu4).1) rfl rfl rfl rfl ?_; refine sl_y (yl_loadR1 sym rfl rfl rfl rfl (rw1.up uc sb) hu4 rfl) rfl rfl rfl rfl ?_
   try refine run_s ?_
   rw [← e1]
   exact sk_again (E' := [(7, .int .i64 ((k : Int) + 1)), (6, .int .i64 (j : Int)), (5, .int .i64 (ws n f x j (k + 1))), (2, .pointer (some ⟨b2, 0, none⟩)), (1, .slice px n cx)]) (m := n - (k + 1)) ⟨rfl, rfl, rfl, rfl, rfl, trivial⟩ (by omega) ⟨k + 1, by omega, rfl, rfl, uc, rfl, rfl⟩
  ·obtain rfl : n = k := by omega
   have e1 : ws n f x (j + 1) 0 = ws n f x j n := Int.add_zero _
   rw [← e1]
   try refine run_s ?_
   exact sk_again (E' := [(6, .int .i64 ((j : Int) + 1)), (5, .int .i64 (ws n f x (j + 1) 0)), (2, .pointer (some ⟨b2, 0, none⟩)), (1, .slice px n cx)]) (m := n - (j + 1)) ⟨rfl, rfl, rfl, rfl, trivial⟩ (by omega) ⟨j + 1, by omega, rfl, rfl, uc, rfl, rfl⟩
 ·obtain rfl : n = j := by omega
  have e1 : ws n f x n 0 = qp n f x n := by rw [← ws_qp]; exact Int.add_zero _
  have q1 := qp_bd hn (Nat.le_refl n) hb hx
  have eq : IntKind.i64.wrap ((qp n f x n).tdiv 2) = qv n f x := IntWalk.i64_in _ (by
   have := @tdiv_two (qp n f x n)
   omega)
  rw [e1]
  try refine run_s ?_
  exact sk_ret [] sym rfl (.cons (.tmp rfl) .nil) uc sb (.inl rfl) ⟨by rw [← eq]; rfl, rfl, rfl⟩
theorem r36next_cx {n k cb cx : Nat} {pb px : Option Addr} {bs xs : List Value} {b : Nat → Nat} {Dx X : MH} (rw2 : RowAt U [] 1 pb n bs) (el2 : El Vz U bs fun i => (b i : Int)) (hbb : ∀ i, i < n → b i ≤ 1048576) (hrow : RowO TInt 1 Dx px n cx xs) (hex : El Vz U xs (Bx.vec b n k)) (hk : k < Bx.all b n) (h1n : 1 ≤ n) (hn : n ≤ 8) :
  Cx Tryz.prog 65 [.slice px n cx, .slice pb n cb] G U (Dx ++ X) fun v U' M' => ∃ Dx' xs', M' = Dx' ++ X ∧ RowO TInt 1 Dx' px n cx xs' ∧ (k + 1 < Bx.all b n ∧ v = .bool true ∧ El Vz U' xs' (Bx.vec b n (k + 1)) ∨ k + 1 = Bx.all b n ∧ v = .bool false) := by
 have wneg : ∀ a, a < n → IntKind.i64.wrap (0 - ((b a : Nat) : Int)) = -((b a : Nat) : Int) := fun a ha => by
  have := hbb a ha
  rw [IntWalk.i64_in _ (by omega)]; omega
 have hxb : ∀ a, a < n → -1048576 ≤ Bx.vec b n k a ∧ Bx.vec b n k a ≤ 1048576 := fun a ha => by
  have := hbb a ha
  have := Bx.vec_le b n k a
  omega
 have hex0 : El Vz U xs (fun a => if a < n then Bx.vec b n k a else -(b a : Int)) := hex.congr hrow.len.1 fun a ha => (if_pos ha).symm
 have hps := hrow.some (by omega)
 refine cx_of_st Tryz.func65 rfl rfl rfl rfl ?_
 repeat (first|refine run_S ?_|refine w_box fun _=>?_|refine w_al fun _=>?_)
 try refine st_anti (M' := Dx ++ X) (ULe.refl _) sbk ?_
 refine st_loop (fun z E U' M' => ∃ (j : Nat) (xs : List Value) (Dx : MH), j ≤ n ∧ RowO TInt 1 Dx px n cx xs ∧ El Vz U' xs (fun a => if a < j then (Bx.vec b n k) a else -(b a : Int)) ∧ (∀ a, j ≤ a → a < n → (Bx.vec b n k) a = b a) ∧ U = U' ∧ E = [(5, .int .i64 ((j : Int) - 1)), (0, .slice px n cx), (1, .slice pb n cb)] ∧ ULe U U' ∧ M' = Dx ++ X ∧ z = j) (n0 := n) (E0 := [(5, .int .i64 (((n : Nat) : Int) - 1)), (0, .slice px n cx), (1, .slice pb n cb)]) ⟨rfl, rfl, rfl, trivial⟩ ⟨n, xs, Dx, by omega, hrow, hex0, (fun a h1 h2 => absurd h1 (by omega)), rfl, rfl, uc, rfl, rfl⟩ ?_
 clear hrow hex0 hex
 rintro z E U1 M' ⟨j, xs, Dx, hj, hrow, hex, hful, rfl, rfl, hU1, rfl, hzR⟩
 try refine run_s ?_
 refine st_dec rfl (fun h1 => ?_) (fun h1 => ?_)
 ·obtain ⟨j, rfl⟩ : ∃ i, j = i + 1 := ⟨j - 1, by omega⟩
  have hjn : j < n := by omega
  have hbj := hbb j hjn
  have hlen := hrow.len.1
  have rX := hrow.at (U := U) (M := Dx ++ X) sb
  obtain ⟨v1, hv1⟩ := rX.at hjn
  obtain ⟨hv, hz1⟩ : Vz U v1 ((Bx.vec b n k) j) := by
   have h := hex _ _ hv1
   simp only [if_pos (show j < j + 1 by omega)] at h
   exact h
  subst hv
  obtain ⟨v2, hv2⟩ := rw2.at hjn
  obtain ⟨hv, hz2⟩ := el2 _ _ hv2
  obtain rfl : v2 = .int .i64 ((b j : Nat) : Int) := hv
  rw [show ((j + 1 : Nat) : Int) - 1 = (j : Int) by omega]
  try refine run_s ?_
  refine st_drawM [] [0, 1, 2, 3, 4, 5, 6, 7, 8] sym (by kernel_rfl) ?_
  try refine run_s ?_
  refine sl_y (yl_index sym rfl rfl rfl rfl rfl rfl (rX.lt hv1) (rX.get _ _ hv1).1) rfl rfl rfl rfl ?_; refine sl_y (yl_loadR1 sym rfl rfl rfl rfl rX hv1 rfl) rfl rfl rfl rfl ?_
  try refine run_s ?_
  refine sl_y (yl_index sym rfl rfl rfl rfl rfl rfl ((rw2.up uc sb).lt hv2) ((rw2.up uc sb).get _ _ hv2).1) rfl rfl rfl rfl ?_; refine sl_y (yl_loadR1 sym rfl rfl rfl rfl (rw2.up uc sb) hv2 rfl) rfl rfl rfl rfl ?_
  try refine run_s ?_
  have hxle := (Bx.vec_le b n k j).2
  refine st_dec rfl (fun h2 => ?_) (fun h2 => ?_)
  ·have hne : (Bx.vec b n k) j ≠ b j := by omega
   have hxj := hxb j hjn
   try refine run_s ?_
   refine sl_y (yl_index sym rfl rfl rfl rfl rfl rfl (rX.lt hv1) (rX.get _ _ hv1).1) rfl rfl rfl rfl ?_; refine sl_y (yl_loadR1 sym rfl rfl rfl rfl rX hv1 rfl) rfl rfl rfl rfl ?_
   try refine run_s ?_
   refine w_addr (j := j) hjn hps ?_
   refine w_storeR (v := .int .i64 ((Bx.vec b n k) j + 1)) (X := X) hrow (List.Perm.refl _) hjn (fun D3 hr3 => ?_)
   have hlast : k + 1 ≠ Bx.all b n := fun e => hne ((Bx.vec_last hk).2 e j hjn)
   obtain ⟨g1, g2, g3⟩ := Bx.vec_next hjn (fun a h4 h5 => hful a (by omega) h5) hne
   try refine run_s ?_
   exact sk_retX (M' := D3 ++ X) sym rfl (.cons (.tmp rfl) .nil) uc sb (.inl rfl) ⟨D3, _, rfl, hr3, .inl ⟨by omega, rfl, set_ok (fun a x hx hne => by
    have := hex _ _ hx
    by_cases e : a < j
    ·simp only [if_pos (show a < j + 1 by omega)] at this; rw [g1 a e]; exact this
    ·have han : a < n := by
      have := (List.getElem?_eq_some_iff.1 hx).1
      omega
     simp only [if_neg (show ¬ a < j + 1 by omega)] at this; rw [g3 a (by omega) han]; exact this) (by rw [g2]; exact ⟨rfl, by omega⟩)⟩⟩
  ·have heq : (Bx.vec b n k) j = b j := by omega
   try refine run_s ?_
   refine sl_y (yl_index sym rfl rfl rfl rfl rfl rfl ((rw2.up uc sb).lt hv2) ((rw2.up uc sb).get _ _ hv2).1) rfl rfl rfl rfl ?_; refine sl_y (yl_loadR1 sym rfl rfl rfl rfl (rw2.up uc sb) hv2 rfl) rfl rfl rfl rfl ?_
   try refine run_s ?_
   rw [wneg j hjn]
   refine w_addr (j := j) hjn hps ?_
   refine w_storeR (v := .int .i64 (-(b j : Int))) (X := X) hrow (List.Perm.refl _) hjn (fun D3 hr3 => ?_)
   try refine run_s ?_
   exact sk_again (E' := [(5, .int .i64 ((j : Int) - 1)), (0, .slice px n cx), (1, .slice pb n cb)]) (m := j) ⟨rfl, rfl, rfl, trivial⟩ (by omega) ⟨j, xs.set j (.int .i64 (-(b j : Int))), D3, by omega, hr3, set_ok (fun a x hx hne => by
    have := hex _ _ hx
    by_cases e : a < j
    ·simp only [if_pos (show a < j + 1 by omega)] at this; simp only [if_pos e]; exact this
    ·simp only [if_neg (show ¬ a < j + 1 by omega)] at this; simp only [if_neg e]; exact this) (by simp only [if_neg (Nat.lt_irrefl j)]; exact ⟨rfl, by omega⟩), (fun a h3 h4 => by
    by_cases e : a = j
    ·rw [e]; exact heq
    ·exact hful a (by omega) h4), rfl, rfl, uc, rfl, rfl⟩
 ·obtain rfl : j = 0 := by omega
  have hfin := (Bx.vec_last hk).1 fun a ha => hful a (by omega) ha
  try refine run_s ?_
  exact sk_retX (M' := Dx ++ X) sym rfl (.cons (.tmp rfl) .nil) uc sb (.inl rfl) ⟨Dx, xs, rfl, hrow, .inr ⟨hfin, rfl⟩⟩
end Go.Proofs.YtjfkodlddladhaaGreat

/- Laws of layer 36: Vectors. -/
namespace Go.Proofs.YtjfkodlddladhaaGreat
open Go.Hp
variable {G : World} {U U' : UH} {M : MH}
end Go.Proofs.YtjfkodlddladhaaGreat
