/- Walks of modmatrix: residues as values; grids are made, and laid down as matrices. -/
import Derived.Test.YtpigpikhjlmdoaaB156
import Derived.Test.YtpigpikhjlmdoaaVz
namespace Go.Proofs.Ytpigpikhjlmdoaa
open Go.Hp
open Go.Fq (Pm Fp Prm)
variable {G : World} {U U' : UH} {M : MH}

abbrev TF : Nat := 53
/-- The same entries in another order. -/
theorem pf {α : Type} {a b : List α} (h : ∀ f : α → Nat, (a.map f).sum = (b.map f).sum := by intro f; simp only [TInt, TIs, TF, List.map_append, List.map_cons, List.sum_append, List.sum_cons, List.flatten_cons, List.flatten_append, List.flatten_nil, List.map_nil, List.sum_nil, List.nil_append, List.append_nil]; omega) : a.Perm b := pq h
/-- A residue. -/
def Vf (P : Pm) (_ : UH) (v : Value) (x : Fp P) : Prop := v = .int .i64 (x.v : Int)
instance {P : Pm} : KeptC (Vf P) := ⟨fun _ _ _ _ _ h => h⟩
theorem one_f {P : Pm} {v : Value} {x : Fp P} (h : Vf P U v x) : v.cells.toList.all Value.oneCell' = true := by obtain rfl := h; rfl

section
variable {P : Pm}
theorem _root_.Go.Fq.v_mul (a b : Fp P) : (a * b).v = a.v * b.v % P.1 := by
  have h1 : ((a * b).v : Int) = ((a.v : Int) * b.v) % (P.1 : Int) := Fq.of_val _
  rw [← Int.natCast_mul, ← Int.natCast_emod] at h1
  omega
theorem _root_.Go.Fq.v_comb (x f y : Fp P) : (x + -f * y).v = (x.v + (P.1 - f.v) * y.v) % P.1 := by
  have hf := f.lt
  have h0 : x + -f * y = Fq.of P ((x.v : Int) + ((P.1 - f.v : Nat) : Int) * y.v) := by
    rw [Fq.of_add, Fq.of_mul, Fq.of_v, Fq.of_v, show ((P.1 - f.v : Nat) : Int) = -(f.v : Int) + (P.1 : Int) * 1 by omega, Fq.of_sub_mul, Fq.of_neg, Fq.of_v]
  have h1 := Fq.of_val (P := P) ((x.v : Int) + ((P.1 - f.v : Nat) : Int) * y.v)
  rw [← h0, ← Int.natCast_mul, ← Int.natCast_add, ← Int.natCast_emod] at h1
  omega
theorem _root_.Go.Fq.v_neg {x : Fp P} (h : x ≠ 0) : ((-x).v : Int) = (P.1 : Int) - x.v := by
  have hl := x.lt
  have hx : x.v ≠ 0 := fun e => h (Fq.v_eq_zero.1 e)
  have h0 : -x = Fq.of P ((P.1 : Int) - x.v) := by
    rw [show (P.1 : Int) - x.v = -(x.v : Int) + (P.1 : Int) * 1 by omega, Fq.of_sub_mul, Fq.of_neg, Fq.of_v]
  rw [h0, Fq.of_val, Int.emod_eq_of_lt (by omega) (by omega)]

variable {N : Nat} {E : Env} {o : Oper} {ty yt : Nat} {s t : Operand}
theorem yl_fmul {a b : Fp P} (ho : o.op = .binOp .rem ty s t yt) (hx : ev E s = some (.int .i64 ((a.v : Int) * (b.v : Int)))) (hy : ev E t = some (.int .i64 (P.1 : Int))) (hp : P.1 ≤ 65536) : Yl Try.prog N G o E U M (.int .i64 ((a * b).v : Int)) := by
  have h1 := fp_bd a b (by omega)
  have h2 := P.2.two
  exact yl_remN (m := a.v * b.v) (n := P.1) ho hx hy (Int.natCast_mul _ _).symm rfl (by rw [Int.natCast_mul]; simp only [kmax]; omega) (by omega) (Fq.v_mul a b).symm
theorem f_bd2 (x f y : Fp P) (hp : P.1 ≤ 65536) : 0 ≤ ((P.1 : Int) - (f.v : Int)) * (y.v : Int) ∧ ((P.1 : Int) - (f.v : Int)) * (y.v : Int) ≤ 4294967296 ∧ (x.v : Int) ≤ 65536 := by
  have h1 := x.lt
  have h2 := f.lt
  have h3 := y.lt
  have h4 : (P.1 - f.v) * y.v ≤ 65536 * 65536 := Nat.mul_le_mul (by omega) (by omega)
  have h5 : ((P.1 : Int) - (f.v : Int)) * (y.v : Int) = (((P.1 - f.v) * y.v : Nat) : Int) := by
    rw [Int.natCast_mul, show (P.1 : Int) - (f.v : Int) = ((P.1 - f.v : Nat) : Int) by omega]
  omega
theorem yl_fcomb {x f y : Fp P} (ho : o.op = .binOp .rem ty s t yt) (hx : ev E s = some (.int .i64 ((x.v : Int) + ((P.1 : Int) - (f.v : Int)) * (y.v : Int)))) (hy : ev E t = some (.int .i64 (P.1 : Int))) (hp : P.1 ≤ 65536) : Yl Try.prog N G o E U M (.int .i64 ((x + -f * y).v : Int)) := by
  have h1 := f_bd2 x f y hp
  have h2 := f.lt
  have h5 : ((P.1 : Int) - (f.v : Int)) * (y.v : Int) = (((P.1 - f.v) * y.v : Nat) : Int) := by
    rw [Int.natCast_mul, show (P.1 : Int) - (f.v : Int) = ((P.1 - f.v : Nat) : Int) by omega]
  exact yl_remN (m := x.v + (P.1 - f.v) * y.v) (n := P.1) ho hx hy (by rw [Int.natCast_add, h5]) rfl (by rw [Int.natCast_add, ← h5]; simp only [kmax]; omega) (by omega) (Fq.v_comb x f y).symm
end

theorem fload_co {P : Pm} {r c : Nat} {vm : Value} {A : Nat → Nat → Int} (hm : Vmm Vz r c U M vm A) (hp : P.1 ≤ 65536) (hr : r ≤ 100000) (hc : c ≤ 100000) (hrc : r * c ≤ 100000000) :
    Ct Try.prog 66 [.int .i64 (P.1 : Int), vm] G U M fun v U' D => Goz (Vf P) zO r c U' D v (fun i j => Fq.of P (A i j)) ∧ ULe U U' := by
  have hp2 := P.2.two
  obtain ⟨_, rfl, p, cc, as1, rfl, -, rw1, el⟩ := hm
  refine ct_of_st Try.func66 rfl rfl rfl rfl ?_
  repeat (first | refine run_S ?_ | refine w_box (fun _ => ?_) | refine w_al (fun _ => ?_))
  rename_i b1
  refine sl_make (m := r) (n := r) sym rfl rfl rfl rfl rfl rfl rfl rfl rfl (Nat.le_refl r) (by omega) (by omega) rfl rfl rfl rfl (fun b2 => ?_)
  have hrow := rowO_make (e := TIs) (s := 1) (b := b2) (n := r) (z := .slice none 0 0) rfl (by omega)
  try refine run_s ?_
  refine st_perm (M' := (b1, .var (.agg #[.int .i64 (r : Int), .int .i64 (c : Int), .slice p (r * c) cc]), TF) :: ([(b2, .arr (List.replicate r (.slice none 0 0)), TIs)] ++ M)) pf ?_
  try refine st_anti (M' := (b1, .var (.agg #[.int .i64 (r : Int), .int .i64 (c : Int), .slice p (r * c) cc]), TF) :: (([(b2, _, _)]) ++ (([]).flatten ++ M))) (ULe.refl _) sbk ?_
  refine st_loop (fun z E U' M' => ∃ (i : Nat) (svs : List Value) (D : MH) (F : List MH), i ≤ r ∧ RowO TIs 1 D (some ⟨b2, 0, none⟩) r r svs ∧ Gz (Vf P) zO c U' (svs.take i) F (fun i j => Fq.of P (A i j)) ∧ E = [(13, .int .i64 (i : Int)), (5, .slice (some ⟨b2, 0, none⟩) r r), (12, .int .i64 (r : Int)), (3, .pointer (some ⟨b1, 0, none⟩)), (0, .int .i64 (P.1 : Int))] ∧ ULe U U' ∧ M' = (b1, .var (.agg #[.int .i64 (r : Int), .int .i64 (c : Int), .slice p (r * c) cc]), TF) :: (D ++ (F.flatten ++ M)) ∧ z = r - i) (n0 := r - 0) (E0 := [(13, .int .i64 ((0 : Nat) : Int)), (5, .slice (some ⟨b2, 0, none⟩) r r), (12, .int .i64 (r : Int)), (3, .pointer (some ⟨b1, 0, none⟩)), (0, .int .i64 (P.1 : Int))]) ⟨rfl, rfl, rfl, rfl, rfl, trivial⟩ ⟨0, _, [(b2, _, _)], [], by omega, hrow, Gz.nil, rfl, uc, rfl, rfl⟩ ?_
  rintro z E U1 M' ⟨i, svs, D, F, hi, hrow, hg, rfl, hU1, rfl, rfl⟩
  try refine run_s ?_
  refine st_dec rfl (fun h => ?_) (fun h => ?_)
  · have hir : i < r := by omega
    try refine run_s ?_
    refine sl_make (m := c) (n := c) sym rfl rfl rfl rfl rfl rfl rfl rfl rfl (Nat.le_refl c) (by omega) (by omega) rfl rfl rfl rfl (fun b3 => ?_)
    have hrow2 := rowO_make (e := TInt) (s := 1) (b := b3) (n := c) (z := .int .i64 0) rfl (by omega)
    refine w_addr (j := i) hir rfl ?_
    refine w_storeR (X := (b3, .arr (List.replicate c (.int .i64 0)), TInt) :: (b1, .var (.agg #[.int .i64 (r : Int), .int .i64 (c : Int), .slice p (r * c) cc]), TF) :: (F.flatten ++ M)) hrow pf hir (fun D2 hr2 => ?_)
    refine sl_perm (M' := (b1, .var (.agg #[.int .i64 (r : Int), .int .i64 (c : Int), .slice p (r * c) cc]), TF) :: ([(b3, .arr (List.replicate c (.int .i64 0)), TInt)] ++ (D2 ++ (F.flatten ++ M)))) ?_ pf
    have hsl := hrow.len.1
    have hvi : (svs.set i (.slice (some ⟨b3, 0, none⟩) c c))[i]? = some (.slice (some ⟨b3, 0, none⟩) c c) := List.getElem?_set_self (by omega)
    have hgi : Gz (Vf P) zO c U1 ((svs.set i (.slice (some ⟨b3, 0, none⟩) c c)).take i) F (fun i j => Fq.of P (A i j)) := by rw [List.take_set_of_le (Nat.le_refl i)]; exact hg
    generalize svs.set i (.slice (some ⟨b3, 0, none⟩) c c) = sv2 at hr2 hvi hgi
    clear hrow hg hsl
    try refine run_s ?_
    have rO := hr2.at (U := U1) (M := (b1, .var (.agg #[.int .i64 (r : Int), .int .i64 (c : Int), .slice p (r * c) cc]), TF) :: ([(b3, .arr (List.replicate c (.int .i64 0)), TInt)] ++ (D2 ++ (F.flatten ++ M)))) sb
    refine sl_y (yl_index sym rfl rfl rfl rfl rfl rfl (rO.lt hvi) (rO.get _ _ hvi).1) rfl rfl rfl rfl ?_; refine sl_y (yl_loadR1 sym rfl rfl rfl rfl rO hvi rfl) rfl rfl rfl rfl ?_
    try refine run_s ?_
    try refine st_anti (M' := (b1, .var (.agg #[.int .i64 (r : Int), .int .i64 (c : Int), .slice p (r * c) cc]), TF) :: (Dr ++ (D2 ++ (F.flatten ++ M)))) (ULe.refl _) sbk ?_
    refine st_loop (fun z E U' M' => ∃ (j : Nat) (us : List Value) (Dr : MH), j ≤ c ∧ RowO TInt 1 Dr (some ⟨b3, 0, none⟩) c c us ∧ ElTo (Vf P) U' j us (fun j => Fq.of P (A i j)) ∧ E = [(27, .int .i64 (j : Int)), (26, .int .i64 (c : Int)), (6, .int .i64 (i : Int)), (13, .int .i64 (i : Int)), (5, .slice (some ⟨b2, 0, none⟩) r r), (12, .int .i64 (r : Int)), (3, .pointer (some ⟨b1, 0, none⟩)), (0, .int .i64 (P.1 : Int))] ∧ ULe U1 U' ∧ M' = (b1, .var (.agg #[.int .i64 (r : Int), .int .i64 (c : Int), .slice p (r * c) cc]), TF) :: (Dr ++ (D2 ++ (F.flatten ++ M))) ∧ z = c - j) (n0 := c - 0) (E0 := [(27, .int .i64 ((0 : Nat) : Int)), (26, .int .i64 (c : Int)), (6, .int .i64 (i : Int)), (13, .int .i64 (i : Int)), (5, .slice (some ⟨b2, 0, none⟩) r r), (12, .int .i64 (r : Int)), (3, .pointer (some ⟨b1, 0, none⟩)), (0, .int .i64 (P.1 : Int))]) ⟨rfl, rfl, rfl, rfl, rfl, rfl, rfl, rfl, trivial⟩ ⟨0, _, _, by omega, hrow2, (fun k x hk => absurd hk (Nat.not_lt_zero k)), rfl, uc, rfl, rfl⟩ ?_
    clear hrow2
    rintro z E U2 M' ⟨j, us, Dr, hj, hrow, hel, rfl, hU2, rfl, rfl⟩
    try refine run_s ?_
    refine st_dec rfl (fun h2 => ?_) (fun h2 => ?_)
    · have hjc : j < c := by omega
      have hlt := ij_lt hir hjc
      obtain ⟨v1, hv1⟩ := rw1.at hlt
      obtain ⟨rfl, hz⟩ := el _ _ hv1
      rw [fl_at hjc] at hv1
      try refine run_s ?_
      refine st_drawM [17, 18] [0, 1, 2, 3, 4, 5, 6, 7, 8, 9, 10, 11, 12, 13, 14, 15, 16, 17, 18] sym (by kernel_rfl) ?_
      try refine run_s ?_
      have rO := hr2.at (U := U2) (M := (b1, .var (.agg #[.int .i64 (r : Int), .int .i64 (c : Int), .slice p (r * c) cc]), TF) :: (Dr ++ (D2 ++ (F.flatten ++ M)))) sb
      refine sl_y (yl_index sym rfl rfl rfl rfl rfl rfl (rO.lt hvi) (rO.get _ _ hvi).1) rfl rfl rfl rfl ?_; refine sl_y (yl_loadR1 sym rfl rfl rfl rfl rO hvi rfl) rfl rfl rfl rfl ?_
      try refine run_s ?_
      refine sl_y (yl_index sym rfl rfl rfl rfl rfl ( by omega) ((rw1.up uc sb).lt hv1) ((rw1.up uc sb).get _ _ hv1).1) rfl rfl rfl rfl ?_; refine sl_y (yl_loadR1 sym rfl rfl rfl rfl (rw1.up uc sb) hv1 rfl) rfl rfl rfl rfl ?_
      try refine run_s ?_
      refine sl_call rfl rfl rfl rfl rfl rfl (fun _ => fResidue_ct (z := A i j) (m := (P.1 : Int)) (by omega) (by omega)) ?_
      rintro v U' D hU ⟨rfl, rfl, rfl⟩
      repeat (first | refine run_S ?_ | refine w_box (fun _ => ?_) | refine w_al (fun _ => ?_))
      refine w_addr (j := j) hjc rfl ?_
      refine w_storeR (v := .int .i64 (A i j % (P.1 : Int))) (X := (b1, .var (.agg #[.int .i64 (r : Int), .int .i64 (c : Int), .slice p (r * c) cc]), TF) :: (D2 ++ (F.flatten ++ M))) hrow pf hjc (fun D4 hr4 => ?_)
      refine sl_perm ?_ perm1
      try refine run_s ?_
      exact sk_again (E' := [(27, .int .i64 ((j : Int) + 1)), (26, .int .i64 (c : Int)), (6, .int .i64 (i : Int)), (13, .int .i64 (i : Int)), (5, .slice (some ⟨b2, 0, none⟩) r r), (12, .int .i64 (r : Int)), (3, .pointer (some ⟨b1, 0, none⟩)), (0, .int .i64 (P.1 : Int))]) (m := c - (j + 1)) ⟨rfl, rfl, rfl, rfl, rfl, rfl, rfl, rfl, trivial⟩ (by omega) ⟨j + 1, _, D4, by omega, hr4, (hel.up KeptC.out uc).next (by show _ = Value.int .i64 (((Fq.of P (A i j)).v : Nat) : Int); rw [Fq.of_val]), rfl, uc, rfl, rfl⟩
    · have e : j = c := by omega
      subst e
      try refine run_s ?_
      refine sk_perm (M' := (b1, .var (.agg #[.int .i64 (r : Int), .int .i64 (j : Int), .slice p (r * j) cc]), TF) :: (D2 ++ ((F ++ [Dr]).flatten ++ M))) pf ?_
      have hnx : Gz (Vf P) zO j U2 (sv2.take (i + 1)) (F ++ [Dr]) (fun i j => Fq.of P (A i j)) := by
        rw [List.take_add_one, hvi]
        exact (hgi.up uc).snoc (by rw [List.length_take, hr2.len.1]; omega) (Nat.le_refl _) hrow (hel.all hrow.len.1)
      exact sk_again (E' := [(13, .int .i64 ((i : Int) + 1)), (5, .slice (some ⟨b2, 0, none⟩) r r), (12, .int .i64 (r : Int)), (3, .pointer (some ⟨b1, 0, none⟩)), (0, .int .i64 (P.1 : Int))]) (m := r - (i + 1)) ⟨rfl, rfl, rfl, rfl, rfl, trivial⟩ (by omega) ⟨i + 1, sv2, D2, F ++ [Dr], by omega, hr2, hnx, rfl, uc, rfl, rfl⟩
  · have e : i = r := by omega
    subst e
    try refine run_s ?_
    rw [List.take_of_length_le (by rw [hrow.len.1]; exact Nat.le_refl _)] at hg
    exact sk_ret (D ++ F.flatten) sym rfl (.cons (.tmp rfl) .nil) uc sb (.inl rfl) ⟨⟨D, F, _, _, svs, rfl, rfl, hrow, hg⟩, uc⟩
end Go.Proofs.Ytpigpikhjlmdoaa
