/- Texts of this seat's own, merged: each begins with its own remark. -/
import Derived.Test.YtlnmhjkagnfnaaaM23
import Derived.Test.YtlnmhjkagnfnaaaM17
/- Walks of the statements' helpers: rows of integers, comparisons of rows and matrices. -/
namespace Go.Proofs.Ytlnmhjkagnfnaaa
open Go.Hp
variable {G : World} {U U' : UH} {M M' : MH}

/-- A number of type int. -/
def Vz (_ : UH) (v : Value) (z : Int) : Prop := v = .int .i64 z ∧ -9223372036854775808 ≤ z ∧ z ≤ 9223372036854775807
/-- Rows of numbers, wherever they lie. -/
def Lz (r c : Nat) (U : UH) (M : MH) (v : Value) (Z : Nat → Nat → Int) : Prop := Ls (fun U v g => Ls Vz 1 c U M v g) 1 r U M v Z

theorem kept_z : Kept Vz := fun _ _ _ _ _ h => h

theorem bSameRat_cz {x y : QV} {p q : Rat} (hx : x.nrm U M p) (hy : y.nrm U M q) :
    Ct Try.prog 21 [x.v, y.v] G U M fun v U' D => v = .bool (decide (p = q)) ∧ U = U' ∧ D = [] := by
  refine ct_of_st Try.func21 rfl rfl rfl rfl ?_
  repeat (first | refine run_S ?_ | refine w_box (fun _ => ?_) | refine w_al (fun _ => ?_))
  refine sl_call rfl rfl rfl rfl rfl rfl (fun _ => bSame_cz (hx.1.up uc sb) (hy.1.up uc sb)) ?_
  rintro v U' D hU ⟨rfl, rfl, rfl⟩
  repeat (first | refine run_S ?_ | refine w_box (fun _ => ?_) | refine w_al (fun _ => ?_))
  by_cases h : p.num = q.num
  · rw [decide_eq_true h]
    repeat (first | refine run_S ?_ | refine w_box (fun _ => ?_) | refine w_al (fun _ => ?_))
    refine sl_call rfl rfl rfl rfl rfl rfl (fun _ => bSame_cz (hx.2.up uc sb) (hy.2.up uc sb)) ?_
    rintro v U' D hU ⟨rfl, rfl, rfl⟩
    repeat (first | refine run_S ?_ | refine w_box (fun _ => ?_) | refine w_al (fun _ => ?_))
    by_cases h2 : (p.den : Int) = (q.den : Int)
    · rw [decide_eq_true h2]
      exact sk_ret [] sym rfl (.cons (.tmp rfl) .nil) uc sb (.inl rfl) ⟨tup_t (Rat.ext h (by omega)), rfl, rfl⟩
    · rw [decide_eq_false h2]
      exact sk_ret [] sym rfl (.cons (.tmp rfl) .nil) uc sb (.inl rfl) ⟨tup_f (fun e => h2 (by rw [e])), rfl, rfl⟩
  · rw [decide_eq_false h]
    repeat (first | refine run_S ?_ | refine w_box (fun _ => ?_) | refine w_al (fun _ => ?_))
    exact sk_ret [] sym rfl (.cons (.tmp rfl) .nil) uc sb (.inl rfl) ⟨tup_f (fun e => h (by rw [e])), rfl, rfl⟩

/-- Lists of numbers. -/
theorem bInts_ct {α β : Type} {ok1 : UH → Value → α → Prop} {ok2 : UH → Value → β → Prop} {m n : Nat} {vx vy : Value} {f : Nat → α} {g : Nat → β} (z1 : α → Int) (z2 : β → Int) (h1 : ∀ U v a, ok1 U v a → v = .int .i64 (z1 a)) (h2 : ∀ U v a, ok2 U v a → v = .int .i64 (z2 a)) (hx : Ls ok1 1 m U M vx f) (hy : Ls ok2 1 n U M vy g) (hm : m ≤ 1000000000) (hn : n ≤ 1000000000) :
    Ct Try.prog 51 [vx, vy] G U M fun v U' D => ∃ b : Bool, v = .bool b ∧ (b = true ↔ m = n ∧ ∀ i, i < n → z1 (f i) = z2 (g i)) ∧ U = U' ∧ D = [] := by
  obtain ⟨px, cx, xs, rfl, -, rx, ex⟩ := hx
  obtain ⟨py, cy, ys, rfl, -, ry, ey⟩ := hy
  refine ct_of_st Try.func51 rfl rfl rfl rfl ?_
  try refine run_s ?_
  refine st_ne rfl (fun h3 => ?_) (fun h3 => ?_)
  · have hne : ¬ m = n := by omega
    try refine run_s ?_
    exact sk_ret [] sym rfl (.cons (.tmp rfl) .nil) uc sb (.inl rfl) ⟨false, rfl, ⟨(fun h => by cases h), fun h => absurd h.1 hne⟩, rfl, rfl⟩
  · have e : m = n := by omega
    subst e
    try refine run_s ?_
    refine st_loop (fun z E U' M' => ∃ i : Nat, i ≤ m ∧ (∀ j, j < i → z1 (f j) = z2 (g j)) ∧ E = [(5, .int .i64 (i : Int)), (0, .slice px m cx), (1, .slice py m cy)] ∧ U = U' ∧ M = M' ∧ z = m - i) (n0 := m)
      (E0 := [(5, .int .i64 ((0 : Nat) : Int)), (0, .slice px m cx), (1, .slice py m cy)]) ⟨rfl, rfl, rfl, trivial⟩ ⟨0, by omega, (fun j h => absurd h (Nat.not_lt_zero j)), rfl, rfl, rfl, rfl⟩ ?_
    rintro z E U' M' ⟨i, hi, hall, rfl, rfl, rfl, rfl⟩
    try refine run_s ?_
    refine st_dec rfl (fun h4 => ?_) (fun h4 => ?_)
    · have him : i < m := by omega
      obtain ⟨v1, hv1⟩ := rx.at him
      obtain rfl := h1 _ _ _ (ex _ _ hv1)
      obtain ⟨v2, hv2⟩ := ry.at him
      obtain rfl := h2 _ _ _ (ey _ _ hv2)
      try refine run_s ?_
      refine st_draw [0, 1, 2, 3, 4, 5, 6, 7, 8] sym (by kernel_rfl) ?_
      try refine run_s ?_
      refine sl_y (yl_index sym rfl rfl rfl rfl rfl rfl (rx.lt hv1) (rx.get _ _ hv1).1) rfl rfl rfl rfl ?_; refine sl_y (yl_loadR1 sym rfl rfl rfl rfl rx hv1 rfl) rfl rfl rfl rfl ?_
      try refine run_s ?_
      refine sl_y (yl_index sym rfl rfl rfl rfl rfl rfl (ry.lt hv2) (ry.get _ _ hv2).1) rfl rfl rfl rfl ?_; refine sl_y (yl_loadR1 sym rfl rfl rfl rfl ry hv2 rfl) rfl rfl rfl rfl ?_
      try refine run_s ?_
      refine st_ne rfl (fun h5 => ?_) (fun h5 => ?_)
      · try refine run_s ?_
        exact sk_ret [] sym rfl (.cons (.tmp rfl) .nil) uc sb (.inl rfl) ⟨false, rfl, ⟨(fun h => by cases h), fun h => absurd (h.2 i him) h5⟩, rfl, rfl⟩
      · try refine run_s ?_
        exact sk_again (E' := [(5, .int .i64 ((i : Int) + 1)), (0, .slice px m cx), (1, .slice py m cy)]) (m := m - (i + 1)) ⟨rfl, rfl, rfl, trivial⟩ (by omega)
          ⟨i + 1, by omega, (fun j hj => by
            rcases Nat.lt_or_eq_of_le (Nat.le_of_lt_succ hj) with h | h
            · exact hall j h
            · rw [h]; exact h5), rfl, rfl, rfl, rfl⟩
    · have e : i = m := by omega
      subst e
      try refine run_s ?_
      exact sk_ret [] sym rfl (.cons (.tmp rfl) .nil) uc sb (.inl rfl) ⟨true, rfl, ⟨fun _ => ⟨rfl, hall⟩, fun _ => rfl⟩, rfl, rfl⟩

end Go.Proofs.Ytlnmhjkagnfnaaa

/- Walks of the helpers of layer 9's statements: awake. -/
namespace Go.Proofs.Ytlnmhjkagnfnaaa
open Go.Hp
variable {G : World} {U U' : UH} {M M' : MH}

theorem all_size {s : Nat} {vs : List Value} (h : vs.all (fun v => Nat.beq v.cells.toList.length s) = true) : ∀ v ∈ vs, v.cells.toList.length = s := fun v hv => Nat.eq_of_beq_eq_true (List.all_eq_true.1 h v hv)

theorem lit_row {b e n : Nat} {l : List Int} (hr : ∀ z ∈ l, -9223372036854775808 ≤ z ∧ z ≤ 9223372036854775807) (hn : l.length = n) (hn2 : n ≤ 1000) (hM : [(b, .arr (l.map fun z => .int .i64 z), e)].Sublist M) : Ls Vz 1 n U M (.slice (some ⟨b, 0, none⟩) n n) (fun j => l.getD j 0) := by
  refine ⟨_, _, l.map fun z => .int .i64 z, rfl, Nat.le_refl n, (RowO.mk (e := e) (b := b) (by rw [List.length_map, hn]) (fun v hv => ?_) (by omega)).at hM, fun k x hk => ?_⟩
  · obtain ⟨z, -, rfl⟩ := List.mem_map.1 hv; rfl
  · rw [List.getElem?_map] at hk
    obtain ⟨z, hz, rfl⟩ := Option.map_eq_some_iff.1 hk
    have := hr z (List.mem_of_getElem? hz)
    simp only [List.getD_eq_getElem?_getD, hz, Option.getD_some]
    exact ⟨rfl, this⟩
abbrev zz (ls : List (List Int)) : Nat → Nat → Rat := fun i j => (((ls.getD i []).getD j 0 : Int) : Rat)
end Go.Proofs.Ytlnmhjkagnfnaaa

/- Walks of the helpers of layer 9's statements: are matrices small? -/
namespace Go.Proofs.Ytlnmhjkagnfnaaa
open Go.Hp
variable {G : World} {U U' : UH} {M M' : MH}

/-- v stands for q, in digits that nobody has counted. -/
def Xq (U : UH) (v : Value) (q : Rat) : Prop := ∃ x : QV, v = x.v ∧ x.rep U [] q
theorem kept_x : Kept Xq := fun _ _ _ _ hU ⟨x, h1, h2⟩ => ⟨x, h1, h2.up hU (List.Sublist.refl _)⟩

/-- A matrix as it comes. -/
structure Raw (U : UH) (v : Value) (r c : Int) (n : Nat) (f : Nat → Rat) : Prop where
  rows : -9223372036854775808 ≤ r ∧ r ≤ 9223372036854775807
  cols : -9223372036854775808 ≤ c ∧ c ≤ 9223372036854775807
  num : n ≤ 9223372036854775807
  elt : ∃ a, v = .agg #[.int .i64 r, .int .i64 c, a] ∧ Ls Xq 4 n U [] a f

theorem Raw.up {v : Value} {r c : Int} {n : Nat} {f : Nat → Rat} (h : Raw U v r c n f) (hU : ULe U U') : Raw U' v r c n f := by
  obtain ⟨a, h1, h2⟩ := h.elt
  exact ⟨h.rows, h.cols, h.num, a, h1, h2.up kept_x hU (List.Sublist.refl _)⟩

/-- What 'light' tells of a matrix. -/
def Lit (most : Nat) (U : UH) (v : Value) (r c : Int) (n : Nat) (f : Nat → Rat) : Prop :=
  n ≤ most * most ∧ (Vld r c n → r ≤ most ∧ c ≤ most) ∧ ∃ a, v = .agg #[.int .i64 r, .int .i64 c, a] ∧ Ls (Wq 1) 4 n U [] a f

end Go.Proofs.Ytlnmhjkagnfnaaa
