/- Texts of this seat's own, merged: each begins with its own remark. -/
import Derived.Test.YtjfkodlddladhaaGreatM14
import Derived.Test.YtjfkodlddladhaaGreatM19
import Derived.Test.YtjfkodlddladhaaGreatM35
import Derived.Test.YtjfkodlddladhaaGreatVz
import Derived.Test.YtjfkodlddladhaaGreatM25
import Derived.Test.YtjfkodlddladhaaGreatM50
import Derived.Test.YtjfkodlddladhaaGreatM23
import Derived.Test.YtjfkodlddladhaaGreatM40
import Derived.Test.YtjfkodlddladhaaGreatM26
import Derived.Test.YtjfkodlddladhaaGreatM48
/- Walks of layer 36: elements within the limit, matrices of fractions. -/
namespace Go.Proofs.YtjfkodlddladhaaGreat
open Go.Hp
variable {G : World} {U U' : UH} {M : MH}
theorem pgs {α : Type} {a b : List α} (h : ∀ f : α → Nat, (a.map f).sum = (b.map f).sum := by intro f; simp only [List.set_cons_zero, List.set_cons_succ, TInt, TIs, TR, TM, zeroQV, zeroIV0, QV.v, List.map_append, List.map_cons, List.sum_append, List.sum_cons, List.flatten_cons, List.flatten_append, List.flatten_nil, List.map_nil, List.sum_nil, List.nil_append, List.append_nil]; omega) : a.Perm b := pq h
theorem tinside_ct {n c : Nat} {p : Option Addr} {vs : List Value} {f : Nat → Int} (rw1 : RowAt U M 1 p n vs) (el : El Vz U vs f) (hn : n ≤ 1000000000) :
  Ct Tryz.prog 69 [.slice p n c] G U M fun v U' D => ∃ b : Bool, v = .bool b ∧ (b = true ↔ ∀ k, k < n → -1000 ≤ f k ∧ f k ≤ 1000) ∧ U = U' ∧ D = [] := by
 refine ct_of_st Tryz.func69 rfl rfl rfl rfl ?_
 repeat (first|refine run_S ?_|refine w_box fun _=>?_|refine w_al fun _=>?_)
 try refine st_anti (M' := M) (ULe.refl _) sbk ?_
 refine st_loop (fun z E U' M' => ∃ (i : Nat), i ≤ n ∧ (∀ k, k < i → -1000 ≤ f k ∧ f k ≤ 1000) ∧ U = U' ∧ E = [(7, .int .i64 (i : Int)), (6, .int .i64 (n : Int)), (5, .slice p n c)] ∧ ULe U U' ∧ M' = M ∧ z = n - i) (n0 := n - 0) (E0 := [(7, .int .i64 ((0 : Nat) : Int)), (6, .int .i64 (n : Int)), (5, .slice p n c)]) ⟨rfl, rfl, rfl, trivial⟩ ⟨0, by omega, (fun k h => absurd h (Nat.not_lt_zero k)), rfl, rfl, uc, rfl, rfl⟩ ?_
 rintro z E U1 M' ⟨i, hi, hall, rfl, rfl, hU1, rfl, rfl⟩
 try refine run_s ?_
 refine st_dec rfl (fun h => ?_) (fun h => ?_)
 ·have hin : i < n := by omega
  obtain ⟨v1, hv1⟩ := rw1.at hin
  obtain ⟨rfl, hz⟩ := el _ _ hv1
  repeat (first|refine run_S ?_|refine w_box fun _=>?_|refine w_al fun _=>?_)
  refine sl_y (yl_index sym rfl rfl rfl rfl rfl rfl ((rw1.up uc sb).lt hv1) ((rw1.up uc sb).get _ _ hv1).1) rfl rfl rfl rfl ?_; refine sl_y (yl_loadR1 sym rfl rfl rfl rfl (rw1.up uc sb) hv1 rfl) rfl rfl rfl rfl ?_
  repeat (first|refine run_S ?_|refine w_box fun _=>?_|refine w_al fun _=>?_)
  refine sl_gdec rfl rfl (fun h1 => ?_) (fun h1 => ?_)
  ·repeat (first|refine run_S ?_|refine w_box fun _=>?_|refine w_al fun _=>?_)
   exact sk_ret [] sym rfl (.cons (.tmp rfl) .nil) uc sb (.inl rfl) ⟨false, rfl, ⟨(fun h => by cases h), fun h => absurd (h i hin).1 (by omega)⟩, rfl, rfl⟩
  ·repeat (first|refine run_S ?_|refine w_box fun _=>?_|refine w_al fun _=>?_)
   refine st_dec rfl (fun h2 => ?_) (fun h2 => ?_)
   ·repeat (first|refine run_S ?_|refine w_box fun _=>?_|refine w_al fun _=>?_)
    exact sk_ret [] sym rfl (.cons (.tmp rfl) .nil) uc sb (.inl rfl) ⟨false, rfl, ⟨(fun h => by cases h), fun h => absurd (h i hin).2 (by omega)⟩, rfl, rfl⟩
   ·repeat (first|refine run_S ?_|refine w_box fun _=>?_|refine w_al fun _=>?_)
    exact sk_again (E' := [(7, .int .i64 ((i : Int) + 1)), (6, .int .i64 (n : Int)), (5, .slice p n c)]) (m := n - (i + 1)) ⟨rfl, rfl, rfl, trivial⟩ (by omega) ⟨i + 1, by omega, (fun k hk => by
     rcases Nat.lt_or_eq_of_le (Nat.le_of_lt_succ hk) with h5 | h5
     ·exact hall k h5
     ·rw [h5]; omega), rfl, rfl, uc, rfl, rfl⟩
 ·obtain rfl : i = n := by omega
  repeat (first|refine run_S ?_|refine w_box fun _=>?_|refine w_al fun _=>?_)
  exact sk_ret [] sym rfl (.cons (.tmp rfl) .nil) uc sb (.inl rfl) ⟨true, rfl, ⟨fun _ => hall, fun _ => rfl⟩, rfl, rfl⟩
theorem tover_ct {n N c : Nat} {p : Option Addr} {vs : List Value} {f : Nat → Int} (rw1 : RowAt U [] 1 p N vs) (el : El Vz U vs f) (hN : N = n * n) (hn : N ≤ 1000000) :
  Ct Tryz.prog 109 [.int .i64 (n : Int), .slice p N c] G U M fun v U' D => Vm Vq n n U' v (fun i j => ((f (i * n + j) : Int) : Rat)) ∧ D = [] := by
 subst hN
 refine ct_setm ?_
 have hfl : ∀ i, fl n (fun i j => ((f (i * n + j) : Int) : Rat)) i = ((f i : Int) : Rat) := fun i => by show ((f (i / n * n + i % n) : Int) : Rat) = _; rw [Nat.mul_comm, Nat.div_add_mod]
 refine ct_of_st Tryz.func109 rfl rfl rfl rfl ?_
 repeat (first|refine run_S ?_|refine w_box fun _=>?_|refine w_al fun _=>?_)
 rename_i b4 b5
 generalize hN : n * n = N at *
 try refine st_anti (M' := (b5, .var (.agg #[.int .i64 (n : Int), .int .i64 (n : Int), .slice none 0 0]), TM) :: (b4, .var (.agg #[.int .i64 0, .int .i64 0, .slice none 0 0]), TM) :: (([]) ++ M)) (ULe.refl _) sbk ?_
 refine st_loop (fun z E U' M' => ∃ (i : Nat) (Q : Option Addr) (C : Nat) (us : List Value) (D : MH), i ≤ N ∧ RowO TR 4 D Q i C us ∧ El Vq U' us (fl n (fun i j => ((f (i * n + j) : Int) : Rat))) ∧ E = [(13, .int .i64 (i : Int)), (12, .int .i64 (N : Int)), (11, .slice p N c), (5, .pointer (some ⟨b5, 0, none⟩)), (4, .pointer (some ⟨b4, 0, none⟩))] ∧ ULe U U' ∧ M' = (b5, .var (.agg #[.int .i64 (n : Int), .int .i64 (n : Int), .slice Q i C]), TM) :: (b4, .var (.agg #[.int .i64 0, .int .i64 0, .slice none 0 0]), TM) :: (D ++ M) ∧ z = N - i) (n0 := N - 0) (E0 := [(13, .int .i64 ((0 : Nat) : Int)), (12, .int .i64 (N : Int)), (11, .slice p N c), (5, .pointer (some ⟨b5, 0, none⟩)), (4, .pointer (some ⟨b4, 0, none⟩))]) ⟨rfl, rfl, rfl, rfl, rfl, trivial⟩ ⟨0, none, 0, [], [], by omega, RowO.nil, El.nil, rfl, uc, rfl, rfl⟩ ?_
 rintro z E U1 M' ⟨i, Q, C, us, D, hi, hrow, hel, rfl, hU1, rfl, rfl⟩
 try refine run_s ?_
 refine st_dec rfl (fun h => ?_) (fun h => ?_)
 ·have hin : i < N := by omega
  obtain ⟨v1, hv1⟩ := rw1.at hin
  obtain ⟨rfl, hz⟩ := el _ _ hv1
  try refine run_s ?_
  refine sl_y (yl_index sym rfl rfl rfl rfl rfl rfl ((rw1.up uc sb).lt hv1) ((rw1.up uc sb).get _ _ hv1).1) rfl rfl rfl rfl ?_; refine sl_y (yl_loadR1 sym rfl rfl rfl rfl (rw1.up uc sb) hv1 rfl) rfl rfl rfl rfl ?_
  try refine run_s ?_
  refine st_drawM [5, 6, 7] [0, 1, 2, 3, 4, 5, 6, 7] sym (by kernel_rfl) ?_
  try refine run_s ?_
  refine sl_call rfl rfl rfl rfl rfl rfl (fun _ => (qOf_ct (z := f i) (by omega) (by omega)).settle) ?_
  rintro v Uh2 D hU ⟨rfl, _, _, ⟨xh2, rfl, h2, -⟩, -, -, hs⟩
  replace h2 := h2.sett hs
  clear hs
  repeat (first|refine run_S ?_|refine w_box fun _=>?_|refine w_al fun _=>?_)
  refine w_push hrow (X := (b5, .var (.agg #[.int .i64 (n : Int), .int .i64 (n : Int), .slice Q i C]), TM) :: (b4, .var (.agg #[.int .i64 0, .int .i64 0, .slice none 0 0]), TM) :: M) pgs (fun b P2 C2 D2 hr2 => ?_)
  refine sl_perm (M' := (b5, .var (.agg #[.int .i64 (n : Int), .int .i64 (n : Int), .slice Q i C]), TM) :: (b4, .var (.agg #[.int .i64 0, .int .i64 0, .slice none 0 0]), TM) :: (D2 ++ M)) ?_ pgs
  try refine run_s ?_
  refine sl_storeF 0 sym rfl rfl rfl rfl rfl rfl rfl rfl rfl rfl rfl ?_
  try refine run_s ?_
  exact sk_again (E' := [(13, .int .i64 ((i : Int) + 1)), (12, .int .i64 (N : Int)), (11, .slice p N c), (5, .pointer (some ⟨b5, 0, none⟩)), (4, .pointer (some ⟨b4, 0, none⟩))]) (m := N - (i + 1)) ⟨rfl, rfl, rfl, rfl, rfl, trivial⟩ (by omega) ⟨i + 1, P2, C2, _, D2, by omega, hr2, snoc_ok hrow.len.1 (hel.up kept_q uc) ⟨xh2, rfl, by rw [hfl]; exact h2⟩, rfl, uc, rfl, rfl⟩
 ·obtain rfl : N = i := by omega
  subst hN
  repeat (first|refine run_S ?_|refine w_box fun _=>?_|refine w_al fun _=>?_)
  exact sk_ret D sym rfl (.cons (.cell 1 rfl rfl rfl) .nil) uc sb (.inl rfl) ⟨⟨_, rfl, Q, C, us, rfl, hrow, hel⟩, uc⟩
end Go.Proofs.YtjfkodlddladhaaGreat

/- Walk of theta.Check. -/
namespace Go.Proofs.YtjfkodlddladhaaGreat
open Go.Hp
open Classical
variable {G : World} {U U' : UH} {M : MH}
def Evn (n : Nat) (f : Nat → Int) : Prop := ∀ i, i < n → (∀ k, k < n → f (i * n + k) = f (k * n + i)) ∧ (f (i * n + i)).tmod 2 = 0
def Pdm (n : Nat) (f : Nat → Int) : Prop := ∀ k, 1 ≤ k → k ≤ n → 0 < La.det k fun i j => ((f (i * n + j) : Int) : Rat)
noncomputable def chk (r : Int) (N : Nat) (f : Nat → Int) : Int :=
 if r < 1 ∨ r > 8 then 2 else if (N : Int) ≠ r * r then 4 else if ¬ (∀ k, k < N → -1000 ≤ f k ∧ f k ≤ 1000) then 2 else if ¬ Evn r.toNat f then 3 else if ¬ Pdm r.toNat f then 27 else 0
theorem tCheck_ct {r : Int} {N c : Nat} {p : Option Addr} {vs : List Value} {f : Nat → Int} (rw1 : RowAt U [] 1 p N vs) (el : El Vz U vs f) (hN : N ≤ 9223372036854775807) :
  Ct Tryz.prog 43 [.agg #[.int .i64 r, .slice p N c]] G U M fun v U' D => v = .int .i64 (chk r N f) ∧ ULe U U' ∧ D = [] := by
 refine ct_of_st Tryz.func43 rfl rfl rfl rfl ?_
 repeat (first|refine run_S ?_|refine w_box fun _=>?_|refine w_al fun _=>?_)
 rename_i b1
 refine sl_gdec rfl rfl (fun h1 => ?_) (fun h1 => ?_)
 ·repeat (first|refine run_S ?_|refine w_box fun _=>?_|refine w_al fun _=>?_)
  exact sk_ret [] sym rfl (.cons (.tmp rfl) .nil) uc sb (.inl rfl) ⟨by unfold chk; rw [if_pos (.inl h1)]; rfl, uc, rfl⟩
 repeat (first|refine run_S ?_|refine w_box fun _=>?_|refine w_al fun _=>?_)
 refine st_dec rfl (fun h2 => ?_) (fun h2 => ?_)
 ·repeat (first|refine run_S ?_|refine w_box fun _=>?_|refine w_al fun _=>?_)
  exact sk_ret [] sym rfl (.cons (.tmp rfl) .nil) uc sb (.inl rfl) ⟨by unfold chk; rw [if_pos (.inr h2)]; rfl, uc, rfl⟩
 obtain ⟨n, rfl⟩ : ∃ n : Nat, r = (n : Int) := ⟨r.toNat, by omega⟩
 have hnn : n * n ≤ 8 * 8 := Nat.mul_le_mul (by omega) (by omega)
 have hni : (n : Int) * (n : Int) = ((n * n : Nat) : Int) := (Int.natCast_mul n n).symm
 have hc1 : chk (n : Int) N f = if (N : Int) ≠ (n : Int) * (n : Int) then 4 else if ¬ (∀ k, k < N → -1000 ≤ f k ∧ f k ≤ 1000) then 2 else if ¬ Evn n f then 3 else if ¬ Pdm n f then 27 else 0 := by
  unfold chk
  rw [if_neg (by omega), Int.toNat_natCast]
 rw [hc1]
 clear hc1
 repeat (first|refine run_S ?_|refine w_box fun _=>?_|refine w_al fun _=>?_)
 refine st_ne rfl (fun h3 => ?_) (fun h3 => ?_)
 ·repeat (first|refine run_S ?_|refine w_box fun _=>?_|refine w_al fun _=>?_)
  exact sk_ret [] sym rfl (.cons (.tmp rfl) .nil) uc sb (.inl rfl) ⟨by rw [if_pos h3]; rfl, uc, rfl⟩
 rw [if_neg (fun h => h h3)]
 obtain rfl : N = n * n := by omega
 repeat (first|refine run_S ?_|refine w_box fun _=>?_|refine w_al fun _=>?_)
 refine sl_call rfl rfl rfl rfl rfl rfl (fun _ => tinside_ct (rw1.up uc (List.nil_sublist _)) (el.up KeptC.out uc) (by omega)) ?_
 rintro v2 U2 D hU2 ⟨b, rfl, hb, rfl, rfl⟩
 rw [List.nil_append]
 cases b
 ·repeat (first|refine run_S ?_|refine w_box fun _=>?_|refine w_al fun _=>?_)
  exact sk_ret [] sym rfl (.cons (.tmp rfl) .nil) uc sb (.inl rfl) ⟨by rw [if_pos fun h => by have := hb.2 h; cases this]; rfl, uc, rfl⟩
 have hin := hb.1 rfl
 rw [if_neg (fun h => h hin)]
 repeat (first|refine run_S ?_|refine w_box fun _=>?_|refine w_al fun _=>?_)
 try refine st_anti (M' := (b1, .var (.agg #[.int .i64 (n : Int), .slice p (n * n) c]), 24) :: M) (ULe.refl _) sbk ?_
 refine st_loop (fun z E U' M' => ∃ (i : Nat), i ≤ n ∧ (∀ a, a < i → (∀ k, k < n → f (a * n + k) = f (k * n + a)) ∧ (f (a * n + a)).tmod 2 = 0) ∧ U = U' ∧ E = [(33, .int .i64 (i : Int)), (32, .int .i64 (n : Int)), (3, .int .i64 (n : Int)), (1, .pointer (some ⟨b1, 0, none⟩))] ∧ ULe U U' ∧ M' = (b1, .var (.agg #[.int .i64 (n : Int), .slice p (n * n) c]), 24) :: M ∧ z = n - i) (n0 := n - 0) (E0 := [(33, .int .i64 ((0 : Nat) : Int)), (32, .int .i64 (n : Int)), (3, .int .i64 (n : Int)), (1, .pointer (some ⟨b1, 0, none⟩))]) ⟨rfl, rfl, rfl, rfl, trivial⟩ ⟨0, by omega, (fun a h => absurd h (Nat.not_lt_zero a)), rfl, rfl, uc, rfl, rfl⟩ ?_
 rintro z E U1 M' ⟨i, hi, hall, rfl, rfl, hU1, rfl, rfl⟩
 try refine run_s ?_
 refine st_dec rfl (fun h => ?_) (fun h => ?_)
 ·have hir : i < n := by omega
  repeat (first|refine run_S ?_|refine w_box fun _=>?_|refine w_al fun _=>?_)
  try refine st_anti (M' := (b1, .var (.agg #[.int .i64 (n : Int), .slice p (n * n) c]), 24) :: M) (ULe.refl _) sbk ?_
  refine st_loop (fun z E U' M' => ∃ (k : Nat), k ≤ n ∧ (∀ a, a < k → f (i * n + a) = f (a * n + i)) ∧ U = U' ∧ E = [(37, .int .i64 (k : Int)), (36, .int .i64 (n : Int)), (4, .int .i64 (i : Int)), (33, .int .i64 (i : Int)), (32, .int .i64 (n : Int)), (3, .int .i64 (n : Int)), (1, .pointer (some ⟨b1, 0, none⟩))] ∧ ULe U U' ∧ M' = (b1, .var (.agg #[.int .i64 (n : Int), .slice p (n * n) c]), 24) :: M ∧ z = n - k) (n0 := n - 0) (E0 := [(37, .int .i64 ((0 : Nat) : Int)), (36, .int .i64 (n : Int)), (4, .int .i64 (i : Int)), (33, .int .i64 (i : Int)), (32, .int .i64 (n : Int)), (3, .int .i64 (n : Int)), (1, .pointer (some ⟨b1, 0, none⟩))]) ⟨rfl, rfl, rfl, rfl, rfl, rfl, rfl, trivial⟩ ⟨0, by omega, (fun a h => absurd h (Nat.not_lt_zero a)), rfl, rfl, uc, rfl, rfl⟩ ?_
  rintro z E U3 M' ⟨k, hk, hsym, rfl, rfl, hU3, rfl, rfl⟩
  try refine run_s ?_
  refine st_dec rfl (fun h4 => ?_) (fun h4 => ?_)
  ·have hkn : k < n := by omega
   have l1 := ij_lt hir hkn
   have l2 := ij_lt hkn hir
   obtain ⟨v1, hv1⟩ := rw1.at l1
   obtain ⟨v2, hv2⟩ := rw1.at l2
   obtain ⟨rfl, hz1⟩ := el _ _ hv1
   obtain ⟨rfl, hz2⟩ := el _ _ hv2
   repeat (first|refine run_S ?_|refine w_box fun _=>?_|refine w_al fun _=>?_)
   refine st_drawM [] [0, 1, 2, 3, 4, 5, 6, 7, 8, 9, 10, 11, 12, 13, 14, 15, 16, 17, 18] sym (by kernel_rfl) ?_
   repeat (first|refine run_S ?_|refine w_box fun _=>?_|refine w_al fun _=>?_)
   refine sl_y (yl_index sym rfl rfl rfl rfl rfl ( by omega) ((rw1.up uc sb).lt hv1) ((rw1.up uc sb).get _ _ hv1).1) rfl rfl rfl rfl ?_; refine sl_y (yl_loadR1 sym rfl rfl rfl rfl (rw1.up uc sb) hv1 rfl) rfl rfl rfl rfl ?_
   repeat (first|refine run_S ?_|refine w_box fun _=>?_|refine w_al fun _=>?_)
   refine sl_y (yl_index sym rfl rfl rfl rfl rfl ( by omega) ((rw1.up uc sb).lt hv2) ((rw1.up uc sb).get _ _ hv2).1) rfl rfl rfl rfl ?_; refine sl_y (yl_loadR1 sym rfl rfl rfl rfl (rw1.up uc sb) hv2 rfl) rfl rfl rfl rfl ?_
   repeat (first|refine run_S ?_|refine w_box fun _=>?_|refine w_al fun _=>?_)
   refine st_ne rfl (fun h5 => ?_) (fun h5 => ?_)
   ·repeat (first|refine run_S ?_|refine w_box fun _=>?_|refine w_al fun _=>?_)
    exact sk_ret [] sym rfl (.cons (.tmp rfl) .nil) uc sb (.inl rfl) ⟨by rw [if_pos fun h => h5 ((h i hir).1 k hkn)]; rfl, uc, rfl⟩
   ·repeat (first|refine run_S ?_|refine w_box fun _=>?_|refine w_al fun _=>?_)
    exact sk_again (E' := [(37, .int .i64 ((k : Int) + 1)), (36, .int .i64 (n : Int)), (4, .int .i64 (i : Int)), (33, .int .i64 (i : Int)), (32, .int .i64 (n : Int)), (3, .int .i64 (n : Int)), (1, .pointer (some ⟨b1, 0, none⟩))]) (m := n - (k + 1)) ⟨rfl, rfl, rfl, rfl, rfl, rfl, rfl, trivial⟩ (by omega) ⟨k + 1, by omega, (fun a ha => by
     rcases Nat.lt_or_eq_of_le (Nat.le_of_lt_succ ha) with h6 | h6
     ·exact hsym a h6
     ·rw [h6]; exact h5), rfl, rfl, uc, rfl, rfl⟩
  ·obtain rfl : n = k := by omega
   have l1 := ij_lt hir hir
   obtain ⟨v1, hv1⟩ := rw1.at l1
   obtain ⟨rfl, hz1⟩ := el _ _ hv1
   repeat (first|refine run_S ?_|refine w_box fun _=>?_|refine w_al fun _=>?_)
   refine sl_y (yl_index sym rfl rfl rfl rfl rfl ( by omega) ((rw1.up uc sb).lt hv1) ((rw1.up uc sb).get _ _ hv1).1) rfl rfl rfl rfl ?_; refine sl_y (yl_loadR1 sym rfl rfl rfl rfl (rw1.up uc sb) hv1 rfl) rfl rfl rfl rfl ?_
   repeat (first|refine run_S ?_|refine w_box fun _=>?_|refine w_al fun _=>?_)
   refine st_ne rfl (fun h5 => ?_) (fun h5 => ?_)
   ·repeat (first|refine run_S ?_|refine w_box fun _=>?_|refine w_al fun _=>?_)
    exact sk_ret [] sym rfl (.cons (.tmp rfl) .nil) uc sb (.inl rfl) ⟨by rw [if_pos fun h => h5 (h i hir).2]; rfl, uc, rfl⟩
   ·repeat (first|refine run_S ?_|refine w_box fun _=>?_|refine w_al fun _=>?_)
    exact sk_again (E' := [(33, .int .i64 ((i : Int) + 1)), (32, .int .i64 (n : Int)), (3, .int .i64 (n : Int)), (1, .pointer (some ⟨b1, 0, none⟩))]) (m := n - (i + 1)) ⟨rfl, rfl, rfl, rfl, trivial⟩ (by omega) ⟨i + 1, by omega, (fun a ha => by
     rcases Nat.lt_or_eq_of_le (Nat.le_of_lt_succ ha) with h6 | h6
     ·exact hall a h6
     ·rw [h6]; exact ⟨hsym, h5⟩), rfl, rfl, uc, rfl, rfl⟩
 obtain rfl : i = n := by omega
 have hev : Evn i f := hall
 rw [if_neg (fun h => h hev)]
 have hsz : ∀ a b, a < i → b < i → Szq (((f (a * i + b) : Int)) : Rat) 1 := fun a b ha hb => szq_int (k := 1) (by have := hin _ (ij_lt ha hb); unfold Sz; omega) (by decide)
 repeat (first|refine run_S ?_|refine w_box fun _=>?_|refine w_al fun _=>?_)
 refine sl_call rfl rfl rfl rfl rfl rfl (fun _ => tover_ct (rw1.up uc (List.nil_sublist _)) (el.up KeptC.out uc) rfl (by omega)) ?_
 rintro v3 U3 D hU3 ⟨h3v, rfl⟩
 rw [List.nil_append]
 refine sl_call rfl rfl rfl rfl rfl rfl (fun _ => mSignature_ct (b := 1) (h3v.w hsz) (Nat.le_refl 1) (fun k hk => Nat.le_trans (Nat.mul_le_mul_left _ (sgb_le (show k ≤ 7 by omega))) (by decide)) (by decide) (by omega)) ?_
 rintro v4 U4 D hU4 ⟨rfl, hs, -⟩
 rw [List.nil_append]
 have hsym : ∀ a b, a < i → b < i → ((f (a * i + b) : Int) : Rat) = ((f (b * i + a) : Int) : Rat) := fun a b ha hb => by rw [(hev a ha).1 b hb]
 obtain ⟨q, m, w, P, N, W, hS, hpm, rfl⟩ := hs hsym
 have hpd := La.sig_pdf hsym hS
 repeat (first|refine run_S ?_|refine w_box fun _=>?_|refine w_al fun _=>?_)
 refine sl_gdec rfl rfl (fun h => absurd rfl h) (fun _ => ?_)
 repeat (first|refine run_S ?_|refine w_box fun _=>?_|refine w_al fun _=>?_)
 refine st_ne rfl (fun h5 => ?_) (fun h5 => ?_)
 ·repeat (first|refine run_S ?_|refine w_box fun _=>?_|refine w_al fun _=>?_)
  exact sk_ret [] sym rfl (.cons (.tmp rfl) .nil) uc sb (.inl rfl) ⟨by rw [if_pos fun h => h5 (by rw [hpd.2 h])]; rfl, uc, rfl⟩
 ·repeat (first|refine run_S ?_|refine w_box fun _=>?_|refine w_al fun _=>?_)
  exact sk_ret [] sym rfl (.cons (.tmp rfl) .nil) uc sb (.inl rfl) ⟨by rw [if_neg fun h => h (hpd.1 (by omega))]; rfl, uc, rfl⟩
end Go.Proofs.YtjfkodlddladhaaGreat

/- Walks of layer 36: determinants. -/
namespace Go.Proofs.YtjfkodlddladhaaGreat
open Go.Hp
variable {G : World} {U U' : UH} {M : MH}
theorem tdet_ct {n N c : Nat} {p : Option Addr} {vs : List Value} {f : Nat → Int} (rw1 : RowAt U [] 1 p N vs) (el : El Vz U vs f) (hN : N = n * n) (hf : ∀ k, k < N → (f k).natAbs < 4294967296) (hn : n ≤ 8) :
  Ct Tryz.prog 91 [.int .i64 (n : Int), .slice p N c] G U M fun v U' D => ∃ x : IV, v = x.v ∧ x.nrm U' [] (Lr.det n fun i j => f (i * n + j)) ∧ D = [] := by
 subst hN
 have hnn : n * n ≤ 8 * 8 := Nat.mul_le_mul hn hn
 have hsz : ∀ a b, a < n → b < n → Szq (((f (a * n + b) : Int)) : Rat) 1 := fun a b ha hb => szq_int (k := 1) (by have := hf _ (ij_lt ha hb); unfold Sz; omega) (by decide)
 have hg5 : La.gro 1 n ≤ 300000 := Nat.le_trans (La.gro_le hn) (by decide)
 have hg6 : n * La.gro 1 n ≤ 8 * 300000 := Nat.mul_le_mul hn hg5
 have e0 : (La.det n fun i j => ((f (i * n + j) : Int) : Rat)) = ((Lr.det n fun i j => f (i * n + j) : Int) : Rat) := by
  have h := Fq.hom_q.det n fun i j => f (i * n + j)
  rw [Lr.det_la] at h
  exact h.symm
 refine ct_of_st Tryz.func91 rfl rfl rfl rfl ?_
 repeat (first|refine run_S ?_|refine w_box fun _=>?_|refine w_al fun _=>?_)
 rename_i b4
 refine sl_call rfl rfl rfl rfl rfl rfl (fun _ => tover_ct (rw1.up uc (List.nil_sublist _)) (el.up KeptC.out uc) rfl (by omega)) ?_
 rintro v1 U1 D hU1 ⟨h1, rfl⟩
 rw [List.nil_append]
 refine sl_call rfl rfl rfl rfl rfl rfl (fun _ => mDet_ct (b := 1) (h1.w hsz) (Nat.le_refl 1) (by omega) (by omega) (by omega)) ?_
 rintro v2 U2 D hU2 ⟨x2, rfl, h2, rfl, -, sd⟩
 rw [List.nil_append]
 rw [e0] at h2 sd
 repeat (first|refine run_S ?_|refine w_box fun _=>?_|refine w_al fun _=>?_)
 refine sl_call rfl rfl rfl rfl rfl rfl (fun _ => qInteger_ct (h2.rep.up uc (List.nil_sublist _)) (h2.le sd (by omega))) ?_
 rintro v3 U3 D hU3 ⟨r, b, rfl, hi, -, rfl⟩
 rw [List.nil_append]
 obtain ⟨rfl, hr⟩ := hi (Rat.den_intCast _)
 rw [Rat.num_intCast] at hr
 repeat (first|refine run_S ?_|refine w_box fun _=>?_|refine w_al fun _=>?_)
 exact sk_ret [] sym rfl (.cons (.cell 2 rfl rfl rfl) .nil) uc sb (.inl rfl) ⟨r, rfl, hr.up uc (List.Sublist.refl _), rfl⟩
end Go.Proofs.YtjfkodlddladhaaGreat

/- Walks of layer 36: Det. -/
namespace Go.Proofs.YtjfkodlddladhaaGreat
open Go.Hp
open Classical
variable {G : World} {U U' : UH} {M : MH}
theorem chk_zero {r : Int} {N : Nat} {f : Nat → Int} (h : chk r N f = 0) : ∃ n : Nat, r = (n : Int) ∧ 1 ≤ n ∧ n ≤ 8 ∧ N = n * n ∧ (∀ k, k < N → -1000 ≤ f k ∧ f k ≤ 1000) ∧ Evn n f ∧ Pdm n f := by
 unfold chk at h
 by_cases h1 : r < 1 ∨ r > 8
 ·rw [if_pos h1] at h; exact absurd h (by decide)
 rw [if_neg h1] at h
 by_cases h2 : (N : Int) ≠ r * r
 ·rw [if_pos h2] at h; exact absurd h (by decide)
 rw [if_neg h2] at h
 by_cases h3 : ¬ (∀ k, k < N → -1000 ≤ f k ∧ f k ≤ 1000)
 ·rw [if_pos h3] at h; exact absurd h (by decide)
 rw [if_neg h3] at h
 by_cases h4 : ¬ Evn r.toNat f
 ·rw [if_pos h4] at h; exact absurd h (by decide)
 rw [if_neg h4] at h
 by_cases h5 : ¬ Pdm r.toNat f
 ·rw [if_pos h5] at h; exact absurd h (by decide)
 obtain ⟨n, rfl⟩ : ∃ n : Nat, r = (n : Int) := ⟨r.toNat, by omega⟩
 rw [Int.toNat_natCast] at h4 h5
 exact ⟨n, rfl, by omega, by omega, by rw [← Int.natCast_mul] at h2; omega, Classical.not_not.1 h3, Classical.not_not.1 h4, Classical.not_not.1 h5⟩
theorem tDet_ct {r : Int} {N c : Nat} {p : Option Addr} {vs : List Value} {f : Nat → Int} (rw1 : RowAt U [] 1 p N vs) (el : El Vz U vs f) (hN : N ≤ 9223372036854775807) :
  Ct Tryz.prog 37 [.agg #[.int .i64 r, .slice p N c]] G U M fun v U' D => ∃ x : IV, v = .tuple #[x.v, .int .i64 (chk r N f)] ∧ (chk r N f ≠ 0 → x = zeroIV) ∧ (∀ n : Nat, r = (n : Int) → chk r N f = 0 → x.nrm U' [] (Lr.det n fun i j => f (i * n + j))) ∧ D = [] := by
 refine ct_of_st Tryz.func37 rfl rfl rfl rfl ?_
 repeat (first|refine run_S ?_|refine w_box fun _=>?_|refine w_al fun _=>?_)
 rename_i b1 b2
 refine sl_call rfl rfl rfl rfl rfl rfl (fun _ => tCheck_ct (rw1.up uc (List.nil_sublist _)) (el.up KeptC.out uc) hN) ?_
 rintro v1 U1 D hU1 ⟨rfl, -, rfl⟩
 rw [List.nil_append]
 repeat (first|refine run_S ?_|refine w_box fun _=>?_|refine w_al fun _=>?_)
 refine st_ne rfl (fun h => ?_) (fun h => ?_)
 ·repeat (first|refine run_S ?_|refine w_box fun _=>?_|refine w_al fun _=>?_)
  exact sk_ret [] sym rfl (.cons (.cell 0 rfl rfl rfl) (.cons (.tmp rfl) .nil)) uc sb (.inl rfl) ⟨zeroIV, rfl, fun _ => rfl, fun _ _ h0 => absurd h0 h, rfl⟩
 ·obtain ⟨n, rfl, hn1, hn8, hNn, hb, he, hp⟩ := chk_zero h
  rw [h]
  repeat (first|refine run_S ?_|refine w_box fun _=>?_|refine w_al fun _=>?_)
  refine sl_call rfl rfl rfl rfl rfl rfl (fun _ => tdet_ct (n := n) (rw1.up uc (List.nil_sublist _)) (el.up KeptC.out uc) hNn (fun k hk => by have := hb k hk; omega) hn8) ?_
  rintro v2 U2 D hU2 ⟨x, rfl, hx, rfl⟩
  rw [List.nil_append]
  repeat (first|refine run_S ?_|refine w_box fun _=>?_|refine w_al fun _=>?_)
  exact sk_ret [] sym rfl (.cons (.cell 0 rfl rfl rfl) (.cons (.tmp rfl) .nil)) uc sb (.inl rfl) ⟨x, rfl, fun h0 => absurd rfl h0, (fun m hm _ => by
   obtain rfl : n = m := by omega
   exact hx.up uc (List.Sublist.refl _)), rfl⟩
end Go.Proofs.YtjfkodlddladhaaGreat

/- Walks of layer 36: inverse matrices. -/
namespace Go.Proofs.YtjfkodlddladhaaGreat
open Go.Hp
variable {G : World} {U U' : UH} {M : MH}
theorem det_full {n r : Nat} {A R : Nat → Nat → Rat} {p : Nat → Nat} (h : EchOf n n r A R p) (hd : La.det n A ≠ 0) : r = n := by
 obtain ⟨r', R', p', d, hr⟩ := La.red_ex n A
 obtain ⟨rfl, -, -⟩ := h.ech.unique hr.echof.ech (h.same.trans hr.echof.same.symm)
 rcases Nat.lt_or_ge r n with h4 | h4
 ·exact absurd ((hr.rop rfl).det0 (r := n - 1) (by omega) fun j hj => hr.zero (n - 1) j (by omega) (by omega) hj) hd
 ·have := h.le; omega
theorem tinverse_ct {n c : Nat} {p : Option Addr} {vs : List Value} {f : Nat → Int} (rw1 : RowAt U [] 1 p (n * n) vs) (el : El Vz U vs f) (hb : ∀ k, k < n * n → -1000 ≤ f k ∧ f k ≤ 1000) (hp : Pdm n f) (h1n : 1 ≤ n) (hn : n ≤ 8) :
  Ct Tryz.prog 77 [.agg #[.int .i64 (n : Int), .slice p (n * n) c]] G U M fun v U' D => ∃ X : Nat → Nat → Rat, Ls Vq 4 (n * n) U' [] v (fl n X) ∧ (∀ i j, i < n → j < n → La.mm n X (fun i j => ((f (i * n + j) : Int) : Rat)) i j = La.idm i j) ∧ (∀ i j, i < n → j < n → Szq (X i j) (La.gro 1 n)) ∧ D = [] := by
 have hnn : n * n ≤ 8 * 8 := Nat.mul_le_mul hn hn
 have hsz : ∀ a b, a < n → b < n → Szq (((f (a * n + b) : Int)) : Rat) 1 := fun a b ha hb' => szq_int (k := 1) (by have := hb _ (ij_lt ha hb'); unfold Sz; omega) (by decide)
 have hg5 : La.gro 1 n ≤ 300000 := Nat.le_trans (La.gro_le hn) (by decide)
 have hg6 : n * La.gro 1 n ≤ 8 * 300000 := Nat.mul_le_mul hn hg5
 refine ct_of_st Tryz.func77 rfl rfl rfl rfl ?_
 repeat (first|refine run_S ?_|refine w_box fun _=>?_|refine w_al fun _=>?_)
 rename_i b1
 refine sl_call rfl rfl rfl rfl rfl rfl (fun _ => tover_ct (rw1.up uc (List.nil_sublist _)) (el.up KeptC.out uc) rfl (by omega)) ?_
 rintro v1 U1 D hU1 ⟨h1, rfl⟩
 rw [List.nil_append]
 refine sl_call rfl rfl rfl rfl rfl rfl (fun _ => mInverse_ct (b := 1) (h1.w hsz) (Nat.le_refl 1) (by omega) (by omega) (by omega)) ?_
 rintro v2 U2 D hU2 ⟨r, R, q, vX, e, rfl, hE, -, h2, rfl⟩
 rw [List.nil_append]
 obtain rfl := det_full hE (fun h0 => by
  have := hp n h1n (Nat.le_refl n)
  rw [h0] at this
  exact absurd this (by decide))
 obtain ⟨rfl, X, hX, hm, hs⟩ := h2 rfl
 obtain ⟨_, rfl, px, cx, xs, rfl, hcx, rx, ex⟩ := id hX
 repeat (first|refine run_S ?_|refine w_box fun _=>?_|refine w_al fun _=>?_)
 exact sk_ret [] sym rfl (.cons (.tmp rfl) .nil) uc sb (.inl rfl) ⟨X, ⟨px, cx, xs, rfl, hcx, rx.up uc (List.Sublist.refl _), ex.up kept_q uc⟩, hm, hs, rfl⟩
end Go.Proofs.YtjfkodlddladhaaGreat

/- Walks of layer 36: Level (begun: only the plain part). -/
namespace Go.Proofs.YtjfkodlddladhaaGreat
open Go.Hp
variable {G : World} {U U' : UH} {M : MH}
def dlv (n : Nat) (X : Nat → Nat → Rat) (i : Nat) : Nat := (if i / n = i % n then fl n X i * ((1 : Rat) / 2) else fl n X i).den
theorem dlv_pos {n : Nat} {X : Nat → Nat → Rat} (i : Nat) : 0 < dlv n X i := Rat.den_pos _
theorem lv_step {d : Nat → Nat} {j : Nat} : ((Fq.lv d (j + 1) : Nat) : Int) = (Fq.lv d j : Int) * ((d j : Int) / (Int.gcd (Fq.lv d j : Int) (d j : Int) : Int)) := by
 show ((Fq.lv d j * (d j / Nat.gcd (Fq.lv d j) (d j)) : Nat) : Int) = _
 rw [Int.natCast_mul, Int.natCast_ediv]
 rfl
theorem lv_mod {a b : Nat} : (b : Int) % (Int.gcd (a : Int) (b : Int) : Int) = 0 := Int.emod_eq_zero_of_dvd (Int.gcd_dvd_right ..)
theorem qQuo_st {x y : QV} {p q : Rat} (hx : x.rep U M p) (hn : x.le 68719476736) (hy : y.rep U M q) (hn' : y.le 68719476736) (hq : q ≠ 0) :
  Ct Tryz.prog 93 [x.v, y.v] G U M fun v U' D => ∃ r : QV, v = .tuple #[r.v, .int .i64 0] ∧ r.nrm U' [] (p / q) ∧ D = [] :=
 (qQuo_ct hx hn hy hn').settle.mono fun _ _ _ _ ⟨h1, _, _, ⟨r, e, h2, _, h3, _⟩, _, _, hs⟩ => by
  obtain ⟨rfl, h4⟩ := h3 hq
  exact ⟨r, h2, h4.sett hs, h1⟩
theorem Exact_st {x y : IV} {z u : Int} (hx : x.rep U M z) (hn : x.n ≤ 1099511627776) (hy : y.rep U M u) (hn' : y.n ≤ 1099511627776) (hu : u ≠ 0) (hz : z % u = 0) :
  Ct Tryz.prog 95 [x.v, y.v] G U M fun v U' D => ∃ r : IV, v = .tuple #[r.v, .int .i64 0] ∧ r.nrm U' [] (z / u) ∧ D = [] :=
 (Exact_ct hx hn hy hn').settle.mono fun _ _ _ _ ⟨h1, _, _, ⟨r, e, h2, _, _, h3, _⟩, _, _, hs⟩ => by
  obtain ⟨rfl, h4⟩ := h3 hu hz
  exact ⟨r, h2, h4.sett hs, h1⟩
end Go.Proofs.YtjfkodlddladhaaGreat
