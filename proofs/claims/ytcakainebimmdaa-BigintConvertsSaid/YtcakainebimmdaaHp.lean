/- The owned memory in another order, within a region. -/
import Derived.Test.YtcakainebimmdaaHx
namespace Go.Hp
variable {P : Program} {T : TT} {K : Kont} {N : Nat} {G : World} {E : Env} {U : UH} {M : MH} {L : List Oper} {l : List Ent} {f : Bool} {i : Nat} {o : Oper}

theorem sk_perm {e : Exit} {M' : MH} (hp : M.Perm M') (h : SK K N G e E U M') : SK K N G e E U M := ⟨fun a w ha hw => h.run a w ha (hw.perm hp)⟩
theorem st_perm {c : Code} {M' : MH} (hp : M.Perm M') (h : St P K N G c E U M') : St P K N G c E U M := ⟨fun a w ha hw => h.run a w ha (hw.perm hp)⟩

theorem sl_perm {M M' : MH} (h : SL P T L K N G l E U M') (hp : M.Perm M') : SL P T L K N G l E U M := by
  induction h generalizing M with
  | nil h => exact .nil (sk_perm hp h)
  | det hk hd hN hy h ih => exact .det hk hd hN ⟨fun a w ha hw => hy.run a w ha (hw.perm hp)⟩ (ih hp)
  | al ho hg hz hd hN h ih => exact .al ho hg hz hd hN fun b => ih b (hp.cons _)
  | gr hk hd hN hr h ih =>
    refine .gr hk hd hN (fun M2 a w ha hw => ?_) (fun v U' D h1 h2 => ih v U' D h1 h2 (hp.append_left D))
    refine wpV_mono (hr M2 a w ha (hw.perm (hp.append_left M2))) ?_
    rintro v w' ⟨U', D, h1, h2, h3⟩
    exact ⟨U', D, h1, h2.perm (((hp.append_left M2).append_left D).symm), h3⟩
  | x hk hN hr h ih => exact .x hk hN (fun a w ha hw => hr a w ha (hw.perm hp)) h

theorem perm1 {α : Type} {D M : List α} {x : α} : (D ++ x :: M).Perm (x :: (D ++ M)) := List.perm_middle
theorem perm2 {α : Type} {D M : List α} {x y : α} : (D ++ x :: y :: M).Perm (x :: y :: (D ++ M)) := List.perm_middle.trans (List.perm_middle.cons x)
theorem perm3 {α : Type} {D M : List α} {x y z : α} : (D ++ x :: y :: z :: M).Perm (x :: y :: z :: (D ++ M)) := List.perm_middle.trans (perm2.cons x)
theorem perm4 {α : Type} {D M : List α} {x y z u : α} : (D ++ x :: y :: z :: u :: M).Perm (x :: y :: z :: u :: (D ++ M)) := List.perm_middle.trans (perm3.cons x)
theorem perm5 {α : Type} {D M : List α} {x y z u v : α} : (D ++ x :: y :: z :: u :: v :: M).Perm (x :: y :: z :: u :: v :: (D ++ M)) := List.perm_middle.trans (perm4.cons x)
theorem perm6 {α : Type} {D M : List α} {x y z u v a : α} : (D ++ x :: y :: z :: u :: v :: a :: M).Perm (x :: y :: z :: u :: v :: a :: (D ++ M)) := List.perm_middle.trans (perm5.cons x)
theorem perm7 {α : Type} {D M : List α} {x y z u v a b : α} : (D ++ x :: y :: z :: u :: v :: a :: b :: M).Perm (x :: y :: z :: u :: v :: a :: b :: (D ++ M)) := List.perm_middle.trans (perm6.cons x)
theorem perm8 {α : Type} {D M : List α} {x y z u v a b c : α} : (D ++ x :: y :: z :: u :: v :: a :: b :: c :: M).Perm (x :: y :: z :: u :: v :: a :: b :: c :: (D ++ M)) := List.perm_middle.trans (perm7.cons x)
theorem perm9 {α : Type} {D M : List α} {x y z u v a b c d : α} : (D ++ x :: y :: z :: u :: v :: a :: b :: c :: d :: M).Perm (x :: y :: z :: u :: v :: a :: b :: c :: d :: (D ++ M)) := List.perm_middle.trans (perm8.cons x)
theorem perm10 {α : Type} {D M : List α} {x y z u v a b c d e : α} : (D ++ x :: y :: z :: u :: v :: a :: b :: c :: d :: e :: M).Perm (x :: y :: z :: u :: v :: a :: b :: c :: d :: e :: (D ++ M)) := List.perm_middle.trans (perm9.cons x)
theorem perm11 {α : Type} {D M : List α} {x y z u v a b c d e f : α} : (D ++ x :: y :: z :: u :: v :: a :: b :: c :: d :: e :: f :: M).Perm (x :: y :: z :: u :: v :: a :: b :: c :: d :: e :: f :: (D ++ M)) := List.perm_middle.trans (perm10.cons x)
theorem perm12 {α : Type} {D M : List α} {x y z u v a b c d e f g : α} : (D ++ x :: y :: z :: u :: v :: a :: b :: c :: d :: e :: f :: g :: M).Perm (x :: y :: z :: u :: v :: a :: b :: c :: d :: e :: f :: g :: (D ++ M)) := List.perm_middle.trans (perm11.cons x)
theorem perm13 {α : Type} {D M : List α} {x y z u v a b c d e f g h : α} : (D ++ x :: y :: z :: u :: v :: a :: b :: c :: d :: e :: f :: g :: h :: M).Perm (x :: y :: z :: u :: v :: a :: b :: c :: d :: e :: f :: g :: h :: (D ++ M)) := List.perm_middle.trans (perm12.cons x)
theorem perm14 {α : Type} {D M : List α} {x y z u v a b c d e f g h i : α} : (D ++ x :: y :: z :: u :: v :: a :: b :: c :: d :: e :: f :: g :: h :: i :: M).Perm (x :: y :: z :: u :: v :: a :: b :: c :: d :: e :: f :: g :: h :: i :: (D ++ M)) := List.perm_middle.trans (perm13.cons x)
theorem rot1 {α : Type} {R : List α} {o x : α} : (o :: x :: R).Perm (x :: o :: R) := perm1 (D := [o]) (M := R)
theorem rot2 {α : Type} {R : List α} {o x y : α} : (o :: x :: y :: R).Perm (x :: y :: o :: R) := perm2 (D := [o]) (M := R)
theorem rot3 {α : Type} {R : List α} {o x y z : α} : (o :: x :: y :: z :: R).Perm (x :: y :: z :: o :: R) := perm3 (D := [o]) (M := R)
theorem rot4 {α : Type} {R : List α} {o x y z u : α} : (o :: x :: y :: z :: u :: R).Perm (x :: y :: z :: u :: o :: R) := perm4 (D := [o]) (M := R)
theorem rot5 {α : Type} {R : List α} {o x y z u v : α} : (o :: x :: y :: z :: u :: v :: R).Perm (x :: y :: z :: u :: v :: o :: R) := perm5 (D := [o]) (M := R)
theorem rot6 {α : Type} {R : List α} {o x y z u v a : α} : (o :: x :: y :: z :: u :: v :: a :: R).Perm (x :: y :: z :: u :: v :: a :: o :: R) := perm6 (D := [o]) (M := R)
theorem rot7 {α : Type} {R : List α} {o x y z u v a b : α} : (o :: x :: y :: z :: u :: v :: a :: b :: R).Perm (x :: y :: z :: u :: v :: a :: b :: o :: R) := perm7 (D := [o]) (M := R)
theorem rot8 {α : Type} {R : List α} {o x y z u v a b c : α} : (o :: x :: y :: z :: u :: v :: a :: b :: c :: R).Perm (x :: y :: z :: u :: v :: a :: b :: c :: o :: R) := perm8 (D := [o]) (M := R)

theorem sub_assoc {α : Type} {l A B M : List α} (h : l.Sublist (A ++ (B ++ M))) : l.Sublist ((A ++ B) ++ M) := by rwa [List.append_assoc]
theorem sub_r {α : Type} {l A M : List α} (h : l.Sublist M) : l.Sublist (A ++ M) := h.trans (List.sublist_append_right A M)

end Go.Hp
