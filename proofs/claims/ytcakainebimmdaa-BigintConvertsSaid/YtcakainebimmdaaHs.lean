/- The rules with which the functions are walked: regions, in the text's order and in whatever order. Program in general; no condition. -/
import Derived.Test.YtcakainebimmdaaHm
namespace Go.Hp
variable {P : Program} {T : TT} {K : Kont} {N : Nat} {G : World} {E : Env} {U : UH} {M : MH}

/-- May the operation be carried out? -/
def gok (L : List Oper) (E : Env) : Option (Nat × Bool) → Option Bool
  | none => some true
  | some (j, want) => match nth L j with
    | some o => match o.dst with
      | some d => match lk E d with
        | some (.bool b) => some (bif want then b else !b)
        | some (.tuple _) => some false
        | _ => none
      | none => none
    | none => none

theorem gok_wanted {L : List Oper} {o : Oper} {b : Bool} (h : gok L E o.guard = some b) {a : Act} (ha : Has a N E) : Region.wanted o (yielded L.toArray a.tmps) = b := by
  unfold gok at h
  unfold Region.wanted
  split at h
  · rename_i hg; simp at h; simp [hg, h]
  · rename_i j want hg
    simp only [hg]
    split at h
    · rename_i o' ho'
      split at h
      · rename_i d hd
        split at h
        · rename_i b' hb'
          simp only [Option.some.injEq] at h
          rw [nth_eq] at ho'
          have := ha.get _ _ hb'
          simp only [yielded, List.getElem?_toArray, ho', Option.bind_some, hd, this]
          cases want <;> cases b' <;> simp at h ⊢ <;> exact h
        · rename_i vs hb'
          simp only [Option.some.injEq] at h
          rw [nth_eq] at ho'
          have := ha.get _ _ hb'
          simp only [yielded, List.getElem?_toArray, ho', Option.bind_some, hd, this]
          simpa using h
        · cases h
      · cases h
    · cases h

theorem gok_congr {L : List Oper} {E E' : Env} {g : Option (Nat × Bool)} {b : Bool} (h : gok L E g = some b) (hl : ∀ j want o d, g = some (j, want) → nth L j = some o → o.dst = some d → ∀ v, lk E d = some v → lk E' d = some v) : gok L E' g = some b := by
  unfold gok at *
  split at h
  · exact h
  · rename_i j want
    split at h
    · rename_i o' ho'
      split at h
      · rename_i d hd
        split at h
        · rename_i b' hb'
          simp only [hl j want o' d rfl ho' hd _ hb']
          exact h
        · rename_i vs hb'
          simp only [hl j want o' d rfl ho' hd _ hb']
          exact h
        · cases h
      · cases h
    · cases h

/-! ### what an operation does, its value aside from the slot -/
def exV (P : Program) (r : Result Next) (R : Value → World → Prop) : Prop :=
  match r with
  | .ok (.value v) w' => R v w'
  | .ok .skip w' => R undef w'
  | .ok (.enter f args) w' => Calls P f args w' fun e w'' => ∃ v, e = .returned v ∧ R v w''
  | _ => False

def wpV (P : Program) (L : List Oper) (o : Oper) (a : Act) (w : World) (R : Value → World → Prop) : Prop :=
  if Region.wanted o (yielded L.toArray a.tmps) then exV P ((execOp a.eval o).run P w) R else R undef w

theorem exV_mono {r : Result Next} {R R' : Value → World → Prop} (h : exV P r R) (hr : ∀ v w, R v w → R' v w) : exV P r R' := by
  unfold exV at *
  split at h
  · exact hr _ _ h
  · exact hr _ _ h
  · exact h.mono fun e w ⟨v, h1, h2⟩ => ⟨v, h1, hr _ _ h2⟩
  · exact h.elim
theorem wpV_mono {L : List Oper} {o : Oper} {a : Act} {w : World} {R R' : Value → World → Prop} (h : wpV P L o a w R) (hr : ∀ v w, R v w → R' v w) : wpV P L o a w R' := by
  unfold wpV at *
  split
  · rename_i hw; rw [if_pos hw] at h; exact exV_mono h hr
  · rename_i hw; rw [if_neg hw] at h; exact hr _ _ h

theorem wp_of_exV {o : Oper} {a : Act} {w : World} {R : Value → World → Prop} {K' : Act → World → Prop} {Q : Exit → Act → World → Prop} (h : exV P ((execOp a.eval o).run P w) R) (hk : ∀ v w', R v w' → K' (a.put o.dst v) w') : o.wp P a w K' Q := by
  unfold Oper.wp
  unfold exV at h
  split at h
  · rename_i hr; rw [hr]; exact hk _ _ h
  · rename_i hr; rw [hr]; exact hk _ _ h
  · rename_i hr
    rw [hr, Oper.upon_enter]
    refine h.mono ?_
    rintro e w'' ⟨v, rfl, h2⟩
    exact hk _ _ h2
  · exact h.elim

theorem wpV_congr {L : List Oper} {o : Oper} {a a' : Act} {w : World} {R : Value → World → Prop} (he : execOp a'.eval o = execOp a.eval o) (hw : Region.wanted o (yielded L.toArray a'.tmps) = Region.wanted o (yielded L.toArray a.tmps)) (h : wpV P L o a w R) : wpV P L o a' w R := by
  unfold wpV at *
  rw [he, hw]; exact h

/-- The operation yields v (or is not wanted, and v is no value) and leaves every world that fits as it is. -/
structure Yg (P : Program) (L : List Oper) (N : Nat) (G : World) (o : Oper) (E : Env) (U : UH) (M : MH) (v : Value) : Prop where
  run : ∀ a w, Has a N E → Mem G U M w → (Region.wanted o (yielded L.toArray a.tmps) = true ∧ (execOp a.eval o).run P w = .ok (.value v) w) ∨ (Region.wanted o (yielded L.toArray a.tmps) = false ∧ v = undef)

/-! ### kinds of operations, for regions that draw their order -/
inductive Kd where
  | Y | A | C | X

def kd (T : TT) : Op → Kd
  | .alloc _ => .A
  | .box .. | .buildSlice .. | .makeSlice .. => .C
  | .call c => match c.callee with
    | .builtin .len | .builtin .cap | .builtin .min | .builtin .max => .Y
    | .builtin .append => .C
    | .builtin _ => .X
    | _ => .C
  | .convert _ d _ => match lkT T d with
    | some ⟨.int _, _, _, _⟩ => .Y
    | _ => .C
  | .move _ | .assign _ | .pick .. | .load .. | .nilCheck _ | .binOp .. | .unOp .. | .fieldAddr .. | .field .. | .indexAddr .. | .index .. | .extract .. | .slice .. | .build .. => .Y
  | _ => .X

def isY : Kd → Bool
  | .Y => true
  | _ => false
def isC : Kd → Bool
  | .C => true
  | _ => false
def isX : Kd → Bool
  | .X => true
  | _ => false

/-- The walk of a region: a list of its operations, each with a mark (may the order be another?) and its number. -/
inductive SL (P : Program) (T : TT) (L : List Oper) (K : Kont) (N : Nat) (G : World) : List (Bool × Nat × Oper) → Env → UH → MH → Prop where
  | nil {E : Env} {U : UH} {M : MH} (h : SK K N G .normal E U M) : SL P T L K N G [] E U M
  | det {f : Bool} {i d : Nat} {o : Oper} {v : Value} {l : List (Bool × Nat × Oper)} {E : Env} {U : UH} {M : MH} (hk : f = false ∨ isY (kd T o.op) = true ∨ gok L E o.guard = some false) (hd : o.dst = some d) (hN : Nat.blt d N = true)
      (hy : Yg P L N G o E U M v) (h : SL P T L K N G l ((d, v) :: E) U M) : SL P T L K N G ((f, i, o) :: l) E U M
  | al {f : Bool} {i d t : Nat} {o : Oper} {z : Value} {l : List (Bool × Nat × Oper)} {E : Env} {U : UH} {M : MH} (ho : o.op = .alloc t) (hg : gok L E o.guard = some true) (hz : ∀ w, (zeroValue t).run P w = .ok z w) (hd : o.dst = some d) (hN : Nat.blt d N = true)
      (h : ∀ b, SL P T L K N G l ((d, .pointer (some ⟨b, 0, none⟩)) :: E) U ((b, .var z, t) :: M)) : SL P T L K N G ((f, i, o) :: l) E U M
  | gr {f : Bool} {i d : Nat} {o : Oper} {R : Value → UH → MH → Prop} {l : List (Bool × Nat × Oper)} {E : Env} {U : UH} {M : MH} (hk : f = false ∨ isC (kd T o.op) = true) (hd : o.dst = some d) (hN : Nat.blt d N = true)
      (hr : ∀ M2 a w, Has a N E → Mem G U (M2 ++ M) w → wpV P L o a w fun v w' => ∃ U' D, ULe U U' ∧ Mem G U' (D ++ (M2 ++ M)) w' ∧ R v U' D)
      (h : ∀ v U' D, ULe U U' → R v U' D → SL P T L K N G l ((d, v) :: E) U' (D ++ M)) : SL P T L K N G ((f, i, o) :: l) E U M
  | x {f : Bool} {i : Nat} {o : Oper} {R : Value → UH → MH → Prop} {l : List (Bool × Nat × Oper)} {E : Env} {U : UH} {M : MH} (hk : f = false ∨ isX (kd T o.op) = true)
      (hN : ∀ d, o.dst = some d → Nat.blt d N = true)
      (hr : ∀ a w, Has a N E → Mem G U M w → wpV P L o a w fun v w' => ∃ U' M', Mem G U' M' w' ∧ R v U' M')
      (h : ∀ v U' M', R v U' M' → SL P T L K N G l (match o.dst with | some d => (d, v) :: E | none => E) U' M') : SL P T L K N G ((f, i, o) :: l) E U M

def Wk (E' E : Env) : Prop := ∀ t v, lk E' t = some v → lk E t = some v
theorem Wk.refl (E : Env) : Wk E E := fun _ _ h => h
theorem Wk.cons {E' E : Env} (h : Wk E' E) (d : Nat) (v : Value) : Wk ((d, v) :: E') ((d, v) :: E) := by
  intro t u hu
  by_cases e : d = t
  · subst e; rw [lk_cons_eq] at hu ⊢; exact hu
  · rw [lk_cons_ne e] at hu ⊢; exact h t u hu
theorem Has.wk {a : Act} {E' E : Env} (h : Has a N E) (hw : Wk E' E) : Has a N E' := ⟨h.defers, h.size, fun t v hv => h.get t v (hw t v hv)⟩
theorem Wk.swap {E : Env} {d e : Nat} {v u : Value} (h : d ≠ e) : Wk ((d, v) :: (e, u) :: E) ((e, u) :: (d, v) :: E) := by
  intro t x hx
  by_cases h1 : d = t
  · subst h1
    rw [lk_cons_eq] at hx
    rw [lk_cons_ne (Ne.symm h), lk_cons_eq]; exact hx
  · rw [lk_cons_ne h1] at hx
    by_cases h2 : e = t
    · subst h2; rw [lk_cons_eq] at hx ⊢; exact hx
    · rw [lk_cons_ne h2] at hx ⊢; rw [lk_cons_ne h1]; exact hx

theorem SK.congr {e : Exit} {E' : Env} {M' : MH} (h : SK K N G e E' U M') (hw : Wk E' E) (hp : M'.Perm M) : SK K N G e E U M :=
  ⟨fun a w ha hm => h.run a w (ha.wk hw) (hm.perm hp.symm)⟩

theorem SL.congr {L : List Oper} {l : List (Bool × Nat × Oper)} {E' : Env} {M' : MH} (h : SL P T L K N G l E' U M') : ∀ {E : Env} {M : MH}, Wk E' E → M'.Perm M → SL P T L K N G l E U M := by
  induction h with
  | nil h => exact fun hw hp => .nil (h.congr hw hp)
  | det hk hd hN hy h ih =>
    exact fun hw hp => .det (hk.imp id (fun h => h.imp id fun hg => gok_congr hg fun _ _ _ d _ _ _ v hv => hw d v hv)) hd hN ⟨fun a w ha hm => hy.run a w (ha.wk hw) (hm.perm hp.symm)⟩ (ih (hw.cons _ _) hp)
  | al ho hg hz hd hN h ih =>
    exact fun hw hp => .al ho (gok_congr hg fun _ _ _ d _ _ _ v hv => hw d v hv) hz hd hN fun b => ih b (hw.cons _ _) (hp.cons _)
  | gr hk hd hN hr h ih =>
    intro E M hw hp
    exact .gr hk hd hN (fun M2 a w ha hm => wpV_mono (hr M2 a w (ha.wk hw) (hm.perm (hp.symm.append_left M2))) fun v w' ⟨U', D, h1, h2, h3⟩ => ⟨U', D, h1, h2.perm ((hp.append_left M2).append_left D), h3⟩)
      (fun v U' D h1 h2 => ih v U' D h1 h2 (hw.cons _ _) (hp.append_left D))
  | @x f i o R l E0 U0 M0 hk hN hr h ih =>
    intro E M hw hp
    refine .x hk hN (fun a w ha hm => hr a w (ha.wk hw) (hm.perm hp.symm)) (fun v U' M' h1 => ih v U' M' h1 ?_ (List.Perm.refl _))
    cases o.dst with
    | none => exact hw
    | some d => exact hw.cons _ _

/-- What follows may be replaced. -/
theorem SL.tail {L : List Oper} {p : Bool × Nat × Oper} {l l' : List (Bool × Nat × Oper)} (hl : ∀ E U M, SL P T L K N G l E U M → SL P T L K N G l' E U M) (h : SL P T L K N G (p :: l) E U M) : SL P T L K N G (p :: l') E U M := by
  cases h with
  | det hk hd hN hy h => exact .det hk hd hN hy (hl _ _ _ h)
  | al ho hg hz hd hN h => exact .al ho hg hz hd hN fun b => hl _ _ _ (h b)
  | gr hk hd hN hr h => exact .gr hk hd hN hr fun v U' D h1 h2 => hl _ _ _ (h v U' D h1 h2)
  | x hk hN hr h => exact .x hk hN hr fun v U' M' h1 => hl _ _ _ (h v U' M' h1)

/-! ### the text's order -/
def idx : Nat → List Oper → List (Bool × Nat × Oper)
  | _, [] => []
  | k, o :: r => (false, k, o) :: idx (k + 1) r
theorem idx_map : ∀ (l : List Oper) (k : Nat), (idx k l).map (·.2.2) = l
  | [], _ => rfl
  | o :: r, k => by simp [idx, idx_map r (k + 1)]

theorem SL.list {L : List Oper} {l : List (Bool × Nat × Oper)} (h : SL P T L K N G l E U M) : ∀ a w, Has a N E → Mem G U M w → wpList P L.toArray K (l.map (·.2.2)) a w := by
  induction h with
  | nil h => exact fun a w ha hm => wpList_nil (h.run a w ha hm)
  | @det f i d o v l E U M hk hd hN hy h ih =>
    intro a w ha hm
    rw [List.map_cons]
    unfold wpList
    rcases hy.run a w ha hm with ⟨h1, h2⟩ | ⟨h1, rfl⟩
    · rw [h1, if_pos rfl]
      refine .inl ?_
      unfold Oper.wp
      rw [h2, Oper.upon_value, hd]
      exact ih _ w (ha.put hN v) hm
    · rw [h1, if_neg (by simp), hd]
      exact ih _ w (ha.put hN _) hm
  | @al f i d t o z l E U M ho hg hz hd hN h ih =>
    intro a w ha hm
    rw [List.map_cons]
    unfold wpList
    rw [gok_wanted hg ha, if_pos rfl]
    refine .inl ?_
    have hr : (execOp a.eval o).run P w = .ok (.value (.pointer (some ⟨w.heap.size, 0, none⟩))) (w.alloc (.cells z.cells t)) := by
      simp [execOp, ho, Instr.alloc, newVar, newRow, hz]
    unfold Oper.wp
    rw [hr, Oper.upon_value, hd]
    exact ih _ _ _ (ha.put hN _) (hm.alloc (.var z) t)
  | @gr f i d o R l E U M hk hd hN hr h ih =>
    intro a w ha hm
    rw [List.map_cons]
    have h1 := hr [] a w ha hm
    unfold wpList
    unfold wpV at h1
    split
    · rename_i hw
      rw [if_pos hw] at h1
      refine .inl (wp_of_exV h1 ?_)
      rintro v w' ⟨U', D, h2, h3, h4⟩
      rw [hd]
      exact ih v U' D h2 h4 _ w' (ha.put hN v) h3
    · rename_i hw
      rw [if_neg hw] at h1
      obtain ⟨U', D, h2, h3, h4⟩ := h1
      rw [hd]
      exact ih _ U' D h2 h4 _ w (ha.put hN _) h3
  | @x f i o R l E U M hk hN hr h ih =>
    intro a w ha hm
    rw [List.map_cons]
    have h1 := hr a w ha hm
    have hput : ∀ v, Has (a.put o.dst v) N (match o.dst with | some d => (d, v) :: E | none => E) := by
      intro v
      cases hd : o.dst with
      | none => exact ha
      | some d => exact ha.put (hN d hd) v
    unfold wpList
    unfold wpV at h1
    split
    · rename_i hw
      rw [if_pos hw] at h1
      refine .inl (wp_of_exV h1 ?_)
      rintro v w' ⟨U', M', h3, h4⟩
      exact ih v U' M' h4 _ w' (hput v) h3
    · rename_i hw
      rw [if_neg hw] at h1
      obtain ⟨U', M', h3, h4⟩ := h1
      exact ih _ U' M' h4 _ w (hput _) h3

theorem st_region {id : Nat} {L : List Oper} (h : SL P T L K N G (idx 0 L) E U M) : St P K N G (.region id L.toArray false) E U M :=
  ⟨fun a w ha hw => wp_region_lit (by have := h.list a w ha hw; rwa [idx_map] at this)⟩

end Go.Hp
