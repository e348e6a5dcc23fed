/- The rules with which the functions are walked: a region that draws its order is walked in ONE order, and so in all. Program in general; no condition. -/
import Derived.Test.YtcakainebimmdaaHs
namespace Go.Hp
variable {P : Program} {T : TT} {K : Kont} {N : Nat} {G : World} {E : Env} {U : UH} {M : MH} {L : List Oper}

abbrev Ent := Bool × Nat × Oper

def noSel : Op → Bool
  | .select .. => false
  | _ => true
theorem noSel_spec {o : Oper} (h : noSel o.op = true) : ∀ cs b, o.op ≠ .select cs b := by
  intro cs b e; rw [e] at h; cases h

def isA (T : TT) (N : Nat) (o : Oper) : Bool :=
  match o.op, o.guard, o.dst with
  | .alloc t, none, some d => (lkT T t).isSome && Nat.blt d N
  | _, _, _ => false

/-- A mere copy of a slot. -/
def isMv (o : Oper) : Bool :=
  match o.op, o.guard with
  | .move _, none => true
  | _, _ => false

/-- What was walked 'i, then j' may be carried out 'j, then i'. -/
def swapOK (T : TT) (N : Nat) (L : List Oper) (i j : Oper) : Bool :=
  i.apart L.toArray j && noSel i.op && noSel j.op && (((isY (kd T i.op) && !isX (kd T j.op)) || (isA T N j && !isX (kd T i.op))) || (isMv i && isX (kd T j.op)))

/-- A state that has the slots of E but for slot d, which the operation does not look at. -/
theorem Has.back {a : Act} {d : Nat} {v : Value} (h : Has a N ((d, v) :: E)) : ∃ u, Has (a.put (some d) u) N E := by
  cases hl : lk E d with
  | none =>
    refine ⟨v, h.defers, by simp [Act.put, h.size], fun t x hx => ?_⟩
    have hne : d ≠ t := fun e => by subst e; rw [hl] at hx; cases hx
    simp only [Act.put, Array.getElem?_setIfInBounds_ne hne]
    exact h.get t x (by rw [lk_cons_ne hne]; exact hx)
  | some u =>
    refine ⟨u, h.defers, by simp [Act.put, h.size], fun t x hx => ?_⟩
    by_cases e : d = t
    · subst e
      rw [hl] at hx; cases hx
      have hd := h.get d v lk_cons_eq
      have hlt : d < a.tmps.size := (Array.getElem?_eq_some_iff.1 hd).1
      simp [Act.put, hlt]
    · simp only [Act.put, Array.getElem?_setIfInBounds_ne e]
      exact h.get t x (by rw [lk_cons_ne e]; exact hx)

theorem looks_guard {o g : Oper} {j d : Nat} {want : Bool} (hg : o.guard = some (j, want)) (hn : nth L j = some g) (hd : g.dst = some d) : d ∈ o.looksAt L.toArray := by
  rw [nth_eq] at hn
  unfold Oper.looksAt
  rw [hg]
  refine List.mem_append_right _ ?_
  simp [hn, hd]

theorem gok_drop {o : Oper} {d : Nat} {v : Value} {b : Bool} (h : gok L ((d, v) :: E) o.guard = some b) (hd : d ∉ o.looksAt L.toArray) : gok L E o.guard = some b :=
  gok_congr h fun j want g e hg hn he u hu => by
    have : d ≠ e := fun x => hd (x ▸ looks_guard hg hn he)
    rwa [lk_cons_ne this] at hu
theorem gok_add {o : Oper} {d : Nat} {v : Value} {b : Bool} (h : gok L E o.guard = some b) (hd : d ∉ o.looksAt L.toArray) : gok L ((d, v) :: E) o.guard = some b :=
  gok_congr h fun j want g e hg hn he u hu => by
    have : d ≠ e := fun x => hd (x ▸ looks_guard hg hn he)
    rwa [lk_cons_ne this]

theorem Yg.drop {o : Oper} {d : Nat} {u v : Value} (h : Yg P L N G o ((d, u) :: E) U M v) (hs : noSel o.op = true) (hN : Nat.blt d N = true) (hd : d ∉ o.looksAt L.toArray) : Yg P L N G o E U M v := by
  refine ⟨fun a w ha hm => ?_⟩
  have h1 := h.run (a.put (some d) u) w (ha.put hN u) hm
  rw [execOp_put o (noSel_spec hs) a (some d) u (fun e he => by cases he; exact hd), wanted_put o a (some d) u (fun e he => by cases he; exact hd)] at h1
  exact h1
theorem Yg.add {o : Oper} {d : Nat} {u v : Value} (h : Yg P L N G o E U M v) (hs : noSel o.op = true) (hd : d ∉ o.looksAt L.toArray) : Yg P L N G o ((d, u) :: E) U M v := by
  refine ⟨fun a w ha hm => ?_⟩
  obtain ⟨x, hx⟩ := ha.back
  have h1 := h.run (a.put (some d) x) w hx hm
  rw [execOp_put o (noSel_spec hs) a (some d) x (fun e he => by cases he; exact hd), wanted_put o a (some d) x (fun e he => by cases he; exact hd)] at h1
  exact h1
theorem Yg.anti {o : Oper} {v : Value} {U' : UH} {M' : MH} (h : Yg P L N G o E U M v) (hU : ULe U U') (hM : M.Sublist M') : Yg P L N G o E U' M' v :=
  ⟨fun a w ha hm => h.run a w ha (hm.anti hU hM)⟩

theorem zero_det {t : Nat} {z z' : Value} (h : ∀ w, (zeroValue t).run P w = .ok z w) (h' : ∀ w, (zeroValue t).run P w = .ok z' w) : z = z' := by
  have h1 := h default
  rw [h' default] at h1
  cases h1; rfl

theorem isA_spec (hS : Sym P T) {o : Oper} (h : isA T N o = true) : ∃ t z d, o.op = .alloc t ∧ o.guard = none ∧ (∀ w, (zeroValue t).run P w = .ok z w) ∧ o.dst = some d ∧ Nat.blt d N = true := by
  unfold isA at h
  split at h
  · rename_i t d ho hg hd
    simp only [Bool.and_eq_true] at h
    obtain ⟨i, hi⟩ := Option.isSome_iff_exists.1 h.1
    exact ⟨t, i.zero, d, ho, hg, fun w => (hS.at hi).run_zero w, hd, h.2⟩
  · cases h

/-- The walk of an allocation, taken apart. -/
theorem SL.al_inv {f : Bool} {j : Nat} {o : Oper} {l : List Ent} {t : Nat} {z : Value} (hf : f = true) (ho : o.op = .alloc t) (hg : o.guard = none) (hz : ∀ w, (zeroValue t).run P w = .ok z w) (h : SL P T L K N G ((f, j, o) :: l) E U M) :
    ∃ d, o.dst = some d ∧ Nat.blt d N = true ∧ ∀ b, SL P T L K N G l ((d, .pointer (some ⟨b, 0, none⟩)) :: E) U ((b, .var z, t) :: M) := by
  cases h with
  | det hk hd hN hy h =>
    rcases hk with hk | hk | hk
    · rw [hf] at hk; cases hk
    · rw [ho] at hk; cases hk
    · rw [hg] at hk; cases hk
  | al ho' hg' hz' hd hN h =>
    rw [ho] at ho'
    cases ho'
    have := zero_det hz hz'
    subst this
    exact ⟨_, hd, hN, h⟩
  | gr hk hd hN hr h =>
    rcases hk with hk | hk
    · rw [hf] at hk; cases hk
    · rw [ho] at hk; cases hk
  | x hk hN hr h =>
    rcases hk with hk | hk
    · rw [hf] at hk; cases hk
    · rw [ho] at hk; cases hk

theorem SL.swap (hS : Sym P T) {i j : Nat} {oi oj : Oper} {l : List Ent} (h : SL P T L K N G ((true, i, oi) :: (true, j, oj) :: l) E U M) (hs : swapOK T N L oi oj = true) :
    SL P T L K N G ((true, j, oj) :: (true, i, oi) :: l) E U M := by
  simp only [swapOK, Bool.and_eq_true, Bool.or_eq_true, Bool.not_eq_true'] at hs
  obtain ⟨⟨⟨hap, hsi⟩, hsj⟩, hk⟩ := hs
  obtain ⟨a1, a2, a3⟩ := Oper.apart_spec hap
  have perm2 : ∀ (x y : Nat × Blk × Nat) (M : MH), (x :: y :: M).Perm (y :: x :: M) := fun x y M => List.Perm.swap y x M
  rcases hk with (⟨hY, hX⟩ | ⟨hA, hX⟩) | ⟨hmv, hX⟩
  · -- i yields a value and leaves the world
    cases h with
    | @det _ _ di _ vi _ _ _ _ hki hdi hNi hyi h =>
      have g1 := a1 di hdi
      cases h with
      | @det _ _ dj _ vj _ _ _ _ hkj hdj hNj hyj h =>
        have g2 : di ≠ dj := fun e => a2 di hdi (e ▸ hdj)
        have g3 := a3 dj hdj
        exact .det (hkj.imp id (fun h => h.imp id fun h => gok_drop h g1)) hdj hNj (hyj.drop hsj hNi g1)
          (.det (hki.imp id (fun h => h.imp id fun h => gok_add h g3)) hdi hNi (hyi.add hsi g3) (h.congr (Wk.swap (Ne.symm g2)) (List.Perm.refl _)))
      | @al _ _ dj t _ z _ _ _ _ ho hg hz hdj hNj h =>
        have g2 : di ≠ dj := fun e => a2 di hdi (e ▸ hdj)
        have g3 := a3 dj hdj
        exact .al ho (gok_drop hg g1) hz hdj hNj fun b =>
          .det (hki.imp id (fun h => h.imp id fun h => gok_add h g3)) hdi hNi ((hyi.add hsi g3).anti (ULe.refl _) (List.sublist_cons_self ..)) ((h b).congr (Wk.swap (Ne.symm g2)) (List.Perm.refl _))
      | @gr _ _ dj _ R _ _ _ _ hkj hdj hNj hr h =>
        have g2 : di ≠ dj := fun e => a2 di hdi (e ▸ hdj)
        have g3 := a3 dj hdj
        refine .gr hkj hdj hNj (fun M2 a w ha hm => ?_) (fun v U' D h1 h2 =>
          .det (hki.imp id (fun h => h.imp id fun h => gok_add h g3)) hdi hNi ((hyi.add hsi g3).anti h1 (List.sublist_append_right ..)) ((h v U' D h1 h2).congr (Wk.swap (Ne.symm g2)) (List.Perm.refl _)))
        have := hr M2 (a.put (some di) vi) w (ha.put hNi vi) hm
        exact wpV_congr (execOp_put oj (noSel_spec hsj) a (some di) vi (fun e he => by cases he; exact g1)).symm (wanted_put oj a (some di) vi (fun e he => by cases he; exact g1)).symm this
      | x hkj hN hr h =>
        rcases hkj with hkj | hkj
        · cases hkj
        · rw [hX] at hkj; cases hkj
    | al ho hg hz hd hN h => rw [ho] at hY; cases hY
    | gr hki hd hN hr h =>
      rcases hki with hki | hki
      · cases hki
      · generalize kd T oi.op = k at hY hki; cases k <;> simp [isY, isC] at hY hki
    | x hki hN hr h =>
      rcases hki with hki | hki
      · cases hki
      · generalize kd T oi.op = k at hY hki; cases k <;> simp [isY, isX] at hY hki
  · -- j makes a variable
    obtain ⟨t, z, dj, hoj, hgj, hz, hdj, hNj⟩ := isA_spec hS hA
    cases h with
    | @det _ _ di _ vi _ _ _ _ hki hdi hNi hyi h =>
      obtain ⟨dj', hdj', _, h⟩ := SL.al_inv rfl hoj hgj hz h
      rw [hdj] at hdj'
      cases hdj'
      have g2 : di ≠ dj := fun e => a2 di hdi (e ▸ hdj)
      have g3 := a3 dj hdj
      exact .al hoj (by rw [hgj]; rfl) hz hdj hNj fun b =>
        .det (hki.imp id (fun h => h.imp id fun h => gok_add h g3)) hdi hNi ((hyi.add hsi g3).anti (ULe.refl _) (List.sublist_cons_self ..)) ((h b).congr (Wk.swap (Ne.symm g2)) (List.Perm.refl _))
    | @al _ _ di ti _ zi _ _ _ _ hoi hgi hzi hdi hNi h =>
      have g2 : di ≠ dj := fun e => a2 di hdi (e ▸ hdj)
      have g3 := a3 dj hdj
      refine .al hoj (by rw [hgj]; rfl) hz hdj hNj fun b => .al hoi (gok_add hgi g3) hzi hdi hNi fun b' => ?_
      obtain ⟨dj', hdj', _, h'⟩ := SL.al_inv rfl hoj hgj hz (h b')
      rw [hdj] at hdj'
      cases hdj'
      exact (h' b).congr (Wk.swap (Ne.symm g2)) (perm2 _ _ _)
    | @gr _ _ di _ R _ _ _ _ hki hdi hNi hr h =>
      have g2 : di ≠ dj := fun e => a2 di hdi (e ▸ hdj)
      have g3 := a3 dj hdj
      refine .al hoj (by rw [hgj]; rfl) hz hdj hNj fun b => .gr (R := R) hki hdi hNi (fun M2 a w ha hm => ?_) (fun v U' D h1 h2 => ?_)
      · obtain ⟨x, hx⟩ := ha.back
        have hm' : Mem G U ((M2 ++ [(b, .var z, t)]) ++ M) w := by simpa using hm
        have := hr (M2 ++ [(b, .var z, t)]) (a.put (some dj) x) w hx hm'
        have h2 := wpV_congr (execOp_put oi (noSel_spec hsi) a (some dj) x (fun e he => by cases he; exact g3)).symm (wanted_put oi a (some dj) x (fun e he => by cases he; exact g3)).symm this
        refine wpV_mono h2 ?_
        rintro v w' ⟨U', D, k1, k2, k3⟩
        exact ⟨U', D, k1, by simpa using k2, k3⟩
      · obtain ⟨dj', hdj', _, h'⟩ := SL.al_inv rfl hoj hgj hz (h v U' D h1 h2)
        rw [hdj] at hdj'
        cases hdj'
        refine (h' b).congr (Wk.swap (Ne.symm g2)) ?_
        exact List.perm_middle.symm
    | x hki hN hr h =>
      rcases hki with hki | hki
      · cases hki
      · rw [hX] at hki; cases hki

  · -- i copies a slot, j writes memory
    obtain ⟨x, hox, hgx⟩ : ∃ x, oi.op = .move x ∧ oi.guard = none := by
      unfold isMv at hmv
      split at hmv
      · rename_i x h1 h2; exact ⟨x, h1, h2⟩
      · cases hmv
    have hY : isY (kd T oi.op) = true := by rw [hox]; rfl
    cases h with
    | @det _ _ di _ vi _ _ _ _ hki hdi hNi hyi h =>
      have g1 := a1 di hdi
      cases h with
      | @det _ _ dj _ vj _ _ _ _ hkj hdj hNj hyj h =>
        have g2 : di ≠ dj := fun e => a2 di hdi (e ▸ hdj)
        have g3 := a3 dj hdj
        exact .det (hkj.imp id (fun h => h.imp id fun h => gok_drop h g1)) hdj hNj (hyj.drop hsj hNi g1)
          (.det (hki.imp id (fun h => h.imp id fun h => gok_add h g3)) hdi hNi (hyi.add hsi g3) (h.congr (Wk.swap (Ne.symm g2)) (List.Perm.refl _)))
      | al ho hg hz hd hN h => rw [ho] at hX; cases hX
      | gr hkj hd hN hr h =>
        rcases hkj with hkj | hkj
        · cases hkj
        · generalize kd T oj.op = k at hX hkj; cases k <;> simp [isX, isC] at hX hkj
      | @x _ _ _ R _ _ _ _ hkj hN hr h =>
        refine .x (R := fun v U' M' => R v U' M' ∧ ∃ w, Mem G U M w) hkj hN (fun a w ha hm => ?_) (fun v U' M' ⟨hR, w0, hm0⟩ => ?_)
        · have h1 := hr (a.put (some di) vi) w (ha.put hNi vi) hm
          have h2 := wpV_congr (execOp_put oj (noSel_spec hsj) a (some di) vi (fun e he => by cases he; exact g1)).symm (wanted_put oj a (some di) vi (fun e he => by cases he; exact g1)).symm h1
          refine wpV_mono h2 ?_
          rintro v w' ⟨U', M', k1, k2⟩
          exact ⟨U', M', k1, k2, w, hm⟩
        · have hy0 : Yg P L N G oi E U' M' vi := by
            refine ⟨fun a w ha hm => ?_⟩
            have hw : Region.wanted oi (yielded L.toArray a.tmps) = true := by simp [Region.wanted, hgx]
            rcases hyi.run a w0 ha hm0 with ⟨_, h2⟩ | ⟨h1, _⟩
            · refine .inl ⟨hw, ?_⟩
              simp only [execOp, hox, Sem.run_pure] at h2 ⊢
              simpa using h2
            · rw [hw] at h1; cases h1
          have h3 := h v U' M' hR
          cases hdj : oj.dst with
          | none =>
            rw [hdj] at h3
            exact .det hki hdi hNi hy0 h3
          | some dj =>
            rw [hdj] at h3
            have g2 : di ≠ dj := fun e => a2 di hdi (e ▸ hdj)
            have g3 := a3 dj hdj
            exact .det (hki.imp id (fun h => h.imp id fun h => gok_add h g3)) hdi hNi (hy0.add hsi g3) (h3.congr (Wk.swap (Ne.symm g2)) (List.Perm.refl _))
    | al ho hg hz hd hN h => rw [ho] at hox; cases hox
    | gr hki hd hN hr h =>
      rcases hki with hki | hki
      · cases hki
      · generalize kd T oi.op = k at hY hki; cases k <;> simp [isY, isC] at hY hki
    | x hki hN hr h =>
      rcases hki with hki | hki
      · cases hki
      · generalize kd T oi.op = k at hY hki; cases k <;> simp [isY, isX] at hY hki

/-- What comes up next is taken to the front. -/
theorem SL.front (hS : Sym P T) {j : Nat} {oj : Oper} {post : List Ent} : ∀ {pre : List Ent} {E : Env} {U : UH} {M : MH}, (∀ p ∈ pre, p.1 = true ∧ swapOK T N L p.2.2 oj = true) → SL P T L K N G (pre ++ (true, j, oj) :: post) E U M →
    SL P T L K N G ((true, j, oj) :: (pre ++ post)) E U M
  | [], _, _, _, _, h => h
  | (f, i, oi) :: pre, E, U, M, hp, h => by
    obtain ⟨h1, h2⟩ := hp _ (List.mem_cons_self ..)
    cases h1
    have h3 : SL P T L K N G ((true, i, oi) :: (true, j, oj) :: (pre ++ post)) E U M := SL.tail (fun E U M h => SL.front hS (fun p hp' => hp p (List.mem_cons_of_mem _ hp')) h) h
    exact SL.swap hS h3 h2

/-- Does operation i wait, at whatever distance, for operation k? -/
def reachB (L : List Oper) (k : Nat) : Nat → Nat → Bool
  | 0, _ => false
  | fuel + 1, i => match nth L i with
    | some o => o.after.toList.any (fun e => Region.binds .any e && Nat.beq e.on k) || o.after.toList.any (fun e => Region.binds .any e && reachB L k fuel e.on)
    | none => false

def Closed (L : List Oper) (listed : Array Bool) : Prop := ∀ i o, L[i]? = some o → listed.getD i false = true → ∀ e ∈ o.after, Region.binds .any e = true → listed.getD e.on false = true

theorem reach_listed {listed : Array Bool} (hc : Closed L listed) {k : Nat} : ∀ (fuel i : Nat) (o : Oper), L[i]? = some o → (∀ e ∈ o.after, Region.binds .any e = true → listed.getD e.on false = true) → reachB L k fuel i = true → listed.getD k false = true
  | 0, _, _, _, _, h => by cases h
  | fuel + 1, i, o, ho, hall, h => by
    have hn : nth L i = some o := by rw [nth_eq]; exact ho
    simp only [reachB, hn, Bool.or_eq_true, List.any_eq_true, Bool.and_eq_true] at h
    rcases h with ⟨e, he, hb, hk⟩ | ⟨e, he, hb, hk⟩
    · have := Nat.eq_of_beq_eq_true hk
      subst this
      exact hall e (by simpa using he) hb
    · have hl := hall e (by simpa using he) hb
      cases ho' : L[e.on]? with
      | none =>
        cases fuel with
        | zero => cases hk
        | succ fuel => rw [reachB, nth_eq, ho'] at hk; cases hk
      | some o' => exact reach_listed hc fuel e.on o' ho' (hc _ _ ho' hl) hk

theorem SL.wpOp {i : Nat} {o : Oper} {l : List Ent} (hi : L[i]? = some o) {f : Bool} (h : SL P T L K N G ((f, i, o) :: l) E U M) {a : Act} {w : World} (ha : Has a N E) (hm : Mem G U M w) {J : Act → World → Prop}
    (hJ : ∀ E U M a w, SL P T L K N G l E U M → Has a N E → Mem G U M w → J a w) : wpOp P L.toArray K i J a w := by
  unfold Go.wpOp
  simp only [List.getElem?_toArray, hi]
  cases h with
  | @det _ _ d _ v _ _ _ _ hk hd hN hy h =>
    rcases hy.run a w ha hm with ⟨h1, h2⟩ | ⟨h1, rfl⟩
    · rw [h1, if_pos rfl]
      refine .inl ?_
      unfold Oper.wp
      rw [h2, Oper.upon_value, hd]
      exact hJ _ _ _ _ _ h (ha.put hN v) hm
    · rw [h1, if_neg (by simp), hd]
      exact hJ _ _ _ _ _ h (ha.put hN _) hm
  | @al _ _ d t _ z _ _ _ _ ho hg hz hd hN h =>
    rw [gok_wanted hg ha, if_pos rfl]
    refine .inl ?_
    have hr : (execOp a.eval o).run P w = .ok (.value (.pointer (some ⟨w.heap.size, 0, none⟩))) (w.alloc (.cells z.cells t)) := by
      simp [execOp, ho, Instr.alloc, newVar, newRow, hz]
    unfold Oper.wp
    rw [hr, Oper.upon_value, hd]
    exact hJ _ _ _ _ _ (h _) (ha.put hN _) (hm.alloc (.var z) t)
  | @gr _ _ d _ R _ _ _ _ hk hd hN hr h =>
    have h1 := hr [] a w ha hm
    unfold wpV at h1
    split
    · rename_i hw
      rw [if_pos hw] at h1
      refine .inl (wp_of_exV h1 ?_)
      rintro v w' ⟨U', D, h2, h3, h4⟩
      rw [hd]
      exact hJ _ _ _ _ _ (h v U' D h2 h4) (ha.put hN v) h3
    · rename_i hw
      rw [if_neg hw] at h1
      obtain ⟨U', D, h2, h3, h4⟩ := h1
      rw [hd]
      exact hJ _ _ _ _ _ (h _ U' D h2 h4) (ha.put hN _) h3
  | @x _ _ _ R _ _ _ _ hk hN hr h =>
    have h1 := hr a w ha hm
    have hput : ∀ v, Has (a.put o.dst v) N (match o.dst with | some d => (d, v) :: E | none => E) := by
      intro v
      cases hd : o.dst with
      | none => exact ha
      | some d => exact ha.put (hN d hd) v
    unfold wpV at h1
    split
    · rename_i hw
      rw [if_pos hw] at h1
      refine .inl (wp_of_exV h1 ?_)
      rintro v w' ⟨U', M', h3, h4⟩
      exact hJ _ _ _ _ _ (h v U' M' h4) (hput v) h3
    · rename_i hw
      rw [if_neg hw] at h1
      obtain ⟨U', M', h3, h4⟩ := h1
      exact hJ _ _ _ _ _ (h _ U' M' h4) (hput _) h3

/-- i before j in the walk: they may be turned round, or j waits for i. -/
def pairB (T : TT) (N : Nat) (L : List Oper) (p q : Ent) : Bool := swapOK T N L p.2.2 q.2.2 || reachB L p.2.1 (L.length + 1) q.2.1

def pairsB (T : TT) (N : Nat) (L : List Oper) : List Ent → Bool
  | [] => true
  | p :: r => r.all (pairB T N L p) && pairsB T N L r
theorem pairsB_spec : ∀ {l : List Ent}, pairsB T N L l = true → l.Pairwise fun p q => pairB T N L p q = true
  | [], _ => List.Pairwise.nil
  | p :: r, h => by
    simp only [pairsB, Bool.and_eq_true, List.all_eq_true] at h
    exact List.pairwise_cons.2 ⟨h.1, pairsB_spec h.2⟩

theorem sl_any (hS : Sym P T) (hdown : ∀ (i : Nat) (o : Oper), L[i]? = some o → ∀ e ∈ o.after, Region.binds .any e = true → e.on < i) : ∀ (n : Nat) (l : List Ent) (E : Env) (U : UH) (M : MH) (listed : Array Bool) (a : Act) (w : World), l.length = n → listed.size = L.length →
    (∀ p ∈ l, p.1 = true ∧ L[p.2.1]? = some p.2.2) → (l.map (·.2.1)).Nodup → (∀ i, i < L.length → (listed.getD i true = false ↔ i ∈ l.map (·.2.1))) → l.Pairwise (fun p q => pairB T N L p q = true) → Closed L listed →
    SL P T L K N G l E U M → Has a N E → Mem G U M w → wpAny P .any L.toArray K n listed a w := by
  intro n
  induction n with
  | zero =>
    intro l E U M listed a w hn hsz hok hnd hli hpw hcl h ha hm
    have : l = [] := List.eq_nil_of_length_eq_zero hn
    subst this
    cases h with
    | nil h =>
      refine ⟨?_, h.run a w ha hm⟩
      rw [List.eq_nil_iff_forall_not_mem]
      intro i hi
      obtain ⟨h1, o, ho, _⟩ := mem_ready.1 hi
      have hlt : i < L.length := by
        simp only [List.getElem?_toArray] at ho
        exact (List.getElem?_eq_some_iff.1 ho).1
      have := (hli i hlt).1 h1
      simp at this
  | succ n ih =>
    intro l E U M listed a w hn hsz hok hnd hli hpw hcl h ha hm
    constructor
    · intro hnil
      exfalso
      -- the least number that has not come up is ready
      have hex : ∃ i, i < L.length ∧ listed.getD i true = false := by
        cases l with
        | nil => cases hn
        | cons p r =>
          have h1 := (hok p (List.mem_cons_self ..)).2
          have hlt := (List.getElem?_eq_some_iff.1 h1).1
          exact ⟨p.2.1, hlt, (hli _ hlt).2 (by simp)⟩
      have hmin : ∀ m, (∃ i, i < m ∧ i < L.length ∧ listed.getD i true = false) → ∃ i, i < L.length ∧ listed.getD i true = false ∧ ∀ k, k < i → listed.getD k true = true := by
        intro m
        induction m with
        | zero => rintro ⟨i, hi, _⟩; omega
        | succ m ihm =>
          rintro ⟨i, hi, h1, h2⟩
          by_cases hk : ∃ k, k < m ∧ k < L.length ∧ listed.getD k true = false
          · exact ihm hk
          · refine ⟨i, h1, h2, fun k hk' => ?_⟩
            cases hb : listed.getD k true with
            | true => rfl
            | false => exact (hk ⟨k, by omega, by omega, hb⟩).elim
      obtain ⟨i, h1, h2⟩ := hex
      obtain ⟨i, h1, h2, h3⟩ := hmin (i + 1) ⟨i, by omega, h1, h2⟩
      have hmem : i ∈ Region.ready .any L.toArray listed := by
        refine mem_ready.2 ⟨h2, L[i], by simp [h1], fun e he hb => ?_⟩
        have hlt := hdown i _ (List.getElem?_eq_getElem h1) e he hb
        have h4 := h3 e.on hlt
        have h5 : e.on < listed.size := by omega
        simp only [Array.getD_eq_getD_getElem?, Array.getElem?_eq_getElem h5, Option.getD_some] at h4 ⊢
        exact h4
      rw [hnil] at hmem
      cases hmem
    · intro i hi
      obtain ⟨h1, o, ho, hall⟩ := mem_ready.1 hi
      simp only [List.getElem?_toArray] at ho
      have hlt := (List.getElem?_eq_some_iff.1 ho).1
      have hmem := (hli i hlt).1 h1
      obtain ⟨p, hp, hpi⟩ := List.mem_map.1 hmem
      obtain ⟨pre, post, rfl⟩ := List.append_of_mem hp
      obtain ⟨f, i', o'⟩ := p
      simp only at hpi
      subst hpi
      obtain ⟨hf, ho'⟩ := hok _ hp
      simp only at hf ho'
      subst hf
      rw [ho] at ho'
      cases ho'
      have hfront : ∀ q ∈ pre, q.1 = true ∧ swapOK T N L q.2.2 o = true := by
        intro q hq
        have hq' := hok q (List.mem_append_left _ hq)
        refine ⟨hq'.1, ?_⟩
        have hpp := (List.pairwise_append.1 hpw).2.2 q hq _ (List.mem_cons_self ..)
        simp only [pairB, Bool.or_eq_true] at hpp
        rcases hpp with hpp | hpp
        · exact hpp
        · exfalso
          have hl := reach_listed hcl _ _ _ ho (fun e he hb => hall e he hb) hpp
          have hql := (List.getElem?_eq_some_iff.1 hq'.2).1
          have hq2 := (hli _ hql).2 (List.mem_map.2 ⟨q, List.mem_append_left _ hq, rfl⟩)
          have h5 : q.2.1 < listed.size := by omega
          simp only [Array.getD_eq_getD_getElem?, Array.getElem?_eq_getElem h5, Option.getD_some] at hl hq2
          rw [hl] at hq2; cases hq2
      have h2 := SL.front hS hfront h
      refine SL.wpOp ho h2 ha hm fun E U M a w h ha hm => ?_
      refine ih (pre ++ post) E U M _ a w ?_ (by simp [hsz]) ?_ ?_ ?_ ?_ ?_ h ha hm
      · simp at hn ⊢; omega
      · intro q hq
        refine hok q ?_
        rcases List.mem_append.1 hq with hq | hq
        · exact List.mem_append_left _ hq
        · exact List.mem_append_right _ (List.mem_cons_of_mem _ hq)
      · rw [List.map_append, List.map_cons] at hnd
        rw [List.map_append]
        exact (List.nodup_append.1 (List.perm_middle.nodup_iff.1 hnd |> fun h => (List.nodup_cons.1 h).2) |> fun h => List.nodup_append.2 h)
      · intro k hk
        rw [List.map_append, List.map_cons] at hnd
        have hni := (List.nodup_cons.1 (List.perm_middle.nodup_iff.1 hnd)).1
        by_cases e : i' = k
        · subst e
          rw [List.map_append]
          constructor
          · intro h
            rw [Array.getD_eq_getD_getElem?, Array.getElem?_setIfInBounds] at h
            simp [hsz, hk] at h
          · intro h; exact absurd h hni
        · rw [getD_set_ne true e, hli k hk]
          simp only [List.map_append, List.map_cons, List.mem_append, List.mem_cons]
          constructor
          · rintro (h | h | h)
            · exact .inl h
            · exact absurd h.symm e
            · exact .inr h
          · rintro (h | h)
            · exact .inl h
            · exact .inr (.inr h)
      · exact hpw.sublist (List.Sublist.append (List.Sublist.refl _) (List.sublist_cons_self ..))
      · intro k ok hk hlk e he hb
        by_cases ek : i' = k
        · subst ek
          rw [ho] at hk
          cases hk
          exact getD_set_true (hall e he hb)
        · rw [getD_set_ne false ek] at hlk
          exact getD_set_true (hcl k ok hk hlk e he hb)

/-! ### the check, and the rule -/
def pick (L : List Oper) : List Nat → List Ent
  | [] => []
  | i :: r => match nth L i with
    | some o => (true, i, o) :: pick L r
    | none => pick L r

def nodupB : List Nat → Bool
  | [] => true
  | i :: r => !r.any (Nat.beq i) && nodupB r
theorem nodupB_spec : ∀ {l : List Nat}, nodupB l = true → l.Nodup
  | [], _ => List.nodup_nil
  | i :: r, h => by
    simp only [nodupB, Bool.and_eq_true, Bool.not_eq_true', List.any_eq_false] at h
    refine List.nodup_cons.2 ⟨fun hm => ?_, nodupB_spec h.2⟩
    exact h.1 i hm (by simp)

def downB : Nat → List Oper → Bool
  | _, [] => true
  | k, o :: r => o.after.toList.all (fun e => !Region.binds .any e || Nat.blt e.on k) && downB (k + 1) r
theorem downB_spec : ∀ {l : List Oper} {k : Nat}, downB k l = true → ∀ (i : Nat) (o : Oper), l[i]? = some o → ∀ e ∈ o.after, Region.binds .any e = true → e.on < k + i
  | [], _, _, i, o, hi, _, _, _ => by simp at hi
  | x :: r, k, h, 0, o, hi, e, he, hb => by
    simp only [downB, Bool.and_eq_true, List.all_eq_true] at h
    simp only [List.getElem?_cons_zero, Option.some.injEq] at hi
    subst hi
    have h2 := h.1 e (by simpa using he)
    rw [hb] at h2
    have h3 : e.on < k := by simpa using h2
    omega
  | x :: r, k, h, i + 1, o, hi, e, he, hb => by
    simp only [downB, Bool.and_eq_true] at h
    simp only [List.getElem?_cons_succ] at hi
    have := downB_spec h.2 i o hi e he hb
    omega

def coverB (ord : List Nat) : Nat → Bool
  | 0 => true
  | n + 1 => ord.any (Nat.beq n) && coverB ord n
theorem coverB_spec {ord : List Nat} : ∀ {n : Nat}, coverB ord n = true → ∀ i, i < n → i ∈ ord
  | 0, _, i, hi => by omega
  | n + 1, h, i, hi => by
    simp only [coverB, Bool.and_eq_true, List.any_eq_true] at h
    by_cases e : i = n
    · subst e
      obtain ⟨k, hk, hb⟩ := h.1
      rw [Nat.eq_of_beq_eq_true hb]; exact hk
    · exact coverB_spec h.2 i (by omega)

def drawOK (T : TT) (N : Nat) (L : List Oper) (ord : List Nat) : Bool :=
  Nat.beq ord.length L.length && ord.all (fun i => Nat.blt i L.length) && nodupB ord && coverB ord L.length && downB 0 L && pairsB T N L (pick L ord)

theorem pick_map : ∀ {ord : List Nat}, (∀ i ∈ ord, i < L.length) → (pick L ord).map (·.2.1) = ord
  | [], _ => rfl
  | i :: r, h => by
    have h1 := h i (List.mem_cons_self ..)
    have h2 : nth L i = some L[i] := by rw [nth_eq, List.getElem?_eq_getElem h1]
    simp only [pick, h2, List.map_cons, pick_map fun k hk => h k (List.mem_cons_of_mem _ hk)]
theorem pick_ok : ∀ {ord : List Nat}, ∀ p ∈ pick L ord, p.1 = true ∧ L[p.2.1]? = some p.2.2
  | [], p, h => by cases h
  | i :: r, p, h => by
    unfold pick at h
    split at h
    · rename_i o ho
      rcases List.mem_cons.1 h with rfl | h
      · rw [nth_eq] at ho; exact ⟨rfl, ho⟩
      · exact pick_ok p h
    · exact pick_ok p h

/-- A region that draws its order: walked in the order 'ord', it is walked in all. -/
theorem st_draw {id : Nat} (ord : List Nat) (hS : Sym P T) (hc : drawOK T N L ord = true) (h : SL P T L K N G (pick L ord) E U M) : St P K N G (.region id L.toArray true) E U M := by
  simp only [drawOK, Bool.and_eq_true, List.all_eq_true] at hc
  obtain ⟨⟨⟨⟨⟨h1, h2⟩, h3⟩, h6⟩, h4⟩, h5⟩ := hc
  have e1 := Nat.eq_of_beq_eq_true h1
  have h2' : ∀ i ∈ ord, i < L.length := fun i hi => Nat.le_of_ble_eq_true (h2 i hi)
  have hmap := pick_map h2'
  have hnd := nodupB_spec h3
  refine ⟨fun a w ha hm => wp_region_any hS.mixed ?_⟩
  have hlen : (pick L ord).length = L.length := by rw [← e1, ← hmap, List.length_map, hmap]
  simp only [List.size_toArray]
  refine sl_any hS (fun i o hi e he hb => by have := downB_spec h4 i o hi e he hb; omega) L.length (pick L ord) E U M _ a _ hlen (by simp) pick_ok (by rw [hmap]; exact hnd) (fun i hi => ?_) (pairsB_spec h5) (fun i o hi hl => ?_) h ha (hm.drawn _)
  · rw [hmap]
    constructor
    · intro _; exact coverB_spec h6 i hi
    · intro _; simp [hi]
  · have hlt := (List.getElem?_eq_some_iff.1 hi).1
    simp [hlt] at hl

end Go.Hp
