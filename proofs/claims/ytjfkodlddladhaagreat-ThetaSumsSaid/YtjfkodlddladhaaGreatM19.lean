/- Texts of this seat's own, merged: each begins with its own remark. -/
import Derived.Test.YtjfkodlddladhaaGreatM1
import Derived.Test.YtjfkodlddladhaaGreatM10
import Derived.Test.YtjfkodlddladhaaGreatM18
/- Regions that draw their order, of which some operations have one place only: those may write. -/
namespace Go.Hp
variable {P : Program} {T : TT} {K : Kont} {N : Nat} {G : World} {E : Env} {U : UH} {M : MH} {L : List Oper}
def mvOK (L : List Oper) (i j : Oper) : Bool := i.apart L.toArray j && noSel i.op && noSel j.op && isMv i
theorem SL.swapMv {f : Bool} {i j : Nat} {oi oj : Oper} {l : List Ent} (h : SL P T L K N G ((true, i, oi) :: (f, j, oj) :: l) E U M) (hs : mvOK L oi oj = true) :
  SL P T L K N G ((f, j, oj) :: (true, i, oi) :: l) E U M := by
 simp only [mvOK, Bool.and_eq_true] at hs
 obtain ⟨⟨⟨hap, hsi⟩, hsj⟩, hmv⟩ := hs
 obtain ⟨a1, a2, a3⟩ := Oper.apart_spec hap
 have hgx : oi.guard = none := by
  unfold isMv at hmv
  split at hmv
  ·assumption
  ·assumption
  ·cases hmv
 have hY : isY (kd T oi.op) = true := by
  unfold isMv at hmv
  split at hmv
  ·rename_i x h1 h2; rw [h1]; rfl
  ·rename_i x h1 h2; rw [h1]; rfl
  ·cases hmv
 have hmvw : ∀ (a : Act) (w w' : World) (v : Value), (execOp a.eval oi).run P w = .ok (.value v) w → (execOp a.eval oi).run P w' = .ok (.value v) w' := by
  intro a w w' v h
  unfold isMv at hmv
  split at hmv
  ·rename_i x h1 h2
   simp only [execOp, h1, Sem.run_pure] at h ⊢
   simpa using h
  ·rename_i x j h1 h2
   simp only [execOp, h1, Sem.run_bind] at h ⊢
   unfold Instr.extract at h ⊢
   generalize a.eval x = t at *
   cases t with
   | tuple vs =>
    simp only at h ⊢
    cases hv : vs[j]? with
    | some u => simp [hv] at h ⊢; exact h
    | none => simp [hv] at h
   | _ => simp at h
  ·cases hmv
 cases h with
 | @det _ _ di _ vi _ _ _ _ hki hdi hNi hyi h =>
  have g1 := a1 di hdi
  cases h with
  | @det _ _ dj _ vj _ _ _ _ hkj hdj hNj hyj h =>
   have g2 : di ≠ dj := fun e => a2 di hdi (e ▸ hdj)
   have g3 := a3 dj hdj
   exact .det (hkj.imp id (fun h => h.imp id fun h => VN h g1)) hdj hNj (hyj.drop hsj hNi g1)
    (.det (hki.imp id (fun h => h.imp id fun h => Yd h g3)) hdi hNi (hyi.add hsi g3) (h.congr (Wk.swap (Ne.symm g2)) (List.Perm.refl _)))
  | @al _ _ dj t _ z _ _ _ _ ho hg hz hdj hNj h =>
   have g2 : di ≠ dj := fun e => a2 di hdi (e ▸ hdj)
   have g3 := a3 dj hdj
   exact .al ho (VN hg g1) hz hdj hNj fun b =>
    .det (hki.imp id (fun h => h.imp id fun h => Yd h g3)) hdi hNi ((hyi.add hsi g3).anti (ULe.refl _) (List.sublist_cons_self ..)) ((h b).congr (Wk.swap (Ne.symm g2)) (List.Perm.refl _))
  | @gr _ _ dj _ R _ _ _ _ hkj hdj hNj hr h =>
   have g2 : di ≠ dj := fun e => a2 di hdi (e ▸ hdj)
   have g3 := a3 dj hdj
   refine .gr hkj hdj hNj (fun M2 a w ha hm => ?_) (fun v U' D h1 h2 =>
    .det (hki.imp id (fun h => h.imp id fun h => Yd h g3)) hdi hNi ((hyi.add hsi g3).anti h1 (List.sublist_append_right ..)) ((h v U' D h1 h2).congr (Wk.swap (Ne.symm g2)) (List.Perm.refl _)))
   have := hr M2 (a.put (some di) vi) w (ha.put hNi vi) hm
   exact Vo (execOp_put oj (JX hsj) a (some di) vi (fun e he => by cases he; exact g1)).symm (wanted_put oj a (some di) vi (fun e he => by cases he; exact g1)).symm this
  | @x _ _ _ R _ _ _ _ hkj hN hr h =>
   refine .x (R := fun v U' M' => R v U' M' ∧ ∃ w, Mem G U M w) hkj hN (fun a w ha hm => ?_) (fun v U' M' ⟨hR, w0, hm0⟩ => ?_)
   ·have h1 := hr (a.put (some di) vi) w (ha.put hNi vi) hm
    have h2 := Vo (execOp_put oj (JX hsj) a (some di) vi (fun e he => by cases he; exact g1)).symm (wanted_put oj a (some di) vi (fun e he => by cases he; exact g1)).symm h1
    refine Vh h2 ?_
    rintro v w' ⟨U', M', k1, k2⟩
    exact ⟨U', M', k1, k2, w, hm⟩
   ·have hy0 : Yg P L N G oi E U' M' vi := by
     refine ⟨fun a w ha hm => ?_⟩
     have hw : Region.wanted oi (yielded L.toArray a.tmps) = true := by simp [Region.wanted, hgx]
     rcases hyi.run a w0 ha hm0 with ⟨_, h2⟩ | ⟨h1, _⟩
     ·exact .inl ⟨hw, hmvw a w0 w vi h2⟩
     ·rw [hw] at h1; cases h1
    have h3 := h v U' M' hR
    cases hdj : oj.dst with
    | none =>
     rw [hdj] at h3
     exact .det hki hdi hNi hy0 h3
    | some dj =>
     rw [hdj] at h3
     have g2 : di ≠ dj := fun e => a2 di hdi (e ▸ hdj)
     have g3 := a3 dj hdj
     exact .det (hki.imp id (fun h => h.imp id fun h => Yd h g3)) hdi hNi (hy0.add hsi g3) (h3.congr (Wk.swap (Ne.symm g2)) (List.Perm.refl _))
 | al ho hg hz hd hN h => rw [ho] at hY; cases hY
 | gr hki hd hN hr h =>
  rcases hki with hki | hki
  ·cases hki
  ·generalize kd T oi.op = k at hY hki; cases k <;> simp [isY, isC] at hY hki
 | x hki hN hr h =>
  rcases hki with hki | hki
  ·cases hki
  ·generalize kd T oi.op = k at hY hki; cases k <;> simp [isY, isX] at hY hki
theorem SL.frontM (hS : Sym P T) {f : Bool} {j : Nat} {oj : Oper} {post : List Ent} : ∀ {pre : List Ent} {E : Env} {U : UH} {M : MH}, (∀ p ∈ pre, p.1 = true ∧ ((f = true ∧ swapOK T N L p.2.2 oj = true) ∨ mvOK L p.2.2 oj = true)) → SL P T L K N G (pre ++ (f, j, oj) :: post) E U M →
  SL P T L K N G ((f, j, oj) :: (pre ++ post)) E U M
 | [], _, _, _, _, h => h
 | (g, i, oi) :: pre, E, U, M, hp, h => by
  obtain ⟨h1, h2⟩ := hp _ (List.mem_cons_self ..)
  cases h1
  have h3 : SL P T L K N G ((true, i, oi) :: (f, j, oj) :: (pre ++ post)) E U M := SL.tail (fun E U M h => SL.frontM hS (fun p hp' => hp p (List.mem_cons_of_mem _ hp')) h) h
  rcases h2 with ⟨hf, h2⟩ | h2
  ·subst hf; exact SL.swap hS h3 h2
  ·exact SL.swapMv h3 h2
def pairM (T : TT) (N : Nat) (L : List Oper) (p q : Ent) : Bool := (p.1 && q.1 && swapOK T N L p.2.2 q.2.2) || (p.1 && mvOK L p.2.2 q.2.2) || reachB L p.2.1 (L.length + 1) q.2.1
def pairsM (T : TT) (N : Nat) (L : List Oper) : List Ent → Bool
 | [] => true
 | p :: r => r.all (pairM T N L p) && pairsM T N L r
theorem jF : ∀ {l : List Ent}, pairsM T N L l = true → l.Pairwise fun p q => pairM T N L p q = true
 | [], _ => List.Pairwise.nil
 | p :: r, h => by
  simp only [pairsM, Bool.and_eq_true, List.all_eq_true] at h
  exact List.pairwise_cons.2 ⟨h.1, jF h.2⟩
theorem QfP (hS : Sym P T) (hdown : ∀ (i : Nat) (o : Oper), L[i]? = some o → ∀ e ∈ o.after, Region.binds .any e = true → e.on < i) : ∀ (n : Nat) (l : List Ent) (E : Env) (U : UH) (M : MH) (listed : Array Bool) (a : Act) (w : World), l.length = n → listed.size = L.length →
  (∀ p ∈ l, L[p.2.1]? = some p.2.2) → (l.map (·.2.1)).Nodup → (∀ i, i < L.length → (listed.getD i true = false ↔ i ∈ l.map (·.2.1))) → l.Pairwise (fun p q => pairM T N L p q = true) → Closed L listed →
  SL P T L K N G l E U M → Has a N E → Mem G U M w → wpAny P .any L.toArray K n listed a w := by
 intro n
 induction n with
 | zero =>
  intro l E U M listed a w hn hsz hok hnd hli hpw hcl h ha hm
  have : l = [] := List.eq_nil_of_length_eq_zero hn
  subst this
  cases h with
  | nil h =>
   refine ⟨?_, h.run a w ha hm⟩
   rw [List.eq_nil_iff_forall_not_mem]
   intro i hi
   obtain ⟨h1, o, ho, _⟩ := mem_ready.1 hi
   have hlt : i < L.length := by
    simp only [List.getElem?_toArray] at ho
    exact (List.getElem?_eq_some_iff.1 ho).1
   have := (hli i hlt).1 h1
   simp at this
 | succ n ih =>
  intro l E U M listed a w hn hsz hok hnd hli hpw hcl h ha hm
  constructor
  ·intro hnil
   exfalso
   -- the least number that has not come up is ready
   have hex : ∃ i, i < L.length ∧ listed.getD i true = false := by
    cases l with
    | nil => cases hn
    | cons p r =>
     have h1 := hok p (List.mem_cons_self ..)
     have hlt := (List.getElem?_eq_some_iff.1 h1).1
     exact ⟨p.2.1, hlt, (hli _ hlt).2 (by simp)⟩
   have hmin : ∀ m, (∃ i, i < m ∧ i < L.length ∧ listed.getD i true = false) → ∃ i, i < L.length ∧ listed.getD i true = false ∧ ∀ k, k < i → listed.getD k true = true := by
    intro m
    induction m with
    | zero => rintro ⟨i, hi, _⟩; omega
    | succ m ihm =>
     rintro ⟨i, hi, h1, h2⟩
     by_cases hk : ∃ k, k < m ∧ k < L.length ∧ listed.getD k true = false
     ·exact ihm hk
     ·refine ⟨i, h1, h2, fun k hk' => ?_⟩
      cases hb : listed.getD k true with
      | true => rfl
      | false => exact (hk ⟨k, by omega, by omega, hb⟩).elim
   obtain ⟨i, h1, h2⟩ := hex
   obtain ⟨i, h1, h2, h3⟩ := hmin (i + 1) ⟨i, by omega, h1, h2⟩
   have hmem : i ∈ Region.ready .any L.toArray listed := by
    refine mem_ready.2 ⟨h2, L[i], by simp [h1], fun e he hb => ?_⟩
    have hlt := hdown i _ (List.getElem?_eq_getElem h1) e he hb
    have h4 := h3 e.on hlt
    have h5 : e.on < listed.size := by omega
    simp only [Array.getD_eq_getD_getElem?, Array.getElem?_eq_getElem h5, Option.getD_some] at h4 ⊢
    exact h4
   rw [hnil] at hmem
   cases hmem
  ·intro i hi
   obtain ⟨h1, o, ho, hall⟩ := mem_ready.1 hi
   simp only [List.getElem?_toArray] at ho
   have hlt := (List.getElem?_eq_some_iff.1 ho).1
   have hmem := (hli i hlt).1 h1
   obtain ⟨p, hp, hpi⟩ := List.mem_map.1 hmem
   obtain ⟨pre, post, rfl⟩ := List.append_of_mem hp
   obtain ⟨f, i', o'⟩ := p
   simp only at hpi
   subst hpi
   have ho' := hok _ hp
   simp only at ho'
   rw [ho] at ho'
   cases ho'
   have hfront : ∀ q ∈ pre, q.1 = true ∧ ((f = true ∧ swapOK T N L q.2.2 o = true) ∨ mvOK L q.2.2 o = true) := by
    intro q hq
    have hq' := hok q (List.mem_append_left _ hq)
    have hpp := (List.pairwise_append.1 hpw).2.2 q hq _ (List.mem_cons_self ..)
    simp only [pairM, Bool.or_eq_true, Bool.and_eq_true] at hpp
    rcases hpp with (hpp | hpp) | hpp
    ·exact ⟨hpp.1.1, .inl ⟨hpp.1.2, hpp.2⟩⟩
    ·exact ⟨hpp.1, .inr hpp.2⟩
    ·exfalso
     have hl := VJ hcl _ _ _ ho (fun e he hb => hall e he hb) hpp
     have hql := (List.getElem?_eq_some_iff.1 hq').1
     have hq2 := (hli _ hql).2 (List.mem_map.2 ⟨q, List.mem_append_left _ hq, rfl⟩)
     have h5 : q.2.1 < listed.size := by omega
     simp only [Array.getD_eq_getD_getElem?, Array.getElem?_eq_getElem h5, Option.getD_some] at hl hq2
     rw [hl] at hq2; cases hq2
   have h2 : SL P T L K N G ((f, i', o) :: (pre ++ post)) E U M := SL.frontM hS hfront h
   refine SL.wpOp ho h2 ha hm fun E U M a w h ha hm => ?_
   refine ih (pre ++ post) E U M _ a w ?_ (by simp [hsz]) ?_ ?_ ?_ ?_ ?_ h ha hm
   ·simp at hn ⊢; omega
   ·intro q hq
    refine hok q ?_
    rcases List.mem_append.1 hq with hq | hq
    ·exact List.mem_append_left _ hq
    ·exact List.mem_append_right _ (List.mem_cons_of_mem _ hq)
   ·rw [List.map_append, List.map_cons] at hnd
    rw [List.map_append]
    exact (List.nodup_append.1 (List.perm_middle.nodup_iff.1 hnd |> fun h => (List.nodup_cons.1 h).2) |> fun h => List.nodup_append.2 h)
   ·intro k hk
    rw [List.map_append, List.map_cons] at hnd
    have hni := (List.nodup_cons.1 (List.perm_middle.nodup_iff.1 hnd)).1
    by_cases e : i' = k
    ·subst e
     rw [List.map_append]
     constructor
     ·intro h
      rw [Array.getD_eq_getD_getElem?, Array.getElem?_setIfInBounds] at h
      simp [hsz, hk] at h
     ·intro h; exact absurd h hni
    ·rw [getD_set_ne true e, hli k hk]
     simp only [List.map_append, List.map_cons, List.mem_append, List.mem_cons]
     constructor
     ·rintro (h | h | h)
      ·exact .inl h
      ·exact absurd h.symm e
      ·exact .inr h
     ·rintro (h | h)
      ·exact .inl h
      ·exact .inr (.inr h)
   ·exact hpw.sublist (List.Sublist.append (List.Sublist.refl _) (List.sublist_cons_self ..))
   ·intro k ok hk hlk e he hb
    by_cases ek : i' = k
    ·subst ek
     rw [ho] at hk
     cases hk
     exact getD_set_true (hall e he hb)
    ·rw [getD_set_ne false ek] at hlk
     exact getD_set_true (hcl k ok hk hlk e he hb)
def pickM (L : List Oper) (late : List Nat) : List Nat → List Ent
 | [] => []
 | i :: r => match nth L i with
  | some o => (!late.any (Nat.beq i), i, o) :: pickM L late r
  | none => pickM L late r
def drawM (T : TT) (N : Nat) (L : List Oper) (late ord : List Nat) : Bool :=
 Nat.beq ord.length L.length && ord.all (fun i => Nat.blt i L.length) && nodupB ord && coverB ord L.length && downB 0 L && pairsM T N L (pickM L late ord)
theorem yT {late : List Nat} : ∀ {ord : List Nat}, (∀ i ∈ ord, i < L.length) → (pickM L late ord).map (·.2.1) = ord
 | [], _ => rfl
 | i :: r, h => by
  have h1 := h i (List.mem_cons_self ..)
  have h2 : nth L i = some L[i] := by rw [Jg, List.getElem?_eq_getElem h1]
  simp only [pickM, h2, List.map_cons, yT fun k hk => h k (List.mem_cons_of_mem _ hk)]
theorem yq {late : List Nat} : ∀ {ord : List Nat}, ∀ p ∈ pickM L late ord, L[p.2.1]? = some p.2.2
 | [], p, h => by cases h
 | i :: r, p, h => by
  unfold pickM at h
  split at h
  ·rename_i o ho
   rcases List.mem_cons.1 h with rfl | h
   ·rw [Jg] at ho; exact ho
   ·exact yq p h
  ·exact yq p h
theorem Qy {id : Nat} (late ord : List Nat) (hS : Sym P T) (hc : drawM T N L late ord = true) (h : SL P T L K N G (pickM L late ord) E U M) : St P K N G (.region id L.toArray true) E U M := by
 simp only [drawM, Bool.and_eq_true, List.all_eq_true] at hc
 obtain ⟨⟨⟨⟨⟨h1, h2⟩, h3⟩, h6⟩, h4⟩, h5⟩ := hc
 have e1 := Nat.eq_of_beq_eq_true h1
 have h2' : ∀ i ∈ ord, i < L.length := fun i hi => Nat.le_of_ble_eq_true (h2 i hi)
 have hmap := yT (late := late) h2'
 have hnd := YP h3
 refine ⟨fun a w ha hm => wp_region_any hS.mixed ?_⟩
 have hlen : (pickM L late ord).length = L.length := by rw [← e1, ← hmap, List.length_map, hmap]
 simp only [List.size_toArray]
 refine QfP hS (fun i o hi e he hb => by have := VD h4 i o hi e he hb; omega) L.length (pickM L late ord) E U M _ a _ hlen (by simp) yq (by rw [hmap]; exact hnd) (fun i hi => ?_) (jF h5) (fun i o hi hl => ?_) h ha (hm.drawn _)
 ·rw [hmap]
  constructor
  ·intro _; exact YR h6 i hi
  ·intro _; simp [hi]
 ·have hlt := (List.getElem?_eq_some_iff.1 hi).1
  simp [hlt] at hl
end Go.Hp

/- Regions that draw their order, of which some operations may write, walked along a tree of orders. -/
namespace Go.Hp
variable {P : Program} {T : TT} {K : Kont} {N : Nat} {G : World} {E : Env} {U : UH} {M : MH} {L : List Oper}
def pairCM (T : TT) (N : Nat) (L : List Oper) (c : List (Nat × Nat)) (p q : Ent) : Bool :=
 pairM T N L p q || c.any fun e => (Nat.beq p.2.1 e.1 || reachB L p.2.1 (L.length + 1) e.1) && (Nat.beq q.2.1 e.2 || reachB L e.2 (L.length + 1) q.2.1)
def pairsCM (T : TT) (N : Nat) (L : List Oper) (c : List (Nat × Nat)) : List Ent → Bool
 | [] => true
 | p :: r => r.all (pairCM T N L c p) && pairsCM T N L c r
def okTM (T : TT) (N : Nat) (L : List Oper) (late : List Nat) : List (Nat × Nat) → DT → Bool
 | c, .leaf ord => Nat.beq ord.length L.length && ord.all (fun i => Nat.blt i L.length) && nodupB ord && coverB ord L.length && pairsCM T N L c (pickM L late ord)
 | c, .node x y l r => Nat.blt x L.length && Nat.blt y L.length && !Nat.beq x y && okTM T N L late ((x, y) :: c) l && okTM T N L late ((y, x) :: c) r
def slTM (P : Program) (T : TT) (L : List Oper) (late : List Nat) (K : Kont) (N : Nat) (G : World) (E : Env) (U : UH) (M : MH) : DT → Prop
 | .leaf ord => SL P T L K N G (pickM L late ord) E U M
 | .node _ _ l r => slTM P T L late K N G E U M l ∧ slTM P T L late K N G E U M r
end Go.Hp

/- Rows of elements of one size in memory: read, handed over, written, appended to. Program in general; no condition. -/
namespace Go.Hp
variable {P : Program} {T : TT} {K : Kont} {N : Nat} {G : World} {E : Env} {U U' U0 : UH} {M M' : MH} {L : List Oper} {l : List Ent} {f : Bool} {i : Nat} {o : Oper}
theorem vU (a : Addr) (i j : Nat) : (a.add i).add j = a.add (i + j) := by
 unfold Addr.add
 by_cases h1 : i = 0
 ·subst h1; simp
 ·by_cases h2 : j = 0
  ·subst h2; simp [h1]
  ·have h3 : i + j ≠ 0 := by omega
   simp only [h1, h2, h3, if_false, Nat.add_assoc]
theorem Qgr (p : Option Addr) (i j : Nat) : (elt p i).add j = elt p (i + j) := vU _ _ _
theorem QfH (a : Addr) (i j : Nat) : elt ((some a).map (·.add i)) j = elt (some a) (i + j) := vU _ _ _
theorem Qcz (h : SL P T L K N G l E U M') : ∀ {M : MH}, M'.Sublist M → SL P T L K N G l E U M := by
 induction h with
 | nil h => exact fun hM => .nil (Yz (ULe.refl _) hM h)
 | det hk hd hN hy h ih => exact fun hM => .det hk hd hN ⟨fun a w ha hw => hy.run a w ha (hw.anti (ULe.refl _) hM)⟩ (ih hM)
 | al ho hg hz hd hN h ih => exact fun hM => .al ho hg hz hd hN fun b => ih b (hM.cons_cons _)
 | gr hk hd hN hr h ih =>
  intro M hM
  obtain ⟨X, hX⟩ := hM.exists_perm_append
  refine .gr hk hd hN (fun M2 a w ha hw => ?_) (fun v U' D h1 h2 => ih v U' D h1 h2 (hM.append_left D))
  have hp : (M2 ++ M).Perm ((M2 ++ X) ++ _) := (hX.append_left M2).trans (by rw [List.append_assoc]; exact (List.perm_append_comm).append_left M2)
  refine Vh (hr (M2 ++ X) a w ha (hw.perm hp)) ?_
  rintro v w' ⟨U', D, h1, h2, h3⟩
  exact ⟨U', D, h1, h2.perm (hp.symm.append_left D), h3⟩
 | x hk hN hr h ih => exact fun hM => .x hk hN (fun a w ha hw => hr a w ha (hw.anti (ULe.refl _) hM)) h
theorem Qci (hM : M'.Sublist M) (h : SL P T L K N G l E U M') : SL P T L K N G l E U M := Qcz h hM
structure RowAt (U : UH) (M : MH) (s : Nat) (p : Option Addr) (n : Nat) (vs : List Value) : Prop where
 len : vs.length = n
 size : ∀ v ∈ vs, v.cells.toList.length = s
 get : ∀ k v, vs[k]? = some v → p.isSome = true ∧ ∀ j x, v.cells.toList[j]? = some x → ∀ (G : World) (w : World), Mem G U M w → w.cell? (elt p (k * s + j)) = some x
theorem RowAt.lt {s n k : Nat} {p : Option Addr} {vs : List Value} {v : Value} (h : RowAt U M s p n vs) (hk : vs[k]? = some v) : k < n := by
 rw [← h.len]; exact (List.getElem?_eq_some_iff.1 hk).1
theorem RowAt.at {s n k : Nat} {p : Option Addr} {vs : List Value} (h : RowAt U M s p n vs) (hk : k < n) : ∃ v, vs[k]? = some v := ⟨_, List.getElem?_eq_getElem (by rw [h.len]; exact hk)⟩
theorem RowAt.up {s n : Nat} {p : Option Addr} {vs : List Value} (h : RowAt U M s p n vs) (hU : ULe U U') (hM : M.Sublist M') : RowAt U' M' s p n vs :=
 ⟨h.len, h.size, fun k v hk => ⟨(h.get k v hk).1, fun j x hx G w hw => (h.get k v hk).2 j x hx G w (hw.anti hU hM)⟩⟩
theorem RowAt.ls {s n : Nat} {p : Option Addr} {vs : List Value} (h : RowAt U [] s p n vs) (hU : ULe U U') : RowAt U' M s p n vs := h.up hU (List.nil_sublist _)
theorem RowAt.perm {s n : Nat} {p : Option Addr} {vs : List Value} (h : RowAt U M s p n vs) (hM : M.Perm M') : RowAt U M' s p n vs :=
 ⟨h.len, h.size, fun k v hk => ⟨(h.get k v hk).1, fun j x hx G w hw => (h.get k v hk).2 j x hx G w (hw.perm hM.symm)⟩⟩
theorem RowAt.nil {s : Nat} {p : Option Addr} : RowAt U M s p 0 [] := ⟨rfl, fun _ h => (by cases h), fun k v h => by simp at h⟩
theorem RowAt.part {s n c lo hi : Nat} {p : Option Addr} {vs : List Value} (h : RowAt U M s p n vs) (h1 : lo ≤ hi) (h2 : hi ≤ n) (hc : n ≤ c) :
  RowAt U M s (if c = lo then p else p.map (·.add (lo * s))) (hi - lo) ((vs.drop lo).take (hi - lo)) := by
 refine ⟨by rw [List.length_take, List.length_drop, h.len]; omega, fun v hv => h.size v (List.mem_of_mem_drop (List.mem_of_mem_take hv)), fun k v hk => ?_⟩
 rw [List.getElem?_take] at hk
 split at hk
 ·rename_i hlt
  rw [List.getElem?_drop] at hk
  obtain ⟨hp, hg⟩ := h.get _ _ hk
  rw [if_neg (by omega)]
  obtain ⟨a, rfl⟩ := Option.isSome_iff_exists.1 hp
  refine ⟨rfl, fun j x hx G w hw => ?_⟩
  rw [QfH, show lo * s + (k * s + j) = (lo + k) * s + j by rw [Nat.add_mul]; omega]
  exact hg j x hx G w hw
 ·cases hk
theorem RowAt.take {s n k : Nat} {p : Option Addr} {vs : List Value} (h : RowAt U M s p n vs) (hk : k ≤ n) : RowAt U M s p k (vs.take k) :=
 ⟨by rw [List.length_take, h.len]; omega, fun v hv => h.size v (List.mem_of_mem_take hv), fun j v hj => by
  rw [List.getElem?_take] at hj
  split at hj
  ·exact h.get j v hj
  ·cases hj⟩
theorem RowAt.drop {s n c l : Nat} {p : Option Addr} {vs : List Value} (h : RowAt U M s p n vs) (hl : l ≤ n) (hc : n ≤ c) : RowAt U M s (if c = l then p else p.map (·.add (l * s))) (n - l) (vs.drop l) := by
 have := h.part hl (Nat.le_refl n) hc
 rwa [List.take_of_length_le (by rw [List.length_drop, h.len]; omega)] at this
theorem Qs {s n k t : Nat} {x : Operand} {p : Option Addr} {vs : List Value} {c : Array Value} {ti : TI} {fs : List (Nat × Nat)} (hS : Sym P T) (ho : o.op = .load t x) (hx : ev E x = some (.pointer (some (elt p (k * s))))) (hT : lkT T t = some ti) (hk' : ti.k = .struct fs) (hs : ti.size = s)
  (h : RowAt U M s p n vs) (hk : vs[k]? = some (.agg c)) : Yl P N G o E U M (.agg c) := by
 refine YG ho hx fun w hw => ?_
 have h1 := h.size _ (List.mem_of_getElem? hk)
 have := JW (P := P) (hS.at hT) hk' (w := w) (a := elt p (k * s)) (cs := c.toList) (by rw [hs, ← h1]; rfl) (fun j u hu => by
  rw [Qgr]; exact (h.get _ _ hk).2 j u hu G w hw)
 simpa using this
theorem Qk {n k t : Nat} {x : Operand} {p : Option Addr} {vs : List Value} {v : Value} {ti : TI} (hS : Sym P T) (ho : o.op = .load t x) (hx : ev E x = some (.pointer (some (elt p (k * 1))))) (hT : lkT T t = some ti) (hk' : one ti.k = true)
  (h : RowAt U M 1 p n vs) (hk : vs[k]? = some v) (hv : v.cells = #[v]) : Yl P N G o E U M v := by
 refine YG ho hx fun w hw => JS (hS.at hT) hk' ?_
 exact (h.get _ _ hk).2 0 v (by rw [hv]; rfl) G w hw
inductive RowE (e : Nat) : MH → Option Addr → Nat → Nat → List Value → Prop where
 | nil {p : Option Addr} : RowE e [] p 0 0 []
 | row {b n c : Nat} {r : List Value} (hn : n ≤ c) (hc : r.length = c) (hm : c ≤ 9223372036854775807) : RowE e [(b, .arr r, e)] (some ⟨b, 0, none⟩) n c (r.take n)
theorem RowE.len {e : Nat} {D : MH} {p : Option Addr} {n c : Nat} {l : List Value} (h : RowE e D p n c l) : l.length = n ∧ n ≤ c ∧ c ≤ 9223372036854775807 := by
 cases h with
 | nil => exact ⟨rfl, Nat.le_refl _, by omega⟩
 | row hn hc hm => exact ⟨by rw [List.length_take, hc]; omega, hn, hm⟩
theorem Row.e {e : Nat} {D : MH} {p : Option Addr} {n c : Nat} {l : List Value} (h : Row e D p n c l) : RowE e D p n c l := by
 cases h with
 | nil => exact .nil
 | row hn hc hm => exact .row hn hc hm
def RowO (e s : Nat) (D : MH) (p : Option Addr) (n c : Nat) (vs : List Value) : Prop :=
 RowE e D p n c vs ∧ (∀ v ∈ vs, v.cells.toList.length = s) ∧ ∀ k, k ∈ D → ∀ r, k.2.1 = .arr r → ∀ v ∈ r, v.cells.toList.length = s
theorem RowO.len {e s n c : Nat} {D : MH} {p : Option Addr} {vs : List Value} (h : RowO e s D p n c vs) : vs.length = n ∧ n ≤ c ∧ c ≤ 9223372036854775807 := h.1.len
theorem RowO.nil {e s : Nat} {p : Option Addr} : RowO e s [] p 0 0 [] := ⟨RowE.nil, fun _ h => (by cases h), fun _ h => (by cases h)⟩
theorem RowO.mk {e s b n : Nat} {vs : List Value} (hn : vs.length = n) (hs : ∀ v ∈ vs, v.cells.toList.length = s) (hm : n ≤ 9223372036854775807) : RowO e s [(b, .arr vs, e)] (some ⟨b, 0, none⟩) n n vs := by
 have h := RowE.row (e := e) (b := b) (n := n) (c := n) (r := vs) (Nat.le_refl _) hn hm
 rw [List.take_of_length_le (by omega)] at h
 refine ⟨h, hs, fun k hk r hr => ?_⟩
 simp only [List.mem_singleton] at hk
 subst hk
 simp only [Blk.arr.injEq] at hr
 subst hr
 exact hs
theorem qY {r : List Value} {s k j : Nat} {v x : Value} (hr : ∀ v ∈ r, v.cells.toList.length = s) (hk : r[k]? = some v) (hx : v.cells.toList[j]? = some x) : (Blk.arr r).cells[k * s + j]? = some x := by
 have hj : j < s := by rw [← hr v (List.mem_of_getElem? hk)]; exact (List.getElem?_eq_some_iff.1 hx).1
 have := yo (k := j) hr hk hj
 simp only [Blk.cells, List.getElem?_toArray]
 rw [this]; exact hx
theorem RowO.at {e s n c : Nat} {D : MH} {p : Option Addr} {vs : List Value} (h : RowO e s D p n c vs) (hM : D.Sublist M) : RowAt U M s p n vs := by
 obtain ⟨h1, h2, h3⟩ := h
 refine ⟨h1.len.1, h2, fun k v hk => ?_⟩
 cases h1 with
 | nil => simp at hk
 | @row b _ _ r hn hc hm =>
  refine ⟨rfl, fun j x hx G w hw => ?_⟩
  have hw' := hw.anti (ULe.refl U) hM
  show w.cell? ((⟨b, 0, none⟩ : Addr).add _) = _
  rw [Ji, hw'.cellM (i := 0) rfl, Nat.zero_add]
  rw [List.getElem?_take] at hk
  split at hk
  ·exact qY (h3 _ (List.mem_singleton.2 rfl) r rfl) hk hx
  ·cases hk
theorem RowO.sett {e s n c : Nat} {D : MH} {p : Option Addr} {vs : List Value} (h : RowO e s D p n c vs) (hs : Sett U0 U' D) : RowAt U' [] s p n vs := by
 obtain ⟨h1, h2, h3⟩ := h
 refine ⟨h1.len.1, h2, fun k v hk => ?_⟩
 cases h1 with
 | nil => simp at hk
 | @row b _ _ r hn hc hm =>
  refine ⟨rfl, fun j x hx G w hw => hw.cellU ?_⟩
  have h4 := (hs _ (List.mem_singleton.2 rfl)).1
  simp only at h4
  show UH.cell? U' ((⟨b, 0, none⟩ : Addr).add _) = _
  rw [Ji, Nat.zero_add]
  simp only [UH.cell?, h4, Option.isSome_none, Bool.false_eq_true, if_false]
  rw [List.getElem?_take] at hk
  split at hk
  ·exact qY (h3 _ (List.mem_singleton.2 rfl) r rfl) hk hx
  ·cases hk
inductive RowW (e s : Nat) : MH → Option Addr → Nat → List Value → Prop where
 | nil {D : MH} {p : Option Addr} : RowW e s D p 0 []
 | row {b off n : Nat} {r : List Value} (h : off + n ≤ r.length) (hr : ∀ v ∈ r, v.cells.toList.length = s) : RowW e s [(b, .arr r, e)] (some ⟨b, off * s, none⟩) n ((r.drop off).take n)
theorem RowO.w {e s n c : Nat} {D : MH} {p : Option Addr} {vs : List Value} (h : RowO e s D p n c vs) : RowW e s D p n vs := by
 obtain ⟨h1, h2, h3⟩ := h
 cases h1 with
 | nil => exact .nil
 | @row b _ _ r hn hc hm =>
  have := RowW.row (e := e) (s := s) (b := b) (off := 0) (n := n) (r := r) (by omega) (h3 _ (List.mem_singleton.2 rfl) r rfl)
  simpa using this
theorem RowW.at {e s n : Nat} {D : MH} {p : Option Addr} {vs : List Value} (h : RowW e s D p n vs) (hM : D.Sublist M) : RowAt U M s p n vs := by
 cases h with
 | nil => exact .nil
 | @row b off _ r hl hr =>
  refine ⟨by rw [List.length_take, List.length_drop]; omega, fun v hv => hr v (List.mem_of_mem_drop (List.mem_of_mem_take hv)), fun k v hk => ⟨rfl, fun j x hx G w hw => ?_⟩⟩
  have hw' := hw.anti (ULe.refl U) hM
  show w.cell? ((⟨b, off * s, none⟩ : Addr).add _) = _
  rw [Ji, hw'.cellM (i := 0) rfl, show off * s + (k * s + j) = (off + k) * s + j by rw [Nat.add_mul]; omega]
  rw [List.getElem?_take] at hk
  split at hk
  ·rw [List.getElem?_drop] at hk
   exact qY hr hk hx
  ·cases hk
theorem RowW.len {e s n : Nat} {D : MH} {p : Option Addr} {vs : List Value} (h : RowW e s D p n vs) : vs.length = n := (h.at (U := fun _ => none) (List.Sublist.refl D)).len
theorem RowW.size {e s n : Nat} {D : MH} {p : Option Addr} {vs : List Value} (h : RowW e s D p n vs) : ∀ v ∈ vs, v.cells.toList.length = s := (h.at (U := fun _ => none) (List.Sublist.refl D)).size
theorem RowW.part {e s n c lo hi : Nat} {D : MH} {p : Option Addr} {vs : List Value} (h : RowW e s D p n vs) (h1 : lo ≤ hi) (h2 : hi ≤ n) (hc : n ≤ c) :
  RowW e s D (if c = lo then p else p.map (·.add (lo * s))) (hi - lo) ((vs.drop lo).take (hi - lo)) := by
 cases h with
 | nil =>
  have e1 : hi - lo = 0 := by omega
  rw [e1]; simp; exact .nil
 | @row b off _ r hl hr =>
  by_cases e1 : hi - lo = 0
  ·rw [e1]; simp; exact .nil
  ·rw [if_neg (by omega)]
   have := RowW.row (e := e) (s := s) (b := b) (off := off + lo) (n := hi - lo) (r := r) (by omega) hr
   have e2 : ((some (⟨b, off * s, none⟩ : Addr)).map (·.add (lo * s))) = some ⟨b, (off + lo) * s, none⟩ := by
    simp only [Option.map_some, Ji, Nat.add_mul]
   have e3 : ((((r.drop off).take n).drop lo).take (hi - lo)) = (r.drop (off + lo)).take (hi - lo) := by
    rw [List.drop_take, List.drop_drop, List.take_take, Nat.min_eq_left (by omega)]
   rw [e2, e3]
   exact this
theorem RowW.sett {e s n : Nat} {D : MH} {p : Option Addr} {vs : List Value} (h : RowW e s D p n vs) (hs : Sett U0 U' D) : RowAt U' [] s p n vs := by
 cases h with
 | nil => exact .nil
 | @row b off _ r hl hr =>
  refine ⟨by rw [List.length_take, List.length_drop]; omega, fun v hv => hr v (List.mem_of_mem_drop (List.mem_of_mem_take hv)), fun k v hk => ⟨rfl, fun j x hx G w hw => hw.cellU ?_⟩⟩
  have h4 := (hs _ (List.mem_singleton.2 rfl)).1
  simp only at h4
  show UH.cell? U' ((⟨b, off * s, none⟩ : Addr).add _) = _
  rw [Ji, show off * s + (k * s + j) = (off + k) * s + j by rw [Nat.add_mul]; omega]
  simp only [UH.cell?, h4, Option.isSome_none, Bool.false_eq_true, if_false]
  rw [List.getElem?_take] at hk
  split at hk
  ·rw [List.getElem?_drop] at hk
   exact qY hr hk hx
  ·cases hk
theorem QcI {e s t k n : Nat} {x y : Operand} {v : Value} {ti : TI} {p : Option Addr} {vs : List Value} {D X : MH} (hS : Sym P T) (ho : o.op = .store t x y) (hx : ev E x = some (.pointer (some (elt p (k * s))))) (hy : ev E y = some v) (hw : RowW e s D p n vs) (hM : M.Perm (D ++ X)) (hkn : k < n)
  (hT : lkT T t = some ti) (hs : ti.size = s) (hv : v.cells.toList.length = s) (h1 : v.cells.toList.all Value.oneCell' = true) (hg : gok L E o.guard = some true) (hk : xB f T o = true) (hd : o.dst = none)
  (h : ∀ D', RowW e s D' p n (vs.set k v) → SL P T L K N G l E U (D' ++ X)) : SL P T L K N G ((f, i, o) :: l) E U M := by
 refine Qh ?_ hM
 cases hw with
 | nil => omega
 | @row b off _ r hl hr =>
  refine jh 0 hS ho (b := b) (off := (off + k) * s) (tb := e) (r := r) (by rw [hx, show elt (some (⟨b, off * s, none⟩ : Addr)) (k * s) = ⟨b, (off + k) * s, none⟩ by show (⟨b, off * s, none⟩ : Addr).add _ = _; rw [Ji, Nat.add_mul]]) hy rfl hT hs (j := off + k) rfl hr hv (by omega) h1 hg hk hd ?_
  have := h [(b, .arr (r.set (off + k) v), e)] ?_
  ·exact this
  ·have h2 := RowW.row (e := e) (s := s) (b := b) (off := off) (n := n) (r := r.set (off + k) v) (by rw [List.length_set]; exact hl) (fun u hu => by
    rcases List.mem_or_eq_of_mem_set hu with hu | hu
    ·exact hr u hu
    ·rw [hu]; exact hv)
   have e1 : ((r.set (off + k) v).drop off).take n = ((r.drop off).take n).set k v := by
    rw [List.drop_set, if_neg (by omega), Nat.add_sub_cancel_left, List.take_set]
   rw [e1] at h2
   exact h2
theorem Qdl {e s t k n c : Nat} {x y : Operand} {v : Value} {ti : TI} {p : Option Addr} {vs : List Value} {D X : MH} (hS : Sym P T) (ho : o.op = .store t x y) (hx : ev E x = some (.pointer (some (elt p (k * s))))) (hy : ev E y = some v) (hw : RowO e s D p n c vs) (hM : M.Perm (D ++ X)) (hkn : k < n)
  (hT : lkT T t = some ti) (hs : ti.size = s) (hv : v.cells.toList.length = s) (h1 : v.cells.toList.all Value.oneCell' = true) (hg : gok L E o.guard = some true) (hk : xB f T o = true) (hd : o.dst = none)
  (h : ∀ D', RowO e s D' p n c (vs.set k v) → SL P T L K N G l E U (D' ++ X)) : SL P T L K N G ((f, i, o) :: l) E U M := by
 refine Qh ?_ hM
 obtain ⟨hw, hvs, hr⟩ := hw
 cases hw with
 | nil => omega
 | @row b _ _ r hn hc hm =>
  have hrl := hr _ (List.mem_singleton.2 rfl) r rfl
  refine jh 0 hS ho (b := b) (off := k * s) (tb := e) (r := r) (by rw [hx, show elt (some (⟨b, 0, none⟩ : Addr)) (k * s) = ⟨b, k * s, none⟩ by show (⟨b, 0, none⟩ : Addr).add _ = _; rw [Ji, Nat.zero_add]]) hy rfl hT hs (j := k) rfl hrl hv (by omega) h1 hg hk hd ?_
  have hset : ∀ u ∈ r.set k v, u.cells.toList.length = s := fun u hu => by
   rcases List.mem_or_eq_of_mem_set hu with hu | hu
   ·exact hrl u hu
   ·rw [hu]; exact hv
  have h2 := RowE.row (e := e) (b := b) (n := n) (c := c) (r := r.set k v) hn (by rw [List.length_set]; exact hc) hm
  rw [List.take_set] at h2
  refine h [(b, .arr (r.set k v), e)] ⟨h2, fun u hu => ?_, fun z hz r' hr' => ?_⟩
  ·rcases List.mem_or_eq_of_mem_set hu with hu | hu
   ·exact hvs u hu
   ·rw [hu]; exact hv
  ·simp only [List.mem_singleton] at hz
   subst hz
   simp only [Blk.arr.injEq] at hr'
   subst hr'
   exact hset
theorem Qbk {e s bs t ty : Nat} {z : Value} {ti : TI} (hS : TI.ok P e ti) (hts : ti.size = s) (htb : ti.bytes = bs) (htz : ti.zero = z) (ht : P.underlying t = some (.slice e)) (hz : z.cells.toList.length = s) (h0 : 0 < s)
  {w : World} (hw : Mem G U M w) {p q : Option Addr} {m c' : Nat} {news : List Value} (hm : news.length = m) (hnews : ∀ v ∈ news, v.cells.toList.length = s) (h1 : ∀ u ∈ flat news, u.oneCell' = true)
  (hq : m ≠ 0 → ∃ a, q = some a ∧ ∀ j u, (flat news)[j]? = some u → w.cell? (a.add j) = some u) (hbound : m * bs ≤ 140737488355328) (h63 : m ≤ 9223372036854775807) :
  ∃ w' D' p' cc, (Builtin.append_ #[t, t] ty #[.slice p 0 0, .slice q m c']).run P w = .ok (.slice p' m cc) w' ∧ RowO e s D' p' m cc news ∧ Mem G U (D' ++ M) w' := by
 cases p with
 | none =>
  obtain ⟨w', D', p', cc, r, h2, h3, h4, h5, h6⟩ := jY (M0 := M) (D := []) (p := none) (n := 0) (c := 0) (vl := []) hS hts htb htz (ty := ty) ht hz h0 Row.nil (fun _ h => by cases h) (fun _ h => by cases h) (w := w) hw (c' := c') hm hnews h1 hq (by rw [Nat.zero_add]; exact hbound) (by rw [Nat.zero_add]; exact h63)
  simp only [Nat.zero_add, List.nil_append] at h2 h3 h4
  subst h4
  exact ⟨w', D', p', cc, h2, ⟨h3.e, hnews, h6⟩, h5⟩
 | some a0 =>
  obtain ⟨inf, _, hi, hiz, hsz, hby⟩ := hS.run_info w
  have hsz' : inf.size = s := by rw [hsz, hts]
  have hby' : inf.bytes = bs := by rw [hby, htb]
  have hiz' : inf.zero = some z := by rw [hiz, htz]
  have hnl : (flat news).length = m * inf.size := by rw [Jm hnews, hm, hsz']
  by_cases hm0 : m = 0
  ·subst hm0
   have hnil : news = [] := List.eq_nil_of_length_eq_zero hm
   subst hnil
   refine ⟨w, [], some a0, 0, ?_, RowO.nil, hw⟩
   have hf : (Builtin.firstCells inf.size 0 (.slice q 0 c')).run P w = .ok #[] w := by
    cases q with
    | none => simp [Builtin.firstCells]
    | some a => simp [Builtin.firstCells, loadCells, loadCellsFrom]
   simp [Builtin.append_, Qp ht, sizeOf, typeInfo, hi, Builtin.lenOf, hf, storeCells]
  ·obtain ⟨a, rfl, ha⟩ := hq hm0
   have hneed : ((0 + m : Nat) : Int) ≤ 9223372036854775807 := by omega
   have hg := Qav (w := w) (need := 0 + m) (old := 0) (e := e) (by omega)
   have hfitb := growslice_fits (need := 0 + m) (old := 0) (bytes := inf.bytes) (by omega) (by rw [hby', Nat.zero_add]; exact hbound)
   have hrun := run_append_grow (P := P) w t ty e inf z ht hi hiz' a0 0 0 [] (by simp) (by intro j u hu; simp at hu) a m c' (flat news) hnl ha (by omega) hneed hfitb
   simp only [Nat.zero_add] at hrun hg
   refine ⟨_, [(w.heap.size, .arr (news ++ List.replicate (grownCap w m 0 e - m) z), e)], _, _, hrun, ⟨?_, hnews, ?_⟩, ?_⟩
   ·have := RowE.row (e := e) (b := w.heap.size) (n := m) (c := grownCap w m 0 e) (r := news ++ List.replicate (grownCap w m 0 e - m) z) (by omega) (by simp only [List.length_append, List.length_replicate, hm]; omega) hg.2
    rwa [List.take_append, List.take_of_length_le (by omega), hm, Nat.sub_self, List.take_zero, List.append_nil] at this
   ·intro k' hk' r hr' v hv
    simp only [List.mem_singleton] at hk'
    subst hk'
    simp only [Blk.arr.injEq] at hr'
    subst hr'
    rcases List.mem_append.1 hv with hv | hv
    ·exact hnews v hv
    ·rw [(List.mem_replicate.1 hv).2]; exact hz
   ·rw [show (([] : List Value).toArray ++ (flat news).toArray ++ Builtin.zeroCells z.cells (grownCap w m 0 e - m)) = (flat (news ++ List.replicate (grownCap w m 0 e - m) z)).toArray by rw [jr hz h0]; simp]
    exact (hw.drawn (w.drawn + 1)).alloc (.arr (news ++ List.replicate (grownCap w m 0 e - m) z)) e
theorem RowAt.news {s m : Nat} {q : Option Addr} {us : List Value} (hu : RowAt U M s q m us) (hs0 : 0 < s) : m ≠ 0 → ∃ a, q = some a ∧ ∀ w, Mem G U M w → ∀ j u, (flat us)[j]? = some u → w.cell? (a.add j) = some u := fun hm0 => by
 obtain ⟨v0, hv0⟩ := hu.at (k := 0) (by omega)
 obtain ⟨hp, -⟩ := hu.get _ _ hv0
 obtain ⟨a, rfl⟩ := Option.isSome_iff_exists.1 hp
 refine ⟨a, rfl, fun w hw j u hj => ?_⟩
 have hjl : j < m * s := by
  rw [← hu.len, ← Jm hu.size]; exact (List.getElem?_eq_some_iff.1 hj).1
 have hdiv : j / s < m := (Nat.div_lt_iff_lt_mul (by omega)).2 hjl
 obtain ⟨v, hv⟩ := hu.at hdiv
 have hmod : j % s < s := Nat.mod_lt _ (by omega)
 have e1 : j / s * s + j % s = j := Nat.div_add_mod' j s
 have h5 := yo (k := j % s) hu.size hv hmod
 rw [e1] at h5
 have h6 := (hu.get _ _ hv).2 (j % s) u (by rw [← h5]; exact hj) G w hw
 rw [e1] at h6
 exact h6
theorem jg {us : List Value} (h1 : ∀ v ∈ us, v.cells.toList.all Value.oneCell' = true) : ∀ u ∈ flat us, u.oneCell' = true := fun u hu' => by
 obtain ⟨v, hv, hu'⟩ := List.mem_flatMap.1 hu'
 exact List.all_eq_true.1 (h1 v hv) u hu'
theorem yk {d t e s bs bt bt' : Nat} {x y : Operand} {z z' : Value} {ek : TK} {p q : Option Addr} {m c' : Nat} {us : List Value} (hS : Sym P T) (ho : o.op = .call { callee := .builtin .append, args := #[x, y], argTypes := #[t, t] })
  (hx : ev E x = some (.slice p 0 0)) (hy : ev E y = some (.slice q m c')) (hT : lkT T t = some ⟨.slice e, bt, bt', z'⟩) (he : lkT T e = some ⟨ek, s, bs, z⟩) (hz : z.cells.toList.length = s) (h0 : Nat.blt 0 s = true)
  (hu : RowAt U M s q m us) (h1 : ∀ v ∈ us, v.cells.toList.all Value.oneCell' = true) (hbound : m * bs ≤ 140737488355328) (h63 : m ≤ 9223372036854775807)
  (hg : gok L E o.guard = some true) (hd : o.dst = some d) (hN : Nat.blt d N = true)
  (h : ∀ p' cc D', RowO e s D' p' m cc us → SL P T L K N G l ((d, .slice p' m cc) :: E) U (D' ++ M)) : SL P T L K N G ((f, i, o) :: l) E U M := by
 have hs0 := Nat.le_of_ble_eq_true h0
 refine .gr (R := fun v U' D => ∃ p' cc, v = .slice p' m cc ∧ U = U' ∧ RowO e s D p' m cc us) (.inr (by rw [ho]; rfl)) hd hN (fun M2 a w ha hw => ?_) (fun v U' D _ ⟨p', cc, h1, h2, h3⟩ => by subst h1 h2; exact h p' cc D h3)
 obtain ⟨dd, hdd, hkk⟩ := (hS.at hT).und
 have := QT hkk
 subst this
 have hn := (hu.up (M' := M2 ++ M) (ULe.refl U) (List.sublist_append_right ..)).news (G := G) hs0
 obtain ⟨w', D', p', cc, hrun, hrow, hm'⟩ := Qbk (ty := o.type) (hS.at he) rfl rfl rfl hdd hz hs0 hw (p := p) (c' := c') (q := q) hu.len hu.size (jg h1) (fun h => by
  obtain ⟨a0, h1, h2⟩ := hn h
  exact ⟨a0, h1, h2 w hw⟩) hbound h63
 unfold wpV
 rw [Je hg ha, if_pos rfl]
 have hrun2 : (execOp a.eval o).run P w = .ok (.value (.slice p' m cc)) w' := by
  simp only [execOp, ho, resolve, List.map_toArray, List.map_cons, List.map_nil, ha.eval hx, ha.eval hy, Sem.run_bind, Sem.run_pure, Result.andThen_ok, invoke, builtin, hrun]
 rw [hrun2]
 exact ⟨U, D', ULe.refl U, hm', p', cc, rfl, rfl, hrow⟩
theorem yr {d t e s bs bt bt' : Nat} {x y : Operand} {z z' : Value} {ek : TK} {D X : MH} {p q : Option Addr} {n c m c' : Nat} {vs us : List Value} (hS : Sym P T) (ho : o.op = .call { callee := .builtin .append, args := #[x, y], argTypes := #[t, t] })
  (hx : ev E x = some (.slice p n c)) (hy : ev E y = some (.slice q m c')) (hT : lkT T t = some ⟨.slice e, bt, bt', z'⟩) (he : lkT T e = some ⟨ek, s, bs, z⟩) (hz : z.cells.toList.length = s) (h0 : Nat.blt 0 s = true)
  (hrow : RowO e s D p n c vs) (hM : M.Perm (D ++ X)) (hu : RowAt U M s q m us) (h1 : ∀ v ∈ us, v.cells.toList.all Value.oneCell' = true) (hbound : (n + m) * bs ≤ 140737488355328) (h63 : n + m ≤ 9223372036854775807)
  (hg : gok L E o.guard = some true) (hk : f = false) (hd : o.dst = some d) (hN : Nat.blt d N = true)
  (h : ∀ p' cc D', RowO e s D' p' (n + m) cc (vs ++ us) → SL P T L K N G l ((d, .slice p' (n + m) cc) :: E) U (D' ++ X)) : SL P T L K N G ((f, i, o) :: l) E U M := by
 have hs0 := Nat.le_of_ble_eq_true h0
 refine Qh ?_ hM
 have hu2 := hu.perm hM
 obtain ⟨hrw, hvl, hr⟩ := hrow
 have hrest : ∀ p' cc D', Row e D' p' (n + m) cc (vs ++ us) → (∀ k, k ∈ D' → ∀ r, k.2.1 = .arr r → ∀ v ∈ r, v.cells.toList.length = s) → SL P T L K N G l ((d, .slice p' (n + m) cc) :: E) U (D' ++ X) := fun p' cc D' h3 h4 => h p' cc D' ⟨h3.e, fun v hv => by
  rcases List.mem_append.1 hv with hv | hv
  ·exact hvl v hv
  ·exact hu.size v hv, h4⟩
 cases hrw with
 | nil =>
  simp only [List.nil_append, Nat.zero_add] at h hu2 hbound h63 ⊢
  exact yk hS ho hx hy hT he hz h0 hu2 h1 hbound h63 hg hd hN h
 | row hn hc hm =>
  exact VY (M := _ ++ X) (M0 := X) (news := us) hS ho hx hy hT he hz h0 rfl (Row.row hn hc hm) hvl hr hu2.len hu2.size (jg h1) (fun hm0 => by
   obtain ⟨a, h3, h4⟩ := hu2.news (G := G) hs0 hm0
   exact ⟨a, h3, h4⟩) hbound h63 hg hk hd hN hrest
theorem QfX {f2 : Bool} {i2 : Nat} {o2 : Oper} {d1 d t e s bs bt bt' : Nat} {x y : Operand} {v z z' : Value} {ek : TK} {D X : MH} {p : Option Addr} {n c : Nat} {vs : List Value} (hrow : RowO e s D p n c vs) (hS : Sym P T)
  (ho1 : o.op = .buildSlice t 1 [(0, y)].toArray) (hy : ev E y = some v) (hT : lkT T t = some ⟨.slice e, bt, bt', z'⟩) (he : lkT T e = some ⟨ek, s, bs, z⟩) (hz : z.cells.toList.length = s) (h0 : Nat.blt 0 s = true) (hs1 : Nat.ble (1 * s) 16777216 = true)
  (hv : v.cells.toList.length = s) (h1 : v.cells.toList.all Value.oneCell' = true) (hg1 : gok L E o.guard = some true) (hk1 : cB f T o = true) (hd1 : o.dst = some d1) (hN1 : Nat.blt d1 N = true)
  (ho : o2.op = .call { callee := .builtin .append, args := #[x, .tmp d1], argTypes := #[t, t] })
  (hx : ∀ b, ev ((d1, .slice (some ⟨b, 0, none⟩) 1 1) :: E) x = some (.slice p n c))
  (hM : M.Perm (D ++ X)) (hbound : (n + 1) * bs ≤ 140737488355328) (h63 : n + 1 ≤ 9223372036854775807)
  (hg : ∀ b, gok L ((d1, .slice (some ⟨b, 0, none⟩) 1 1) :: E) o2.guard = some true) (hk : f2 = false) (hd : o2.dst = some d) (hN : Nat.blt d N = true)
  (h : ∀ b p' cc D', RowO e s D' p' (n + 1) cc (vs ++ [v]) → SL P T L K N G l ((d, .slice p' (n + 1) cc) :: (d1, .slice (some ⟨b, 0, none⟩) 1 1) :: E) U (D' ++ X)) : SL P T L K N G ((f, i, o) :: (f2, i2, o2) :: l) E U M := by
 have hvs : ∀ u ∈ [v], u.cells.toList.length = s := fun u hu => by rw [List.mem_singleton.1 hu]; exact hv
 refine QJ (vs := [v]) hS ho1 rfl (by simp only [List.map_cons, List.map_nil, evs, hy]) hT he rfl hvs hz hs1 hg1 hk1 hd1 hN1 (fun b => ?_)
 have hr := (RowO.mk (e := e) (b := b) (n := 1) (vs := [v]) rfl hvs (by omega)).at (U := U) (M := (b, .arr [v], e) :: M) (List.cons_sublist_cons.2 (List.nil_sublist _))
 refine yr (X := (b, .arr [v], e) :: X) hS ho (hx b) (by rw [ev]; exact Jo) hT he hz h0 hrow ((hM.cons _).trans List.perm_middle.symm) hr (fun u hu => by rw [List.mem_singleton.1 hu]; exact h1) hbound h63 (hg b) hk hd hN (fun p' cc D' h3 => ?_)
 exact Qcz (h b p' cc D' h3) ((List.sublist_cons_self ..).append_left D')
def El {α : Type} (ok : UH → Value → α → Prop) (U : UH) (vs : List Value) (g : Nat → α) : Prop := ∀ k x, vs[k]? = some x → ok U x (g k)
def Ls {α : Type} (ok : UH → Value → α → Prop) (s n : Nat) (U : UH) (M : MH) (v : Value) (g : Nat → α) : Prop :=
 ∃ p c vs, v = .slice p n c ∧ n ≤ c ∧ RowAt U M s p n vs ∧ El ok U vs g
def Lo {α : Type} (ok : UH → Value → α → Prop) (e s n : Nat) (U : UH) (D : MH) (v : Value) (g : Nat → α) : Prop :=
 ∃ p c vs, v = .slice p n c ∧ RowO e s D p n c vs ∧ El ok U vs g
def Kept {α : Type} (ok : UH → Value → α → Prop) : Prop := ∀ U U' v a, ULe U U' → ok U v a → ok U' v a
section
variable {α : Type} {ok : UH → Value → α → Prop} {e s n : Nat} {D : MH} {v : Value} {g g' : Nat → α}
theorem Ls.up (h : Ls ok s n U M v g) (hok : Kept ok) (hU : ULe U U') (hM : M.Sublist M') : Ls ok s n U' M' v g := by
 obtain ⟨p, c, vs, h1, h0, h2, h3⟩ := h
 exact ⟨p, c, vs, h1, h0, h2.up hU hM, fun k x hk => hok _ _ _ _ hU (h3 k x hk)⟩
theorem Ls.ls (h : Ls ok s n U [] v g) (hok : Kept ok) (hU : ULe U U') : Ls ok s n U' M v g := h.up hok hU (List.nil_sublist _)
theorem Ls.congr (h : Ls ok s n U M v g) (hg : ∀ k, k < n → g k = g' k) : Ls ok s n U M v g' := by
 obtain ⟨p, c, vs, h1, h0, h2, h3⟩ := h
 exact ⟨p, c, vs, h1, h0, h2, fun k x hk => by rw [← hg k (h2.lt hk)]; exact h3 k x hk⟩
theorem Lo.up (h : Lo ok e s n U D v g) (hok : Kept ok) (hU : ULe U U') : Lo ok e s n U' D v g := by
 obtain ⟨p, c, vs, h1, h2, h3⟩ := h
 exact ⟨p, c, vs, h1, h2, fun k x hk => hok _ _ _ _ hU (h3 k x hk)⟩
theorem Lo.congr (h : Lo ok e s n U D v g) (hg : ∀ k, k < n → g k = g' k) : Lo ok e s n U D v g' := by
 obtain ⟨p, c, vs, h1, h2, h3⟩ := h
 exact ⟨p, c, vs, h1, h2, fun k x hk => by rw [← hg k (by rw [← h2.len.1]; exact (List.getElem?_eq_some_iff.1 hk).1)]; exact h3 k x hk⟩
theorem Lo.at (h : Lo ok e s n U D v g) (hM : D.Sublist M) : Ls ok s n U M v g := by
 obtain ⟨p, c, vs, h1, h2, h3⟩ := h
 exact ⟨p, c, vs, h1, h2.len.2.1, h2.at hM, h3⟩
theorem Lo.sett (h : Lo ok e s n U D v g) (hok : Kept ok) (hU : ULe U U') (hs : Sett U0 U' D) : Ls ok s n U' [] v g := by
 obtain ⟨p, c, vs, h1, h2, h3⟩ := h
 exact ⟨p, c, vs, h1, h2.len.2.1, h2.sett hs, fun k x hk => hok _ _ _ _ hU (h3 k x hk)⟩
theorem Lo.nil : Lo ok e s 0 U [] (.slice none 0 0) g := ⟨none, 0, [], rfl, RowO.nil, fun k x h => by simp at h⟩
theorem JQ {vs : List Value} {x : Value} (hn : vs.length = n) (h : El ok U vs g) (hx : ok U x (g n)) : El ok U (vs ++ [x]) g := fun k y hy => by
 rcases Nat.lt_trichotomy k vs.length with h1 | h1 | h1
 ·rw [List.getElem?_append_left h1] at hy; exact h k y hy
 ·rw [h1, List.getElem?_concat_length] at hy
  cases hy
  rw [h1, hn]; exact hx
 ·rw [List.getElem?_eq_none (by simp; omega)] at hy; cases hy
theorem Qfu {vs us : List Value} (hn : vs.length = n) (h : El ok U vs g) (hu : ∀ k x, us[k]? = some x → ok U x (g (n + k))) : El ok U (vs ++ us) g := fun k y hy => by
 rcases Nat.lt_or_ge k vs.length with h1 | h1
 ·rw [List.getElem?_append_left h1] at hy; exact h k y hy
 ·rw [List.getElem?_append_right h1] at hy
  have := hu _ y hy
  rwa [show n + (k - vs.length) = k by omega] at this
theorem VI {vs : List Value} {x : Value} {j : Nat} (h : ∀ k x, vs[k]? = some x → k ≠ j → ok U x (g k)) (hx : ok U x (g j)) : El ok U (vs.set j x) g := fun k y hy => by
 rw [List.getElem?_set] at hy
 by_cases e1 : j = k
 ·subst e1
  rw [if_pos rfl] at hy
  split at hy
  ·cases hy; exact hx
  ·cases hy
 ·rw [if_neg e1] at hy; exact h k y hy (Ne.symm e1)
end
theorem Ct.setl {α : Type} {ok : UH → Value → α → Prop} {e s n : Nat} {g : Nat → α} {fn : Nat} {args : List Value} (h : Ct P fn args G U M fun v U' D => Lo ok e s n U' D v g ∧ ULe U U') (hok : Kept ok) :
  Ct P fn args G U M fun v U' D => Ls ok s n U' [] v g ∧ D = [] :=
 h.settle.mono fun _ _ _ _ ⟨h1, _, _, ⟨h2, _⟩, _, h3, h4⟩ => ⟨h2.sett hok h3 h4, h1⟩
theorem vJ {c : Code} {D M : MH} (h : ∀ U', ULe U U' → Sett U U' D → St P K N G c E U' M) : St P K N G c E U (D ++ M) :=
 ⟨fun a w ha hw => by
  obtain ⟨U', h1, h2, h3⟩ := Yn hw
  exact (h U' h1 h3).run a w ha (h2 |> fun z => z)⟩
end Go.Hp

/- Numbers with the rules of a field; sums; determinants. No condition. -/
namespace Go.La
class Fld (K : Type) extends Zero K, One K, Add K, Mul K, Neg K, Inv K where
 add_assoc : ∀ a b c : K, a + b + c = a + (b + c)
 add_comm : ∀ a b : K, a + b = b + a
 zero_add : ∀ a : K, 0 + a = a
 neg_add : ∀ a : K, -a + a = 0
 mul_assoc : ∀ a b c : K, a * b * c = a * (b * c)
 mul_comm : ∀ a b : K, a * b = b * a
 one_mul : ∀ a : K, 1 * a = a
 mul_add : ∀ a b c : K, a * (b + c) = a * b + a * c
 inv_mul : ∀ a : K, a ≠ 0 → a⁻¹ * a = 1
 one_ne : (1 : K) ≠ 0
abbrev Mx (K : Type) := Nat → Nat → K
section
variable {K : Type}
def setr (A : Mx K) (r : Nat) (v : Nat → K) : Mx K := fun i => if i = r then v else A i
theorem Qm (A : Mx K) (r : Nat) (v : Nat → K) : setr A r v r = v := if_pos rfl
theorem setr_ne (A : Mx K) {r i : Nat} (v : Nat → K) (h : i ≠ r) : setr A r v i = A i := if_neg h
def swap (A : Mx K) (p q : Nat) : Mx K := fun i => if i = p then A q else if i = q then A p else A i
theorem swap_at {A : Mx K} {p q : Nat} : swap A p q p = A q ∧ swap A p q q = A p := by
 refine ⟨if_pos rfl, ?_⟩
 unfold swap
 by_cases e : q = p
 ·rw [if_pos e, e]
 ·rw [if_neg e, if_pos rfl]
theorem swap_ne {A : Mx K} {p q i : Nat} (h1 : i ≠ p) (h2 : i ≠ q) : swap A p q i = A i := by
 unfold swap; rw [if_neg h1, if_neg h2]
end
section
variable {K : Type} [Fld K]
theorem add_assoc (a b c : K) : a + b + c = a + (b + c) := Fld.add_assoc a b c
theorem add_comm (a b : K) : a + b = b + a := Fld.add_comm a b
theorem Jb (a b c : K) : a + (b + c) = b + (a + c) := by rw [← add_assoc, add_comm a b, add_assoc]
theorem mul_assoc (a b c : K) : a * b * c = a * (b * c) := Fld.mul_assoc a b c
theorem mul_comm (a b : K) : a * b = b * a := Fld.mul_comm a b
theorem mul_left_comm (a b c : K) : a * (b * c) = b * (a * c) := by rw [← mul_assoc, mul_comm a b, mul_assoc]
theorem zero_add (a : K) : 0 + a = a := Fld.zero_add a
theorem add_zero (a : K) : a + 0 = a := by rw [add_comm, zero_add]
theorem QN (a : K) : -a + a = 0 := Fld.neg_add a
theorem add_neg_self (a : K) : a + -a = 0 := by rw [add_comm, QN]
theorem Yt (a b : K) : -a + (a + b) = b := by rw [← add_assoc, QN, zero_add]
theorem one_mul (a : K) : 1 * a = a := Fld.one_mul a
theorem mul_one (a : K) : a * 1 = a := by rw [mul_comm, one_mul]
theorem mul_add (a b c : K) : a * (b + c) = a * b + a * c := Fld.mul_add a b c
theorem add_mul (a b c : K) : (a + b) * c = a * c + b * c := by rw [mul_comm, mul_add, mul_comm c a, mul_comm c b]
theorem Yb {a b c : K} (h : a + b = a + c) : b = c := by rw [← Yt a b, h, Yt]
theorem Jq {a : K} (h : a + a = a) : a = 0 := Yb (a := a) (by rw [h, add_zero])
theorem mul_zero (a : K) : a * 0 = 0 := Jq (by rw [← mul_add, zero_add])
theorem zero_mul (a : K) : 0 * a = 0 := by rw [mul_comm, mul_zero]
theorem JT {a b : K} (h : a + b = 0) : b = -a := Yb (a := a) (by rw [h, add_neg_self])
theorem Ja (a : K) : -(-a) = a := (JT (QN a)).symm
theorem neg_mul (a b : K) : -a * b = -(a * b) := JT (by rw [← add_mul, add_neg_self, zero_mul])
theorem mul_neg (a b : K) : a * -b = -(a * b) := by rw [mul_comm, neg_mul, mul_comm]
theorem neg_zero : -(0 : K) = 0 := (JT (zero_add 0)).symm
theorem neg_add (a b : K) : -(a + b) = -a + -b := (JT (by rw [add_assoc, Jb b, ← add_assoc a, add_neg_self, add_neg_self, zero_add])).symm
theorem vA {a b : K} (h : -a = -b) : a = b := by rw [← Ja a, h, Ja]
theorem vw {a b : K} (h : a + -b = 0) : a = b := (vA (JT h)).symm
theorem inv_mul (a : K) (h : a ≠ 0) : a⁻¹ * a = 1 := Fld.inv_mul a h
theorem mul_inv (a : K) (h : a ≠ 0) : a * a⁻¹ = 1 := by rw [mul_comm, inv_mul a h]
theorem one_ne : (1 : K) ≠ 0 := Fld.one_ne
theorem mul_left_can {a b c : K} (h : a ≠ 0) (e : a * b = a * c) : b = c := by rw [← one_mul b, ← inv_mul a h, mul_assoc, e, ← mul_assoc, inv_mul a h, one_mul]
theorem mul_ne {a b : K} (ha : a ≠ 0) (hb : b ≠ 0) : a * b ≠ 0 := fun e => hb (mul_left_can ha (by rw [e, mul_zero]))
theorem mul_eq_zero {a b : K} (h : a * b = 0) : a = 0 ∨ b = 0 := by
 by_cases ha : a = 0
 ·exact .inl ha
 ·by_cases hb : b = 0
  ·exact .inr hb
  ·exact absurd h (mul_ne ha hb)
def sm : Nat → (Nat → K) → K
 | 0, _ => 0
 | n + 1, f => sm n f + f n
theorem sm_congr : ∀ {n : Nat} {f g : Nat → K}, (∀ k, k < n → f k = g k) → sm n f = sm n g
 | 0, _, _, _ => rfl
 | n + 1, f, g, h => by
  unfold sm
  rw [sm_congr (n := n) (fun k hk => h k (by omega)), h n (by omega)]
theorem sm_zero : ∀ {n : Nat} {f : Nat → K}, (∀ k, k < n → f k = 0) → sm n f = 0
 | 0, _, _ => rfl
 | n + 1, f, h => by
  unfold sm
  rw [sm_zero (n := n) (fun k hk => h k (by omega)), h n (by omega), zero_add]
theorem sm_add : ∀ (n : Nat) (f g : Nat → K), sm n (fun k => f k + g k) = sm n f + sm n g
 | 0, _, _ => (zero_add _).symm
 | n + 1, f, g => by
  unfold sm
  rw [sm_add n f g, add_assoc, add_assoc]
  congr 1
  rw [Jb]
theorem sm_mul : ∀ (n : Nat) (c : K) (f : Nat → K), sm n (fun k => c * f k) = c * sm n f
 | 0, _, _ => (mul_zero _).symm
 | n + 1, c, f => by
  unfold sm
  rw [sm_mul n c f, mul_add]
theorem sm_mul' (n : Nat) (c : K) (f : Nat → K) : sm n (fun k => f k * c) = sm n f * c := by
 rw [mul_comm, ← sm_mul]
 exact sm_congr fun k _ => mul_comm _ _
theorem VA : ∀ (n : Nat) (f : Nat → K), sm n (fun k => -f k) = -sm n f
 | 0, _ => neg_zero.symm
 | n + 1, f => by
  unfold sm
  rw [VA n f, neg_add]
theorem sm_comm : ∀ (m n : Nat) (f : Nat → Nat → K), sm m (fun i => sm n fun j => f i j) = sm n (fun j => sm m fun i => f i j)
 | 0, n, f => (sm_zero (n := n) fun _ _ => rfl).symm
 | m + 1, n, f => by
  show sm m (fun i => sm n fun j => f i j) + sm n (fun j => f m j) = _
  rw [sm_comm m n f, ← sm_add]
  rfl
theorem sm_one : ∀ {n : Nat} {f : Nat → K} (k : Nat), k < n → (∀ j, j < n → j ≠ k → f j = 0) → sm n f = f k
 | 0, _, _, h, _ => by omega
 | n + 1, f, k, h, hz => by
  unfold sm
  by_cases e : k = n
  ·subst e
   rw [sm_zero (n := k) (fun j hj => hz j (by omega) (by omega)), zero_add]
  ·rw [sm_one (n := n) k (by omega) (fun j hj => hz j (by omega)), hz n (by omega) (fun e' => e e'.symm), add_zero]
theorem JK : ∀ (n : Nat) (f : Nat → K), sm (n + 1) f = f 0 + sm n (fun k => f (k + 1))
 | 0, f => by unfold sm sm; rw [zero_add, add_zero]
 | n + 1, f => by
  rw [sm, JK n f, sm, add_assoc]
theorem Qbw {n : Nat} {f : Nat → K} {p q : Nat} (hp : p < n) (hq : q < n) (hne : p ≠ q) (hz : ∀ j, j < n → j ≠ p → j ≠ q → f j = 0) : sm n f = f p + f q := by
 have h : sm n f = sm n (fun k => (if k = p then f k else 0) + (if k = p then 0 else f k)) := sm_congr fun k _ => by
  by_cases e : k = p
  ·rw [if_pos e, if_pos e, add_zero]
  ·rw [if_neg e, if_neg e, zero_add]
 rw [h, sm_add, sm_one p hp (fun j _ hj => by rw [if_neg hj]), if_pos rfl, sm_one q hq (fun j hj hj2 => by
  by_cases e : j = p
  ·rw [if_pos e]
  ·rw [if_neg e]; exact hz j hj e hj2), if_neg (Ne.symm hne)]
theorem sm_app (m : Nat) : ∀ (n : Nat) (f : Nat → K), sm (m + n) f = sm m f + sm n (fun k => f (m + k))
 | 0, f => by rw [Nat.add_zero]; unfold sm; exact (add_zero _).symm
 | n + 1, f => by rw [← Nat.add_assoc, sm, sm_app m n f, sm, add_assoc]
def skip (j k : Nat) : Nat := if k < j then k else k + 1
def sgn : Nat → K
 | 0 => 1
 | j + 1 => -sgn j
def tr (A : Mx K) : Mx K := fun i j => A j i
def minor (A : Mx K) (j : Nat) : Mx K := fun i k => A (i + 1) (skip j k)
def det : Nat → Mx K → K
 | 0, _ => 1
 | n + 1, A => sm (n + 1) fun j => sgn j * (A 0 j * det n (minor A j))
theorem skip_lt {n j k : Nat} (hk : k < n) : skip j k < n + 1 := by unfold skip; split <;> omega
theorem det_congr : ∀ {n : Nat} {A B : Mx K}, (∀ i j, i < n → j < n → A i j = B i j) → det n A = det n B
 | 0, _, _, _ => rfl
 | n + 1, A, B, h => by
  unfold det
  refine sm_congr fun j hj => ?_
  rw [h 0 j (by omega) hj, det_congr (n := n) (A := minor A j) (B := minor B j) fun i k hi hk => h _ _ (by omega) (skip_lt hk)]
theorem det_tr : ∀ (n : Nat) (A : Mx K), det n (tr A) = det n A
 | 0, _ => rfl
 | 1, A => rfl
 | n + 2, A => by
  have main : ∀ B : Mx K, det (n + 2) B = B 0 0 * det (n + 1) (fun i j => B (i + 1) (j + 1)) + sm (n + 1) (fun j => sm (n + 1) fun i => -(sgn j * sgn i * (B 0 (j + 1) * (B (i + 1) 0 * det n (fun a b => B (skip i b + 1) (skip j a + 1)))))) := by
   intro B
   rw [det, JK]
   congr 1
   ·show 1 * _ = _
    rw [one_mul]; rfl
   ·refine sm_congr fun j _ => ?_
    rw [← det_tr (n + 1) (minor B (j + 1)), det, ← sm_mul, ← sm_mul]
    refine sm_congr fun i _ => ?_
    have e1 : tr (minor B (j + 1)) 0 i = B (i + 1) 0 := rfl
    have e2 : det n (minor (tr (minor B (j + 1))) i) = det n (fun a b => B (skip i b + 1) (skip j a + 1)) := det_congr fun a b _ _ => by
     show B (skip i b + 1) (skip (j + 1) (a + 1)) = _
     congr 1
     unfold skip; split <;> split <;> omega
    rw [e1, e2]
    show -sgn j * _ = _
    rw [neg_mul]
    congr 1
    simp only [mul_assoc, mul_left_comm]
  rw [main A, main (tr A)]
  congr 1
  ·show A 0 0 * _ = _
   congr 1
   exact det_tr (n + 1) (fun i j => A (i + 1) (j + 1))
  ·rw [sm_comm]
   refine sm_congr fun i _ => sm_congr fun j _ => ?_
   congr 1
   have e : det n (fun a b => tr A (skip i b + 1) (skip j a + 1)) = det n (fun a b => A (skip j b + 1) (skip i a + 1)) := det_tr n (fun a b => A (skip j b + 1) (skip i a + 1))
   rw [e]
   simp only [tr]
   rw [mul_comm (sgn j), mul_left_comm (A (j + 1) 0)]
theorem qN : ∀ {n : Nat} {A B C : Mx K} {t : K} {c : Nat}, c < n → (∀ i, A i c = B i c + t * C i c) → (∀ i j, j ≠ c → A i j = B i j) → (∀ i j, j ≠ c → A i j = C i j) → det n A = det n B + t * det n C
 | n + 1, A, B, C, t, c, hc, h, hB, hC => by
  unfold det
  rw [← sm_mul, ← sm_add]
  refine sm_congr fun j hj => ?_
  by_cases e : j = c
  ·subst e
   rw [h 0]
   have e1 : minor A j = minor B j := by
    funext i k; exact hB _ _ (by unfold skip; split <;> omega)
   have e2 : minor A j = minor C j := by
    funext i k; exact hC _ _ (by unfold skip; split <;> omega)
   rw [← e1, ← e2, add_mul, mul_add, mul_assoc, mul_left_comm t (sgn j)]
  ·rw [← hB 0 j e, ← hC 0 j e]
   have hs : ∃ c', c' < n ∧ skip j c' = c ∧ ∀ k, k ≠ c' → skip j k ≠ c := by
    rcases Nat.lt_or_gt_of_ne e with h1 | h1
    ·exact ⟨c - 1, by omega, by unfold skip; split <;> omega, fun k hk => by unfold skip; split <;> omega⟩
    ·exact ⟨c, by omega, by unfold skip; split <;> omega, fun k hk => by unfold skip; split <;> omega⟩
   obtain ⟨c', h1, h2, h3⟩ := hs
   have ih := qN (n := n) (A := minor A j) (B := minor B j) (C := minor C j) (t := t) (c := c') h1
    (fun i => by unfold minor; rw [h2]; exact h _) (fun i k hk => hB _ _ (h3 k hk)) (fun i k hk => hC _ _ (h3 k hk))
   rw [ih, mul_add, mul_add]
   congr 1
   simp only [mul_left_comm t]
theorem qJ : ∀ {n : Nat} {A : Mx K} {c : Nat}, c + 1 < n → (∀ i, A i c = A i (c + 1)) → det n A = 0
 | n + 1, A, c, hc, h => by
  unfold det
  rw [Qbw (p := c) (q := c + 1) (by omega) hc (by omega)]
  ·have e : det n (minor A (c + 1)) = det n (minor A c) := det_congr fun i k _ _ => by
    show A (i + 1) (skip (c + 1) k) = A (i + 1) (skip c k)
    by_cases hk : k = c
    ·subst hk
     rw [show skip (k + 1) k = k by unfold skip; split <;> omega, show skip k k = k + 1 by unfold skip; split <;> omega]
     exact h _
    ·rw [show skip (c + 1) k = skip c k by unfold skip; split <;> split <;> omega]
   rw [e, ← h 0]
   show sgn c * _ + -sgn c * _ = 0
   rw [neg_mul, add_neg_self]
  ·intro j hj h1 h2
   have hs : ∃ c', c' + 1 < n ∧ skip j c' = c ∧ skip j (c' + 1) = c + 1 := by
    rcases Nat.lt_or_gt_of_ne h1 with h3 | h3
    ·exact ⟨c - 1, by omega, by unfold skip; split <;> omega, by unfold skip; split <;> omega⟩
    ·exact ⟨c, by omega, by unfold skip; split <;> omega, by unfold skip; split <;> omega⟩
   obtain ⟨c', h3, h4, h5⟩ := hs
   rw [qJ (n := n) (A := minor A j) (c := c') h3 (fun i => by unfold minor; rw [h4, h5]; exact h _), mul_zero, mul_zero]
structure Alt (n : Nat) (F : Mx K → K) : Prop where
 congr : ∀ {A B : Mx K}, (∀ i j, i < n → j < n → A i j = B i j) → F A = F B
 row : ∀ {A B C : Mx K} {t : K} {r : Nat}, r < n → (∀ j, A r j = B r j + t * C r j) → (∀ i, i ≠ r → A i = B i) → (∀ i, i ≠ r → A i = C i) → F A = F B + t * F C
 adj : ∀ {A : Mx K} {r : Nat}, r + 1 < n → A r = A (r + 1) → F A = 0
theorem det_alt (n : Nat) : Alt n (det n : Mx K → K) where
 congr h := det_congr h
 row {A B C t r} hr h hB hC := by
  rw [← det_tr n A, ← det_tr n B, ← det_tr n C]
  exact qN hr (fun i => h i) (fun i j hj => congrFun (hB j hj) i) (fun i j hj => congrFun (hC j hj) i)
 adj {A r} hr h := by
  rw [← det_tr]
  exact qJ hr (fun i => congrFun h i)
theorem Alt.swap_of {n : Nat} {F : Mx K → K} (h : Alt n F) {p q : Nat} (hp : p < n) (hq : q < n) (hne : p ≠ q) (hz : ∀ A : Mx K, A p = A q → F A = 0) (A : Mx K) : F (swap A p q) = -F A := by
 -- rows p and q both x + y
 let v : Nat → K := fun j => A p j + A q j
 let S : (Nat → K) → (Nat → K) → Mx K := fun x y => setr (setr A p x) q y
 have hS : ∀ x y, S x y p = x ∧ S x y q = y := fun x y => ⟨by show setr _ q y p = x; rw [setr_ne _ _ hne, Qm], Qm _ _ _⟩
 have hSo : ∀ x y i, i ≠ p → i ≠ q → S x y i = A i := fun x y i h1 h2 => by show setr _ q y i = _; rw [setr_ne _ _ h2, setr_ne _ _ h1]
 have hrow1 : ∀ x x' y, F (S (fun j => x j + x' j) y) = F (S x y) + F (S x' y) := fun x x' y => by
  have := h.row (A := S (fun j => x j + x' j) y) (B := S x y) (C := S x' y) (t := 1) hp (fun j => by rw [(hS _ _).1, (hS _ _).1, (hS _ _).1, one_mul])
   (fun i hi => by
    by_cases e : i = q
    ·subst e; rw [(hS _ _).2, (hS _ _).2]
    ·rw [hSo _ _ i hi e, hSo _ _ i hi e])
   (fun i hi => by
    by_cases e : i = q
    ·subst e; rw [(hS _ _).2, (hS _ _).2]
    ·rw [hSo _ _ i hi e, hSo _ _ i hi e])
  rw [this, one_mul]
 have hrow2 : ∀ x y y', F (S x (fun j => y j + y' j)) = F (S x y) + F (S x y') := fun x y y' => by
  have := h.row (A := S x (fun j => y j + y' j)) (B := S x y) (C := S x y') (t := 1) hq (fun j => by rw [(hS _ _).2, (hS _ _).2, (hS _ _).2, one_mul])
   (fun i hi => by
    by_cases e : i = p
    ·subst e; rw [(hS _ _).1, (hS _ _).1]
    ·rw [hSo _ _ i e hi, hSo _ _ i e hi])
   (fun i hi => by
    by_cases e : i = p
    ·subst e; rw [(hS _ _).1, (hS _ _).1]
    ·rw [hSo _ _ i e hi, hSo _ _ i e hi])
  rw [this, one_mul]
 have hd : ∀ x, F (S x x) = 0 := fun x => hz _ (by rw [(hS x x).1, (hS x x).2])
 have h0 := hd v
 rw [show S v v = S (fun j => A p j + A q j) v from rfl, hrow1, show S (A p) v = S (A p) (fun j => A p j + A q j) from rfl, show S (A q) v = S (A q) (fun j => A p j + A q j) from rfl, hrow2, hrow2, hd, hd, zero_add, add_zero] at h0
 have e1 : S (A p) (A q) = A := by
  funext i
  by_cases e : i = p
  ·subst e; exact (hS _ _).1
  ·by_cases e' : i = q
   ·subst e'; exact (hS _ _).2
   ·exact hSo _ _ i e e'
 have e2 : S (A q) (A p) = swap A p q := by
  funext i
  unfold swap
  by_cases e : i = p
  ·subst e; rw [if_pos rfl]; exact (hS _ _).1
  ·rw [if_neg e]
   by_cases e' : i = q
   ·subst e'; rw [if_pos rfl]; exact (hS _ _).2
   ·rw [if_neg e']; exact hSo _ _ i e e'
 rw [e1, e2] at h0
 exact JT h0
theorem Alt.same {n : Nat} {F : Mx K → K} (h : Alt n F) : ∀ (d p : Nat) {A : Mx K}, p + d + 1 < n → A p = A (p + d + 1) → F A = 0
 | 0, p, A, hn, he => h.adj hn he
 | d + 1, p, A, hn, he => by
  have h1 := h.swap_of (p := p + d + 1) (q := p + d + 2) (by omega) (by omega) (by omega) (fun B hB => h.adj (r := p + d + 1) (by omega) hB) A
  have h2 := Alt.same h d p (A := swap A (p + d + 1) (p + d + 2)) (by omega) (by rw [swap_ne (by omega) (by omega), swap_at.1]; exact he)
  rw [h2] at h1
  rw [← Ja (F A), ← h1, neg_zero]
theorem Alt.eq {n : Nat} {F : Mx K → K} (h : Alt n F) {p q : Nat} {A : Mx K} (hp : p < n) (hq : q < n) (hne : p ≠ q) (he : A p = A q) : F A = 0 := by
 rcases Nat.lt_or_gt_of_ne hne with h1 | h1
 ·exact h.same (q - p - 1) p (by omega) (by rw [he]; congr 1; omega)
 ·exact h.same (p - q - 1) q (by omega) (by rw [← he]; congr 1; omega)
theorem Alt.swap {n : Nat} {F : Mx K → K} (h : Alt n F) {p q : Nat} (hp : p < n) (hq : q < n) (hne : p ≠ q) (A : Mx K) : F (swap A p q) = -F A :=
 h.swap_of hp hq hne (fun _ e => h.eq hp hq hne e) A
theorem Alt.comb {n : Nat} {F : Mx K → K} (h : Alt n F) {p q : Nat} (hp : p < n) (hq : q < n) (hne : p ≠ q) (t : K) (A : Mx K) : F (setr A p (fun j => A p j + t * A q j)) = F A := by
 rw [h.row (B := A) (C := setr A p (A q)) (t := t) hp (fun j => by rw [Qm, Qm]) (fun i hi => setr_ne _ _ hi) (fun i hi => by rw [setr_ne _ _ hi, setr_ne _ _ hi]),
  h.eq (A := setr A p (A q)) (p := p) (q := q) hp hq hne (by rw [Qm, setr_ne _ _ (Ne.symm hne)]), mul_zero, add_zero]
theorem Alt.zero {n : Nat} {F : Mx K → K} (h : Alt n F) {r : Nat} (hr : r < n) {A : Mx K} (hz : ∀ j, j < n → A r j = 0) : F A = 0 := by
 rw [h.congr (A := A) (B := setr A r (fun _ => 0)) (fun i j _ hj => by
  by_cases e : i = r
  ·subst e; rw [Qm]; exact hz j hj
  ·rw [setr_ne _ _ e])]
 refine Jq ?_
 have := h.row (A := setr A r (fun _ => 0)) (B := setr A r (fun _ => 0)) (C := setr A r (fun _ => 0)) (t := 1) hr (fun j => by rw [Qm, mul_zero, add_zero]) (fun _ _ => rfl) (fun _ _ => rfl)
 rw [one_mul] at this
 exact this.symm
theorem Alt.scale {n : Nat} {F : Mx K → K} (h : Alt n F) {r : Nat} (hr : r < n) (t : K) (A : Mx K) : F (setr A r (fun j => t * A r j)) = t * F A := by
 rw [h.row (B := setr A r (fun _ => 0)) (C := A) (t := t) hr (fun j => by rw [Qm, Qm, zero_add]) (fun i hi => by rw [setr_ne _ _ hi, setr_ne _ _ hi]) (fun i hi => setr_ne _ _ hi),
  h.zero hr (fun j _ => by rw [Qm]), zero_add]
def mm (n : Nat) (A B : Mx K) : Mx K := fun i j => sm n fun k => A i k * B k j
def idm : Mx K := fun i j => if i = j then 1 else 0
theorem Qei {n : Nat} {F : Mx K → K} (h : Alt n F) (B : Mx K) : Alt n (fun A => F (mm n A B)) where
 congr {A A'} he := h.congr fun i j hi hj => sm_congr fun k hk => by rw [he i k hi hk]
 row {A A' C t r} hr h1 h2 h3 := h.row hr (fun j => by
   unfold mm
   rw [← sm_mul, ← sm_add]
   refine sm_congr fun k _ => ?_
   rw [h1 k, add_mul, mul_assoc]) (fun i hi => by unfold mm; rw [h2 i hi]) (fun i hi => by unfold mm; rw [h3 i hi])
 adj {A r} hr he := h.adj hr (by unfold mm; rw [he])
theorem QdL {n : Nat} (B : Mx K) {i j : Nat} (hi : i < n) : mm n idm B i j = B i j := by
 unfold mm idm
 rw [sm_one i hi (fun k _ hk => by rw [if_neg (Ne.symm hk), zero_mul]), if_pos rfl, one_mul]
theorem Vs : ∀ n : Nat, det n (idm : Mx K) = 1
 | 0 => rfl
 | n + 1 => by
  unfold det
  rw [sm_one 0 (by omega) (fun j _ hj => by unfold idm; rw [if_neg (Ne.symm hj), zero_mul, mul_zero])]
  have e : det n (minor (idm : Mx K) 0) = det n idm := det_congr fun i k _ _ => by
   show (if i + 1 = skip 0 k then (1 : K) else 0) = if i = k then 1 else 0
   rw [show skip 0 k = k + 1 by unfold skip; split <;> omega]
   by_cases h : i = k
   ·rw [if_pos h, if_pos (by omega)]
   ·rw [if_neg h, if_neg (by omega)]
  rw [e, Vs n]
  show (1 : K) * ((if 0 = 0 then 1 else 0) * 1) = 1
  rw [if_pos rfl, one_mul, one_mul]
def Rop (n : Nat) (d : K) (A R : Mx K) : Prop := d ≠ 0 ∧ ∀ F : Mx K → K, Alt n F → F A = d * F R
theorem Rop.refl (n : Nat) (A : Mx K) : Rop n 1 A A := ⟨one_ne, fun _ _ => (one_mul _).symm⟩
theorem Rop.det_mul {n : Nat} {d : K} {A R : Mx K} (h : Rop n d A R) (hR : (∀ i j, i < n → j < n → R i j = idm i j) ∨ ∃ r, r < n ∧ ∀ j, j < n → R r j = 0) (B : Mx K) : det n (mm n A B) = det n A * det n B := by
 have h1 := h.2 _ (Qei (det_alt n) B)
 have h2 := h.2 _ (det_alt n)
 rcases hR with hR | ⟨r, hr, hz⟩
 ·have e1 : det n (mm n R B) = det n B := det_congr fun i j hi hj => by
   rw [← QdL (n := n) B (j := j) hi]
   exact sm_congr fun k hk => by rw [hR i k hi hk]
  have e2 : det n R = 1 := by rw [det_congr hR, Vs]
  rw [h1, h2, e1, e2, mul_one]
 ·have e1 : det n (mm n R B) = 0 := (det_alt n).zero hr fun j _ => sm_zero fun k hk => by rw [hz k hk, zero_mul]
  have e2 : det n R = 0 := (det_alt n).zero hr hz
  rw [h1, h2, e1, e2, mul_zero, zero_mul]
theorem Rop.det {n : Nat} {d : K} {A R : Mx K} (h : Rop n d A R) (hR : ∀ i j, i < n → j < n → R i j = idm i j) : det n A = d := by
 rw [h.2 _ (det_alt n), det_congr hR, Vs, mul_one]
theorem Rop.det0 {n : Nat} {d : K} {A R : Mx K} (h : Rop n d A R) {r : Nat} (hr : r < n) (hz : ∀ j, j < n → R r j = 0) : La.det n A = 0 := by
 rw [h.2 _ (det_alt n), (det_alt n).zero hr hz, mul_zero]
end
end Go.La
namespace Go.La
instance : Fld Rat where
 add_assoc := Rat.add_assoc
 add_comm := Rat.add_comm
 zero_add := Rat.zero_add
 neg_add := Rat.neg_add_cancel
 mul_assoc := Rat.mul_assoc
 mul_comm := Rat.mul_comm
 one_mul := Rat.one_mul
 mul_add := Rat.mul_add
 inv_mul := Rat.inv_mul_cancel
 one_ne := by decide
end Go.La

/- Spans and reduced echelon forms. No condition. -/
namespace Go.La
section
variable {K : Type} [Fld K]
def Sp (r n : Nat) (A : Mx K) (v : Nat → K) : Prop := ∃ c : Nat → K, ∀ j, j < n → v j = sm r fun i => c i * A i j
theorem Sp.congr {r n : Nat} {A B : Mx K} {v u : Nat → K} (h : Sp r n A v) (hA : ∀ i j, i < r → j < n → A i j = B i j) (hv : ∀ j, j < n → v j = u j) : Sp r n B u := by
 obtain ⟨c, hc⟩ := h
 exact ⟨c, fun j hj => by rw [← hv j hj, hc j hj]; exact sm_congr fun i hi => by rw [hA i j hi hj]⟩
theorem Sp.row {r n : Nat} {A : Mx K} {i : Nat} (hi : i < r) : Sp r n A (A i) :=
 ⟨fun k => if k = i then 1 else 0, fun j _ => by rw [sm_one i hi (fun k _ hk => by simp only [if_neg hk, zero_mul])]; simp only [if_true, one_mul]⟩
theorem Sp.zero {r n : Nat} {A : Mx K} : Sp r n A (fun _ => 0) := ⟨fun _ => 0, fun _ _ => (sm_zero fun _ _ => zero_mul _).symm⟩
theorem Sp.comb {r n : Nat} {A : Mx K} {u v : Nat → K} (t : K) (hu : Sp r n A u) (hv : Sp r n A v) : Sp r n A (fun j => u j + t * v j) := by
 obtain ⟨c, hc⟩ := hu
 obtain ⟨d, hd⟩ := hv
 refine ⟨fun k => c k + t * d k, fun j hj => ?_⟩
 show u j + t * v j = _
 rw [hc j hj, hd j hj, ← sm_mul, ← sm_add]
 exact sm_congr fun k _ => by rw [add_mul, mul_assoc]
theorem Sp.smul {r n : Nat} {A : Mx K} {v : Nat → K} (t : K) (hv : Sp r n A v) : Sp r n A (fun j => t * v j) :=
 (Sp.zero.comb t hv).congr (fun _ _ _ _ => rfl) (fun _ _ => zero_add _)
theorem Sp.sum {r n m : Nat} {A : Mx K} (c : Nat → K) (B : Mx K) (h : ∀ i, i < m → Sp r n A (B i)) : Sp r n A (fun j => sm m fun i => c i * B i j) := by
 induction m with
 | zero => exact Sp.zero
 | succ m ih => exact (ih (fun i hi => h i (by omega))).comb (c m) (h m (by omega))
theorem Sp.trans {r s n : Nat} {A B : Mx K} {v : Nat → K} (h : Sp r n A v) (hA : ∀ i, i < r → Sp s n B (A i)) : Sp s n B v := by
 obtain ⟨c, hc⟩ := h
 exact (Sp.sum c A hA).congr (fun _ _ _ _ => rfl) (fun j hj => (hc j hj).symm)
theorem Sp.cut {r n m : Nat} {A : Mx K} {v : Nat → K} (h : Sp r n A v) (hm : m ≤ n) : Sp r m A v := by
 obtain ⟨c, hc⟩ := h; exact ⟨c, fun j hj => hc j (by omega)⟩
structure Same (r s n : Nat) (A B : Mx K) : Prop where
 lt : ∀ i, i < r → Sp s n B (A i)
 rt : ∀ i, i < s → Sp r n A (B i)
theorem Same.refl {r n : Nat} {A : Mx K} : Same r r n A A := ⟨fun _ hi => Sp.row hi, fun _ hi => Sp.row hi⟩
theorem Same.symm {r s n : Nat} {A B : Mx K} (h : Same r s n A B) : Same s r n B A := ⟨h.rt, h.lt⟩
theorem Same.trans {r s t n : Nat} {A B C : Mx K} (h : Same r s n A B) (k : Same s t n B C) : Same r t n A C :=
 ⟨fun i hi => (h.lt i hi).trans k.lt, fun i hi => (k.rt i hi).trans h.rt⟩
theorem Same.sp {r s n : Nat} {A B : Mx K} {v : Nat → K} (h : Same r s n A B) : Sp r n A v ↔ Sp s n B v := ⟨fun k => k.trans h.lt, fun k => k.trans h.rt⟩
structure Ech (r n : Nat) (R : Mx K) (p : Nat → Nat) : Prop where
 lt : ∀ i, i < r → p i < n
 mono : ∀ i k, i < k → k < r → p i < p k
 one : ∀ i k, i < r → k < r → R i (p k) = if i = k then 1 else 0
 zero : ∀ i j, i < r → j < p i → R i j = 0
theorem Ech.coef {r n : Nat} {R : Mx K} {p : Nat → Nat} (h : Ech r n R p) {v : Nat → K} (hv : Sp r n R v) {j : Nat} (hj : j < n) : v j = sm r fun i => v (p i) * R i j := by
 obtain ⟨c, hc⟩ := hv
 rw [hc j hj]
 refine sm_congr fun i hi => ?_
 rw [hc _ (h.lt i hi), sm_one i hi (fun k hk hne => by rw [h.one k i hk hi, if_neg hne, mul_zero]), h.one i i hi hi, if_pos rfl, mul_one]
theorem Ech.lead {r n : Nat} {R : Mx K} {p : Nat → Nat} (h : Ech r n R p) {v : Nat → K} (hv : Sp r n R v) {j : Nat} (hj : j < n) (h0 : v j ≠ 0) (hz : ∀ k, k < j → v k = 0) : ∃ i, i < r ∧ p i = j := by
 apply Classical.byContradiction
 intro hne
 apply h0
 rw [h.coef hv hj]
 refine sm_zero fun i hi => ?_
 rcases Nat.lt_trichotomy (p i) j with h1 | h1 | h1
 ·rw [hz _ h1, zero_mul]
 ·exact absurd ⟨i, hi, h1⟩ hne
 ·rw [h.zero i j hi h1, mul_zero]
theorem vZ {r : Nat} {p q : Nat → Nat} (hp : ∀ i k, i < k → k < r → p i < p k) {s : Nat} (hq : ∀ i k, i < k → k < s → q i < q k) (h : ∀ i, i < r → ∃ k, k < s ∧ q k = p i) : ∀ i, i < r → ∃ k, i ≤ k ∧ k < s ∧ q k = p i
 | 0, hi => by obtain ⟨k, h1, h2⟩ := h 0 hi; exact ⟨k, Nat.zero_le _, h1, h2⟩
 | i + 1, hi => by
  obtain ⟨k, h1, h2, h3⟩ := vZ hp hq h i (by omega)
  obtain ⟨m, h4, h5⟩ := h (i + 1) hi
  have h6 := hp i (i + 1) (by omega) hi
  refine ⟨m, ?_, h4, h5⟩
  rcases Nat.lt_trichotomy k m with h7 | h7 | h7
  ·omega
  ·subst h7; omega
  ·have := hq m k h7 h2; omega
theorem Qgf {r s : Nat} {p q : Nat → Nat} (hp : ∀ i k, i < k → k < r → p i < p k) (hq : ∀ i k, i < k → k < s → q i < q k) (h : ∀ i, i < r → ∃ k, k < s ∧ q k = p i) (h' : ∀ i, i < s → ∃ k, k < r ∧ p k = q i) :
  r = s ∧ ∀ i, i < r → p i = q i := by
 have a := vZ hp hq h
 have b := vZ hq hp h'
 have hrs : r = s := by
  rcases Nat.lt_trichotomy r s with h1 | h1 | h1
  ·obtain ⟨k, h2, h3, -⟩ := b (s - 1) (by omega); omega
  ·exact h1
  ·obtain ⟨k, h2, h3, -⟩ := a (r - 1) (by omega); omega
 subst hrs
 refine ⟨rfl, fun i hi => ?_⟩
 obtain ⟨k, h1, h2, h3⟩ := a i hi
 obtain ⟨m, h4, h5, h6⟩ := b i hi
 rcases Nat.lt_or_eq_of_le h1 with h7 | h7
 ·have := hq i k h7 h2
  rcases Nat.lt_or_eq_of_le h4 with h8 | h8
  ·have := hp i m h8 h5; omega
  ·subst h8; omega
 ·subst h7; exact h3.symm
theorem Ech.unique {r s n : Nat} {R S : Mx K} {p q : Nat → Nat} (h : Ech r n R p) (k : Ech s n S q) (e : Same r s n R S) : r = s ∧ (∀ i, i < r → p i = q i) ∧ ∀ i j, i < r → j < n → R i j = S i j := by
 have h1 : ∀ i, i < r → ∃ m, m < s ∧ q m = p i := fun i hi => k.lead (e.lt i hi) (h.lt i hi) (by rw [h.one i i hi hi, if_pos rfl]; exact one_ne) (fun j hj => h.zero i j hi hj)
 have h2 : ∀ i, i < s → ∃ m, m < r ∧ p m = q i := fun i hi => h.lead (e.rt i hi) (k.lt i hi) (by rw [k.one i i hi hi, if_pos rfl]; exact one_ne) (fun j hj => k.zero i j hi hj)
 obtain ⟨rfl, hpq⟩ := Qgf h.mono k.mono h1 h2
 refine ⟨rfl, hpq, fun i j hi hj => ?_⟩
 rw [h.coef (e.rt i hi) hj |> fun _ => k.coef (e.lt i hi) hj, sm_one i hi (fun m hm hne => by rw [← hpq m hm, h.one i m hi hm, if_neg (Ne.symm hne), zero_mul]), ← hpq i hi, h.one i i hi hi, if_pos rfl, one_mul]
theorem kernel_ne : ∀ (m n : Nat) (A : Mx K), m < n → ∃ x : Nat → K, (∃ j, j < n ∧ x j ≠ 0) ∧ ∀ i, i < m → sm n (fun j => A i j * x j) = 0
 | 0, n, A, h => ⟨fun _ => 1, ⟨0, h, one_ne⟩, fun i hi => absurd hi (Nat.not_lt_zero i)⟩
 | m + 1, 0, A, h => absurd h (Nat.not_lt_zero _)
 | m + 1, n + 1, A, h => by
  by_cases hz : ∀ j, j < n + 1 → A m j = 0
  ·obtain ⟨x, ⟨j, hj, hx⟩, he⟩ := kernel_ne m n A (by omega)
   refine ⟨fun j => if j = n then 0 else x j, ⟨j, by omega, by show (if j = n then (0 : K) else x j) ≠ 0; rw [if_neg (by omega)]; exact hx⟩, fun i hi => ?_⟩
   by_cases e : i = m
   ·subst e; exact sm_zero fun j hj => by rw [hz j hj, zero_mul]
   ·rw [sm]
    simp only [if_true, mul_zero, add_zero]
    rw [← he i (by omega)]
    exact sm_congr fun k hk => by rw [if_neg (by omega)]
  ·
   have : ∃ c, c < n + 1 ∧ A m c ≠ 0 := Classical.byContradiction fun hn => hz fun j hj => Classical.byContradiction fun h' => hn ⟨j, hj, h'⟩
   obtain ⟨c, hc, hp⟩ := this
   obtain ⟨x, ⟨j0, hj0, hx⟩, he⟩ := kernel_ne m n (fun i k => A i (skip c k) + -(A i c * ((A m c)⁻¹ * A m (skip c k)))) (by omega)
   let y : Nat → K := fun j => if j < c then x j else if j = c then -((A m c)⁻¹ * sm n fun k => A m (skip c k) * x k) else x (j - 1)
   have hy : ∀ k, y (skip c k) = x k := fun k => by
    show (if skip c k < c then _ else _) = _
    unfold skip
    by_cases hk : k < c
    ·rw [if_pos hk, if_pos hk]
    ·rw [if_neg hk, if_neg (by omega), if_neg (by omega)]; rfl
   have hyc : y c = -((A m c)⁻¹ * sm n fun k => A m (skip c k) * x k) := by show (if c < c then _ else _) = _; rw [if_neg (by omega), if_pos rfl]
   -- a sum without one of its terms
   have hs : ∀ (f : Nat → K), sm (n + 1) f = f c + sm n fun k => f (skip c k) := fun f => by
    have e1 : n + 1 = c + (n - c + 1) := by omega
    rw [e1, sm_app, JK, Jb]
    congr 1
    have e2 : n = c + (n - c) := by omega
    conv => rhs; rw [e2, sm_app]
    congr 1
    ·exact sm_congr fun k hk => by unfold skip; rw [if_pos hk]
    ·exact sm_congr fun k hk => by unfold skip; rw [if_neg (by omega)]; congr 1
   refine ⟨y, ⟨skip c j0, skip_lt hj0, by rw [hy]; exact hx⟩, fun i hi => ?_⟩
   rw [hs, hyc]
   simp only [hy]
   by_cases e : i = m
   ·subst e
    rw [mul_neg, ← mul_assoc, mul_inv _ hp, one_mul, QN]
   ·have h1 := he i (by omega)
    rw [← h1, ← sm_mul, mul_neg, ← sm_mul, ← VA, ← sm_add]
    refine sm_congr fun k _ => ?_
    rw [add_mul, add_comm, neg_mul, mul_assoc, mul_assoc]
theorem yv {r m n : Nat} {A B : Mx K} (h : ∀ i, i < r → Sp m n B (A i)) (hi : ∀ x : Nat → K, (∀ j, j < n → sm r (fun i => x i * A i j) = 0) → ∀ i, i < r → x i = 0) : r ≤ m := by
 apply Classical.byContradiction
 intro hlt
 have hc : ∃ c : Mx K, ∀ i, i < r → ∀ j, j < n → A i j = sm m fun k => c i k * B k j := by
  refine ⟨fun i => if h' : i < r then (h i h').choose else fun _ => 0, fun i hi' j hj => ?_⟩
  simp only [dif_pos hi']
  exact (h i hi').choose_spec j hj
 obtain ⟨c, hc⟩ := hc
 obtain ⟨x, ⟨j0, hj0, hx⟩, he⟩ := kernel_ne m r (fun k i => c i k) (by omega)
 refine hx (hi x (fun j hj => ?_) j0 hj0)
 have e1 : sm r (fun i => x i * A i j) = sm r (fun i => sm m fun k => (c i k * x i) * B k j) := sm_congr fun i hi' => by
  rw [hc i hi' j hj, ← sm_mul]
  exact sm_congr fun k _ => by rw [← mul_assoc, mul_comm (x i)]
 rw [e1, sm_comm]
 refine sm_zero fun k hk => ?_
 rw [sm_mul', he k hk, zero_mul]
theorem Ech.indep {r n : Nat} {R : Mx K} {p : Nat → Nat} (h : Ech r n R p) {x : Nat → K} (hx : ∀ j, j < n → sm r (fun i => x i * R i j) = 0) : ∀ i, i < r → x i = 0 := fun i hi => by
 have := hx (p i) (h.lt i hi)
 rwa [sm_one i hi (fun k hk hne => by rw [h.one k i hk hi, if_neg hne, mul_zero]), h.one i i hi hi, if_pos rfl, mul_one] at this
theorem Ech.le {r m n : Nat} {R B : Mx K} {p : Nat → Nat} (h : Ech r n R p) (hs : ∀ i, i < r → Sp m n B (R i)) : r ≤ m := yv hs fun _ hx => h.indep hx
theorem Ech.full {n : Nat} {R : Mx K} {p : Nat → Nat} (h : Ech n n R p) : (∀ i, i < n → p i = i) ∧ ∀ i j, i < n → j < n → R i j = idm i j := by
 have hp : ∀ i, i < n → p i = i := by
  have h1 : ∀ i, i < n → i ≤ p i := fun i => by
   induction i with
   | zero => intro _; omega
   | succ i ih => intro hi; have := h.mono i (i + 1) (by omega) hi; have := ih (by omega); omega
  have h2 : ∀ d i, i + d + 1 = n → p i ≤ i := fun d => by
   induction d with
   | zero => intro i hi; have := h.lt i (by omega); omega
   | succ d ih => intro i hi; have := h.mono i (i + 1) (by omega) (by omega); have := ih (i + 1) (by omega); omega
  intro i hi
  have := h1 i hi
  have := h2 (n - i - 1) i (by omega)
  omega
 refine ⟨hp, fun i j hi hj => ?_⟩
 have := h.one i j hi hj
 rw [hp j hj] at this
 exact this
end
end Go.La

/- Rows of fractions, rows of rows and matrices in memory. -/
namespace Go.Proofs.YtjfkodlddladhaaGreat
open Go.Hp
variable {K : Kont} {N : Nat} {G : World} {E : Env} {U U' U0 : UH} {M M' : MH} {L : List Oper} {l : List Ent} {f : Bool} {i : Nat} {o : Oper}
abbrev TR : Nat := 45
abbrev TRs : Nat := 28
abbrev TM : Nat := 155
abbrev TInt : Nat := 3
def Vq (U : UH) (v : Value) (q : Rat) : Prop := ∃ x : QV, v = x.v ∧ x.nrm U [] q
def Wq (b : Nat) (U : UH) (v : Value) (q : Rat) : Prop := ∃ x : QV, v = x.v ∧ x.rep U [] q ∧ x.le b
theorem QB : Kept Vq := fun _ _ _ _ hU ⟨x, h1, h2⟩ => ⟨x, h1, h2.up hU (List.Sublist.refl _)⟩
theorem JY {b : Nat} : Kept (Wq b) := fun _ _ _ _ hU ⟨x, h1, h2, h3⟩ => ⟨x, h1, h2.up hU (List.Sublist.refl _), h3⟩
theorem Vq.w {v : Value} {q : Rat} {b : Nat} (h : Vq U v q) (hz : Szq q b) : Wq b U v q := by
 obtain ⟨x, h1, h2⟩ := h
 exact ⟨x, h1, h2.rep, h2.le hz (Nat.le_refl _)⟩
theorem Wq.sz {v : Value} {q : Rat} {b : Nat} (h : Wq b U v q) (hb : 1 ≤ b) : Szq q b := by
 obtain ⟨x, h1, h2, h3⟩ := h
 exact h2.sz h3 hb
theorem Wq.mono {v : Value} {q : Rat} {b c : Nat} (h : Wq b U v q) (hb : b ≤ c) : Wq c U v q := by
 obtain ⟨x, h1, h2, h3, h4⟩ := h
 exact ⟨x, h1, h2, Nat.le_trans h3 hb, Nat.le_trans h4 hb⟩
def Vr (n : Nat) (U : UH) (v : Value) (g : Nat → Rat) : Prop := Ls Vq 4 n U [] v g
theorem _root_.Go.Hp.El.up {α : Type} {ok : UH → Value → α → Prop} {vs : List Value} {g : Nat → α} (h : El ok U vs g) (hok : Kept ok) (hU : ULe U U') : El ok U' vs g := fun k x hk => hok _ _ _ _ hU (h k x hk)
theorem _root_.Go.Hp.El.nil {α : Type} {ok : UH → Value → α → Prop} {g : Nat → α} : El ok U [] g := fun k x h => by simp at h
theorem _root_.Go.Hp.El.congr {α : Type} {ok : UH → Value → α → Prop} {n : Nat} {vs : List Value} {g g' : Nat → α} (h : El ok U vs g) (hn : vs.length = n) (hg : ∀ k, k < n → g k = g' k) : El ok U vs g' := fun k x hk => by
 rw [← hg k (by rw [← hn]; exact (List.getElem?_eq_some_iff.1 hk).1)]; exact h k x hk
theorem Vr.ls {n : Nat} {v : Value} {g : Nat → Rat} (h : Vr n U v g) (hU : ULe U U') : Ls Vq 4 n U' M v g := Ls.up h QB hU (List.nil_sublist _)
theorem _root_.Go.Hp.Ls.toW {n b s : Nat} {v : Value} {g : Nat → Rat} (h : Ls Vq s n U M v g) (hz : ∀ k, k < n → Szq (g k) b) : Ls (Wq b) s n U M v g := by
 obtain ⟨p, c, vs, h1, h0, h2, h3⟩ := h
 exact ⟨p, c, vs, h1, h0, h2, fun k x hk => (h3 k x hk).w (hz k (h2.lt hk))⟩
theorem _root_.Go.Hp.Ls.mono {n b b' s : Nat} {v : Value} {g : Nat → Rat} (h : Ls (Wq b) s n U M v g) (hb : b ≤ b') : Ls (Wq b') s n U M v g := by
 obtain ⟨p, c, vs, h1, h0, h2, h3⟩ := h
 exact ⟨p, c, vs, h1, h0, h2, fun k x hk => (h3 k x hk).mono hb⟩
theorem _root_.Go.Hp.Ls.sz {n b s : Nat} {v : Value} {g : Nat → Rat} (h : Ls (Wq b) s n U M v g) (hb : 1 ≤ b) {k : Nat} (hk : k < n) : Szq (g k) b := by
 obtain ⟨p, c, vs, h1, h0, h2, h3⟩ := h
 obtain ⟨x, hx⟩ := h2.at hk
 exact (h3 k x hx).sz hb
theorem _root_.Go.Hp.El.sz {n b s : Nat} {p : Option Addr} {vs : List Value} {g : Nat → Rat} (h : El (Wq b) U vs g) (hr : RowAt U M s p n vs) (hb : 1 ≤ b) {k : Nat} (hk : k < n) : Szq (g k) b := by
 obtain ⟨x, hx⟩ := hr.at hk
 exact (h k x hx).sz hb
def fl {α : Type} (c : Nat) (A : Nat → Nat → α) (k : Nat) : α := A (k / c) (k % c)
theorem Qfo {α : Type} {c i j : Nat} {A : Nat → Nat → α} (hj : j < c) : fl c A (i * c + j) = A i j := by
 unfold fl
 rw [Nat.mul_comm, Nat.mul_add_div (by omega), Nat.mul_add_mod, Nat.div_eq_of_lt hj, Nat.mod_eq_of_lt hj, Nat.add_zero]
theorem VT {r c k : Nat} (h : k < r * c) : k / c < r ∧ k % c < c := by
 have hc : 0 < c := by
  rcases Nat.eq_zero_or_pos c with h0 | h0
  ·subst h0; omega
  ·exact h0
 exact ⟨(Nat.div_lt_iff_lt_mul hc).2 h, Nat.mod_lt _ hc⟩
theorem Ye {r c i j : Nat} (hi : i < r) (hj : j < c) : i * c + j < r * c := by
 have : (i + 1) * c ≤ r * c := Nat.mul_le_mul_right _ hi
 rw [Nat.add_mul] at this
 omega
def Vm (ok : UH → Value → Rat → Prop) (r c : Nat) (U : UH) (v : Value) (A : Nat → Nat → Rat) : Prop := ∃ a, v = .agg #[.int .i64 (r : Int), .int .i64 (c : Int), a] ∧ Ls ok 4 (r * c) U [] a (fl c A)
theorem QdF {ok : UH → Value → Rat → Prop} (hok : Kept ok) {r c : Nat} : Kept (Vm ok r c) := fun _ _ _ _ hU ⟨a, h1, h2⟩ => ⟨a, h1, h2.up hok hU (List.Sublist.refl _)⟩
theorem Vm.w {r c b : Nat} {v : Value} {A : Nat → Nat → Rat} (h : Vm Vq r c U v A) (hz : ∀ i j, i < r → j < c → Szq (A i j) b) : Vm (Wq b) r c U v A := by
 obtain ⟨a, h1, h2⟩ := h
 exact ⟨a, h1, h2.toW fun k hk => hz _ _ (VT hk).1 (VT hk).2⟩
theorem Vm.mono {r c b b' : Nat} {v : Value} {A : Nat → Nat → Rat} (h : Vm (Wq b) r c U v A) (hb : b ≤ b') : Vm (Wq b') r c U v A := by
 obtain ⟨a, h1, h2⟩ := h
 exact ⟨a, h1, h2.mono hb⟩
theorem Vm.sz {r c b : Nat} {v : Value} {A : Nat → Nat → Rat} (h : Vm (Wq b) r c U v A) (hb : 1 ≤ b) {i j : Nat} (hi : i < r) (hj : j < c) : Szq (A i j) b := by
 obtain ⟨a, h1, h2⟩ := h
 have := h2.sz hb (Ye hi hj)
 rwa [Qfo hj] at this
theorem Vm.congr {ok : UH → Value → Rat → Prop} {r c : Nat} {v : Value} {A B : Nat → Nat → Rat} (h : Vm ok r c U v A) (hz : ∀ i j, i < r → j < c → A i j = B i j) : Vm ok r c U v B := by
 obtain ⟨a, h1, h2⟩ := h
 exact ⟨a, h1, h2.congr fun k hk => hz _ _ (VT hk).1 (VT hk).2⟩
def Vmo (r c : Nat) (U : UH) (D : MH) (v : Value) (A : Nat → Nat → Rat) : Prop := ∃ a, v = .agg #[.int .i64 (r : Int), .int .i64 (c : Int), a] ∧ Lo Vq TR 4 (r * c) U D a (fl c A)
theorem QgD {r c fn : Nat} {A : Nat → Nat → Rat} {args : List Value} (h : Ct Tryz.prog fn args G U M fun v U' D => Vmo r c U' D v A ∧ ULe U U') :
  Ct Tryz.prog fn args G U M fun v U' D => Vm Vq r c U' v A ∧ D = [] :=
 h.settle.mono fun _ _ _ _ ⟨h1, _, _, ⟨⟨a, h2, h5⟩, _⟩, _, h3, h4⟩ => ⟨⟨a, h2, h5.sett QB h3 h4⟩, h1⟩
def Wr (b n : Nat) (U : UH) (v : Value) (g : Nat → Rat) : Prop := Ls (Wq b) 4 n U [] v g
def Gs (R : MH → Option Addr → Nat → Nat → List Value → Prop) (c : Nat) (U : UH) (svs : List Value) (F : List MH) (A : Nat → Nat → Rat) : Prop :=
 svs.length = F.length ∧ ∀ i v D, svs[i]? = some v → F[i]? = some D → ∃ q c' vs, v = .slice q c c' ∧ c ≤ c' ∧ R D q c c' vs ∧ El Vq U vs (A i)
abbrev rO : MH → Option Addr → Nat → Nat → List Value → Prop := RowO TR 4
abbrev rW : MH → Option Addr → Nat → Nat → List Value → Prop := fun D p n _ vs => RowW TR 4 D p n vs
theorem Gs.up {R : MH → Option Addr → Nat → Nat → List Value → Prop} {c : Nat} {svs : List Value} {F : List MH} {A : Nat → Nat → Rat} (h : Gs R c U svs F A) (hU : ULe U U') : Gs R c U' svs F A :=
 ⟨h.1, fun i v D h1 h2 => by
  obtain ⟨q, c', vs, h3, h4, h5, h6⟩ := h.2 i v D h1 h2
  exact ⟨q, c', vs, h3, h4, h5, h6.up QB hU⟩⟩
theorem Gs.nil {R : MH → Option Addr → Nat → Nat → List Value → Prop} {c : Nat} {A : Nat → Nat → Rat} : Gs R c U [] [] A := ⟨rfl, fun i v D h => by simp at h⟩
theorem Gs.w {c : Nat} {svs : List Value} {F : List MH} {A : Nat → Nat → Rat} (h : Gs rO c U svs F A) : Gs rW c U svs F A :=
 ⟨h.1, fun i v D h1 h2 => by
  obtain ⟨q, c', vs, h3, h4, h5, h6⟩ := h.2 i v D h1 h2
  exact ⟨q, c', vs, h3, h4, h5.w, h6⟩⟩
theorem Gs.snoc {R : MH → Option Addr → Nat → Nat → List Value → Prop} {c c' n : Nat} {svs vs : List Value} {F : List MH} {D : MH} {q : Option Addr} {A : Nat → Nat → Rat} (h : Gs R c U svs F A) (hn : svs.length = n) (hc : c ≤ c') (hR : R D q c c' vs) (hel : El Vq U vs (A n)) :
  Gs R c U (svs ++ [.slice q c c']) (F ++ [D]) A := by
 refine ⟨by rw [List.length_append, List.length_append, h.1]; rfl, fun i v E h1 h2 => ?_⟩
 rcases Nat.lt_trichotomy i svs.length with h3 | h3 | h3
 ·rw [List.getElem?_append_left h3] at h1
  rw [List.getElem?_append_left (by rw [← h.1]; exact h3)] at h2
  exact h.2 i v E h1 h2
 ·subst h3
  rw [List.getElem?_concat_length] at h1
  rw [h.1, List.getElem?_concat_length] at h2
  cases h1
  cases h2
  exact ⟨q, c', vs, rfl, hc, hR, by rw [hn]; exact hel⟩
 ·rw [List.getElem?_eq_none (by simp; omega)] at h1; cases h1
def Go (R : MH → Option Addr → Nat → Nat → List Value → Prop) (r c : Nat) (U : UH) (D : MH) (v : Value) (A : Nat → Nat → Rat) : Prop :=
 ∃ Do F p cc svs, D = Do ++ F.flatten ∧ v = .slice p r cc ∧ RowO TRs 1 Do p r cc svs ∧ Gs R c U svs F A
theorem Gs.sett {c : Nat} {svs : List Value} {F : List MH} {A : Nat → Nat → Rat} (h : Gs rO c U svs F A) (hU : ULe U U') (hs : Sett U0 U' F.flatten) : El (Vr c) U' svs A := fun k x hk => by
 have hF : k < F.length := by rw [← h.1]; exact (List.getElem?_eq_some_iff.1 hk).1
 obtain ⟨q, c', vs, rfl, h3, h4, h5⟩ := h.2 k x _ hk (List.getElem?_eq_getElem hF)
 exact ⟨q, c', vs, rfl, h3, h4.sett (fun e he => hs e (List.mem_flatten.2 ⟨_, List.getElem_mem hF, he⟩)), h5.up QB hU⟩
theorem Go.sett {r c : Nat} {D : MH} {v : Value} {A : Nat → Nat → Rat} (h : Go rO r c U D v A) (hU : ULe U U') (hs : Sett U0 U' D) : Ls (Vr c) 1 r U' [] v A := by
 obtain ⟨Do, F, p, cc, svs, rfl, rfl, h1, h2⟩ := h
 refine ⟨p, cc, svs, rfl, h1.len.2.1, h1.sett hs.left, fun k x hk => ?_⟩
 have hF : k < F.length := by rw [← h2.1]; exact (List.getElem?_eq_some_iff.1 hk).1
 obtain ⟨q, c', vs, rfl, h3, h4, h5⟩ := h2.2 k x _ hk (List.getElem?_eq_getElem hF)
 refine ⟨q, c', vs, rfl, h3, h4.sett (fun e he => hs e (List.mem_append_right _ (List.mem_flatten.2 ⟨_, List.getElem_mem hF, he⟩))), h5.up QB hU⟩
theorem VL : Szq 0 1 := ⟨by unfold Sz; decide, by unfold Sz; decide⟩
theorem qG : Szq 1 1 := ⟨by unfold Sz; decide, by unfold Sz; decide⟩
theorem YH {α : Type} [DecidableEq α] (x : α) : ∀ l : List α, l.count x = (l.map fun y => if y = x then 1 else 0).sum
 | [] => rfl
 | a :: l => by
  rw [List.count_cons, List.map_cons, List.sum_cons, ← YH x l]
  by_cases h : a = x <;> simp [h] <;> omega
theorem pm {α : Type} {a b : List α} (h : ∀ f : α → Nat, (a.map f).sum = (b.map f).sum := by intro f; simp only [TR, TRs, TM, TInt, zeroQV, zeroIV0, QV.v, List.map_append, List.map_cons, List.sum_append, List.sum_cons, List.flatten_cons, List.flatten_append, List.flatten_nil, List.map_nil, List.sum_nil, List.nil_append, List.append_nil]; omega) : a.Perm b := by
 letI : DecidableEq α := fun a b => Classical.propDecidable (a = b)
 rw [List.perm_iff_count]
 intro x
 rw [YH, YH]
 exact h _
theorem sbk {α : Type} {l M : List α} (h : l.Sublist M := by repeat (first | exact List.Sublist.refl _ | exact List.nil_sublist _ | refine List.Sublist.cons_cons _ ?_ | refine List.Sublist.append (List.Sublist.refl _) ?_ | refine Qek ?_ | refine List.Sublist.cons _ ?_ | refine vu ?_ | refine Jw ?_)) : l.Sublist M := h
theorem Yy {f2 : Bool} {i2 : Nat} {o2 : Oper} {d1 d t e s bs bt bt' : Nat} {x y : Operand} {v z z' : Value} {ek : TK} {D X : MH} {p : Option Addr} {n c : Nat} {vs : List Value} (hrow : RowO e s D p n c vs) (hM : M.Perm (D ++ X))
  (h : ∀ b p' cc D', RowO e s D' p' (n + 1) cc (vs ++ [v]) → SL Tryz.prog tys L K N G l ((d, .slice p' (n + 1) cc) :: (d1, .slice (some ⟨b, 0, none⟩) 1 1) :: E) U (D' ++ X))
  (ho1 : o.op = .buildSlice t 1 [(0, y)].toArray := by exact rfl) (hy : ev E y = some v := by exact rfl) (hT : lkT tys t = some ⟨.slice e, bt, bt', z'⟩ := by exact rfl) (he : lkT tys e = some ⟨ek, s, bs, z⟩ := by exact rfl) (hz : z.cells.toList.length = s := by exact rfl) (h0 : Nat.blt 0 s = true := by exact rfl) (hs1 : Nat.ble (1 * s) 16777216 = true := by exact rfl)
  (hv : v.cells.toList.length = s := by exact rfl) (h1 : v.cells.toList.all Value.oneCell' = true := by exact rfl) (hg1 : gok L E o.guard = some true := by exact rfl) (hk1 : cB f tys o = true := by exact rfl) (hd1 : o.dst = some d1 := by exact rfl) (hN1 : Nat.blt d1 N = true := by exact rfl)
  (ho : o2.op = .call { callee := .builtin .append, args := #[x, .tmp d1], argTypes := #[t, t] } := by exact rfl)
  (hx : ∀ b, ev ((d1, .slice (some ⟨b, 0, none⟩) 1 1) :: E) x = some (.slice p n c) := by exact fun _ => rfl)
  (hbound : (n + 1) * bs ≤ 140737488355328 := by omega) (h63 : n + 1 ≤ 9223372036854775807 := by omega)
  (hg : ∀ b, gok L ((d1, .slice (some ⟨b, 0, none⟩) 1 1) :: E) o2.guard = some true := by exact fun _ => rfl) (hk : f2 = false := by exact rfl) (hd : o2.dst = some d := by exact rfl) (hN : Nat.blt d N = true := by exact rfl) : SL Tryz.prog tys L K N G ((f, i, o) :: (f2, i2, o2) :: l) E U M :=
 QfX hrow sym ho1 hy hT he hz h0 hs1 hv h1 hg1 hk1 hd1 hN1 ho hx hM hbound h63 hg hk hd hN h
theorem QgN {d t e s bs bt bt' : Nat} {x y : Operand} {z z' : Value} {ek : TK} {D X : MH} {p q : Option Addr} {n c m c' : Nat} {vs us : List Value} (hrow : RowO e s D p n c vs) (hM : M.Perm (D ++ X)) (hu : RowAt U M s q m us) (h1 : ∀ v ∈ us, v.cells.toList.all Value.oneCell' = true)
  (h : ∀ p' cc D', RowO e s D' p' (n + m) cc (vs ++ us) → SL Tryz.prog tys L K N G l ((d, .slice p' (n + m) cc) :: E) U (D' ++ X))
  (ho : o.op = .call { callee := .builtin .append, args := #[x, y], argTypes := #[t, t] } := by exact rfl) (hx : ev E x = some (.slice p n c) := by exact rfl) (hy : ev E y = some (.slice q m c') := by exact rfl)
  (hT : lkT tys t = some ⟨.slice e, bt, bt', z'⟩ := by exact rfl) (he : lkT tys e = some ⟨ek, s, bs, z⟩ := by exact rfl) (hz : z.cells.toList.length = s := by exact rfl) (h0 : Nat.blt 0 s = true := by exact rfl)
  (hbound : (n + m) * bs ≤ 140737488355328 := by omega) (h63 : n + m ≤ 9223372036854775807 := by omega)
  (hg : gok L E o.guard = some true := by exact rfl) (hk : f = false := by exact rfl) (hd : o.dst = some d := by exact rfl) (hN : Nat.blt d N = true := by exact rfl) : SL Tryz.prog tys L K N G ((f, i, o) :: l) E U M :=
 yr sym ho hx hy hT he hz h0 hrow hM hu h1 hbound h63 hg hk hd hN h
theorem QeE {d t e s bs bt bt' : Nat} {x y : Operand} {z z' : Value} {ek : TK} {p q : Option Addr} {m c' : Nat} {us : List Value} (hu : RowAt U M s q m us) (h1 : ∀ v ∈ us, v.cells.toList.all Value.oneCell' = true)
  (h : ∀ p' cc D', RowO e s D' p' m cc us → SL Tryz.prog tys L K N G l ((d, .slice p' m cc) :: E) U (D' ++ M))
  (ho : o.op = .call { callee := .builtin .append, args := #[x, y], argTypes := #[t, t] } := by exact rfl) (hx : ev E x = some (.slice p 0 0) := by exact rfl) (hy : ev E y = some (.slice q m c') := by exact rfl)
  (hT : lkT tys t = some ⟨.slice e, bt, bt', z'⟩ := by exact rfl) (he : lkT tys e = some ⟨ek, s, bs, z⟩ := by exact rfl) (hz : z.cells.toList.length = s := by exact rfl) (h0 : Nat.blt 0 s = true := by exact rfl)
  (hbound : m * bs ≤ 140737488355328 := by omega) (h63 : m ≤ 9223372036854775807 := by omega)
  (hg : gok L E o.guard = some true := by exact rfl) (hd : o.dst = some d := by exact rfl) (hN : Nat.blt d N = true := by exact rfl) : SL Tryz.prog tys L K N G ((f, i, o) :: l) E U M :=
 yk sym ho hx hy hT he hz h0 hu h1 hbound h63 hg hd hN h
theorem QgI {d t e : Nat} {x y : Operand} {p : Option Addr} {n c h bt bt' bt'' sz : Nat} {z z' : Value} {ek : TK} {k : IntKind} {iv : Int} (h2 : h ≤ c)
  (hh : SL Tryz.prog tys L K N G l ((d, .slice p h c) :: E) U M)
  (ho : o.op = .slice t x none (some y) none := by exact rfl) (hx : ev E x = some (.slice p n c) := by exact rfl) (hy : ev E y = some (.int k iv) := by exact rfl)
  (hT : lkT tys t = some ⟨.slice e, bt, bt', z⟩ := by exact rfl) (he : lkT tys e = some ⟨ek, sz, bt'', z'⟩ := by exact rfl) (hv : iv = (h : Int) := by exact rfl)
  (hk : yB f tys o = true := by exact rfl) (hd : o.dst = some d := by exact rfl) (hN : Nat.blt d N = true := by exact rfl) (hg : gok L E o.guard = some true := by exact rfl) : SL Tryz.prog tys L K N G ((f, i, o) :: l) E U M :=
 sl_y (VC sym ho hx hy hT he hv h2) hk hd hN hg hh
theorem jP {d t e : Nat} {x y : Operand} {p : Option Addr} {n c lo bt bt' bt'' sz : Nat} {z z' : Value} {ek : TK} {k : IntKind} {iv : Int} (h1 : lo ≤ n) (h2 : n ≤ c)
  (hh : SL Tryz.prog tys L K N G l ((d, .slice (if c = lo then p else p.map (·.add (lo * sz))) (n - lo) (c - lo)) :: E) U M)
  (ho : o.op = .slice t x (some y) none none := by exact rfl) (hx : ev E x = some (.slice p n c) := by exact rfl) (hy : ev E y = some (.int k iv) := by exact rfl)
  (hT : lkT tys t = some ⟨.slice e, bt, bt', z⟩ := by exact rfl) (he : lkT tys e = some ⟨ek, sz, bt'', z'⟩ := by exact rfl) (hv : iv = (lo : Int) := by exact rfl)
  (hk : yB f tys o = true := by exact rfl) (hd : o.dst = some d := by exact rfl) (hN : Nat.blt d N = true := by exact rfl) (hg : gok L E o.guard = some true := by exact rfl) : SL Tryz.prog tys L K N G ((f, i, o) :: l) E U M :=
 sl_y (qM sym ho hx hT he (.inr ⟨y, k, iv, rfl, hy, hv⟩) (.inl ⟨rfl, rfl⟩) h1 h2) hk hd hN hg hh
theorem QgO {d t e s bt bt' bs : Nat} {z z' : Value} {ek : TK} (h : ∀ b, SL Tryz.prog tys L K N G l ((d, .slice (some ⟨b, 0, none⟩) 0 0) :: E) U ((b, .arr [], e) :: M))
  (ho : o.op = .buildSlice t 0 [].toArray := by exact rfl) (hT : lkT tys t = some ⟨.slice e, bt, bt', z'⟩ := by exact rfl) (he : lkT tys e = some ⟨ek, s, bs, z⟩ := by exact rfl) (hz : z.cells.toList.length = s := by exact rfl)
  (hg : gok L E o.guard = some true := by exact rfl) (hk : cB f tys o = true := by exact rfl) (hd : o.dst = some d := by exact rfl) (hN : Nat.blt d N = true := by exact rfl) : SL Tryz.prog tys L K N G ((f, i, o) :: l) E U M :=
 QJ (vs := []) sym ho rfl rfl hT he rfl (fun _ h => by cases h) hz (by rw [Nat.zero_mul]; rfl) hg hk hd hN h
theorem VU {e s t k n : Nat} {x y : Operand} {v : Value} {ti : TI} {p : Option Addr} {vs : List Value} {D X : MH} (hw : RowW e s D p n vs) (hM : M.Perm (D ++ X)) (hkn : k < n)
  (h : ∀ D', RowW e s D' p n (vs.set k v) → SL Tryz.prog tys L K N G l E U (D' ++ X))
  (ho : o.op = .store t x y := by exact rfl) (hx : ev E x = some (.pointer (some (elt p (k * s)))) := by exact rfl) (hy : ev E y = some v := by exact rfl)
  (hT : lkT tys t = some ti := by exact rfl) (hs : ti.size = s := by exact rfl) (hv : v.cells.toList.length = s := by exact rfl) (h1 : v.cells.toList.all Value.oneCell' = true := by exact rfl) (hg : gok L E o.guard = some true := by exact rfl) (hk : xB f tys o = true := by exact rfl) (hd : o.dst = none := by exact rfl) : SL Tryz.prog tys L K N G ((f, i, o) :: l) E U M :=
 QcI sym ho hx hy hw hM hkn hT hs hv h1 hg hk hd h
theorem QK {e s t k n c : Nat} {x y : Operand} {v : Value} {ti : TI} {p : Option Addr} {vs : List Value} {D X : MH} (hw : RowO e s D p n c vs) (hM : M.Perm (D ++ X)) (hkn : k < n)
  (h : ∀ D', RowO e s D' p n c (vs.set k v) → SL Tryz.prog tys L K N G l E U (D' ++ X))
  (ho : o.op = .store t x y := by exact rfl) (hx : ev E x = some (.pointer (some (elt p (k * s)))) := by exact rfl) (hy : ev E y = some v := by exact rfl)
  (hT : lkT tys t = some ti := by exact rfl) (hs : ti.size = s := by exact rfl) (hv : v.cells.toList.length = s := by exact rfl) (h1 : v.cells.toList.all Value.oneCell' = true := by exact rfl) (hg : gok L E o.guard = some true := by exact rfl) (hk : xB f tys o = true := by exact rfl) (hd : o.dst = none := by exact rfl) : SL Tryz.prog tys L K N G ((f, i, o) :: l) E U M :=
 Qdl sym ho hx hy hw hM hkn hT hs hv h1 hg hk hd h
theorem QU {d t e sz n c j : Nat} {x ix : Operand} {p : Option Addr} {iv : Int} {k : IntKind} {bt bt' bt'' : Nat} {z z' : Value} {ek : TK} (hlt : j < n) (hp : p.isSome = true)
  (h : SL Tryz.prog tys L K N G l ((d, .pointer (some (elt p (j * sz)))) :: E) U M)
  (ho : o.op = .indexAddr t x ix := by exact rfl) (hx : ev E x = some (.slice p n c) := by exact rfl) (hi : ev E ix = some (.int k iv) := by exact rfl) (hT : lkT tys t = some ⟨.slice e, bt, bt', z⟩ := by exact rfl) (he : lkT tys e = some ⟨ek, sz, bt'', z'⟩ := by exact rfl) (hj : iv = (j : Int) := by exact rfl)
  (hk : yB f tys o = true := by exact rfl) (hd : o.dst = some d := by exact rfl) (hN : Nat.blt d N = true := by exact rfl) (hg : gok L E o.guard = some true := by exact rfl) : SL Tryz.prog tys L K N G ((f, i, o) :: l) E U M :=
 sl_y (Qg sym ho hx hi hT he hj hlt hp) hk hd hN hg h
theorem _root_.Go.Hp.RowO.some {e s n c : Nat} {D : MH} {p : Option Addr} {vs : List Value} (h : RowO e s D p n c vs) (hn : 0 < n) : p.isSome = true := by
 obtain ⟨h, -, -⟩ := h
 cases h with
 | nil => omega
 | row => rfl
theorem Qff {v : Value} {q : Rat} (h : Vq U v q) : v.cells.toList.all Value.oneCell' = true := by obtain ⟨x, rfl, -⟩ := h; rfl
theorem _root_.Go.Hp.El.ones {α : Type} {ok : UH → Value → α → Prop} {vs : List Value} {g : Nat → α} (h : El ok U vs g) (hok : ∀ v a, ok U v a → v.cells.toList.all Value.oneCell' = true) : ∀ v ∈ vs, v.cells.toList.all Value.oneCell' = true := fun v hv => by
 obtain ⟨k, hk⟩ := List.mem_iff_getElem?.1 hv
 exact hok v _ (h k v hk)
end Go.Proofs.YtjfkodlddladhaaGreat

/- Elimination: what holds halfway. No condition. -/
namespace Go.La
section
variable {K : Type} [Fld K]
def stack (r : Nat) (R A : Mx K) : Mx K := fun i => if i < r then R i else A (i - r)
omit [Fld K] in
theorem QO {r i : Nat} {R A : Mx K} (h : i < r) : stack r R A i = R i := if_pos h
omit [Fld K] in
theorem QE {r i : Nat} {R A : Mx K} : stack r R A (r + i) = A i := by unfold stack; rw [if_neg (by omega)]; congr 1; omega
def clr (row P : Nat → K) (c : Nat) : Nat → K := fun j => row j + -(row c) * P j
structure Elm (m n : Nat) (A0 : Mx K) (c r : Nat) (R : Mx K) (p : Nat → Nat) (a : Nat) (A : Mx K) : Prop where
 cnt : r + a = m
 ech : Ech r n R p
 below : ∀ i, i < r → p i < c
 zero : ∀ i j, i < a → j < c → A i j = 0
 span : Same (r + a) m n (stack r R A) A0
theorem Elm.le_c {m n c r a : Nat} {A0 R A : Mx K} {p : Nat → Nat} (h : Elm m n A0 c r R p a A) : r ≤ c := by
 have key : ∀ i, i < r → i ≤ p i := by
  intro i
  induction i with
  | zero => exact fun _ => Nat.zero_le _
  | succ i ih =>
   intro hi
   have h1 := ih (by omega)
   have h2 := h.ech.mono i (i + 1) (by omega) hi
   omega
 rcases Nat.eq_zero_or_pos r with h0 | h0
 ·omega
 ·have h1 := key (r - 1) (by omega)
  have h2 := h.below (r - 1) (by omega)
  omega
theorem Elm.start {m n : Nat} {A : Mx K} {R : Mx K} {p : Nat → Nat} : Elm m n A 0 0 R p m A where
 cnt := Nat.zero_add m
 ech := ⟨fun _ h => absurd h (Nat.not_lt_zero _), fun _ _ _ h => absurd h (Nat.not_lt_zero _), fun _ _ h => absurd h (Nat.not_lt_zero _), fun _ _ h => absurd h (Nat.not_lt_zero _)⟩
 below := fun _ h => absurd h (Nat.not_lt_zero _)
 zero := fun _ _ _ h => absurd h (Nat.not_lt_zero _)
 span := by
  have e : stack 0 R A = A := by funext i; unfold stack; rw [if_neg (Nat.not_lt_zero i)]; rfl
  rw [e, Nat.zero_add]; exact Same.refl
theorem Elm.pass {m n c r a : Nat} {A0 R A : Mx K} {p : Nat → Nat} (h : Elm m n A0 c r R p a A) (hz : ∀ i, i < a → A i c = 0) : Elm m n A0 (c + 1) r R p a A :=
 ⟨h.cnt, h.ech, fun i hi => Nat.lt_succ_of_lt (h.below i hi), fun i j hi hj => by
  rcases Nat.lt_or_eq_of_le (Nat.le_of_lt_succ hj) with h1 | h1
  ·exact h.zero i j hi h1
  ·rw [h1]; exact hz i hi, h.span⟩
theorem Elm.step {m n c r a t : Nat} {A0 R A R' A' : Mx K} {p p' : Nat → Nat} {P : Nat → K} (h : Elm m n A0 c r R p a A) (hc : c < n) (ht : t < a) (h0 : A t c ≠ 0)
  (hP : ∀ j, j < n → P j = (A t c)⁻¹ * A t j) (hR : ∀ i j, i < r → j < n → R' i j = clr (R i) P c j) (hRr : ∀ j, j < n → R' r j = P j)
  (hp : ∀ i, i < r → p' i = p i) (hpr : p' r = c)
  (h1 : ∀ s, s + 1 < a → ∃ u, u < a ∧ u ≠ t ∧ ∀ j, j < n → A' s j = clr (A u) P c j) (h2 : ∀ u, u < a → u ≠ t → ∃ s, s + 1 < a ∧ ∀ j, j < n → A' s j = clr (A u) P c j) :
  Elm m n A0 (c + 1) (r + 1) R' p' (a - 1) A' := by
 have hP0 : ∀ j, j < c → P j = 0 := fun j hj => by rw [hP j (by omega), h.zero t j ht hj, mul_zero]
 have hPc : P c = 1 := by rw [hP c hc, inv_mul _ h0]
 have hclr0 : ∀ row : Nat → K, clr row P c c = 0 := fun row => by
  unfold clr; rw [hPc, mul_one, add_neg_self]
 have hclr : ∀ (row : Nat → K) j, j < c → clr row P c j = row j := fun row j hj => by
  unfold clr; rw [hP0 j hj, mul_zero, add_zero]
 have hcr : ∀ i, i < r → p i < c := h.below
 refine ⟨by have := h.cnt; omega, ⟨fun i hi => ?_, fun i k hik hk => ?_, fun i k hi hk => ?_, fun i j hi hj => ?_⟩, fun i hi => ?_, fun i j hi hj => ?_, ?_⟩
 ·rcases Nat.lt_or_eq_of_le (Nat.le_of_lt_succ hi) with h3 | h3
  ·rw [hp i h3]; exact h.ech.lt i h3
  ·rw [h3, hpr]; exact hc
 ·rcases Nat.lt_or_eq_of_le (Nat.le_of_lt_succ hk) with h3 | h3
  ·rw [hp i (by omega), hp k h3]; exact h.ech.mono i k hik h3
  ·subst h3; rw [hp i hik, hpr]; exact hcr i hik
 ·rcases Nat.lt_or_eq_of_le (Nat.le_of_lt_succ hi) with h3 | h3
  ·rcases Nat.lt_or_eq_of_le (Nat.le_of_lt_succ hk) with h4 | h4
   ·rw [hp k h4, hR i _ h3 (h.ech.lt k h4), hclr _ _ (hcr k h4)]; exact h.ech.one i k h3 h4
   ·subst h4; rw [hpr, hR i c h3 hc, hclr0, if_neg (by omega)]
  ·subst h3
   rcases Nat.lt_or_eq_of_le (Nat.le_of_lt_succ hk) with h4 | h4
   ·rw [hp k h4, hRr _ (h.ech.lt k h4), hP0 _ (hcr k h4), if_neg (by omega)]
   ·subst h4; rw [hpr, hRr c hc, hPc, if_pos rfl]
 ·rcases Nat.lt_or_eq_of_le (Nat.le_of_lt_succ hi) with h3 | h3
  ·rw [hp i h3] at hj
   have := hcr i h3
   rw [hR i j h3 (by omega), hclr _ _ (by omega)]
   exact h.ech.zero i j h3 hj
  ·subst h3; rw [hpr] at hj; rw [hRr j (by omega), hP0 j hj]
 ·rcases Nat.lt_or_eq_of_le (Nat.le_of_lt_succ hi) with h3 | h3
  ·rw [hp i h3]; have := hcr i h3; omega
  ·rw [h3, hpr]; omega
 ·obtain ⟨u, hu, -, he⟩ := h1 i (by omega)
  rcases Nat.lt_or_eq_of_le (Nat.le_of_lt_succ hj) with h3 | h3
  ·rw [he j (by omega), hclr _ _ h3]; exact h.zero u j hu h3
  ·subst h3; rw [he j hc, hclr0]
 ·
  refine Same.trans ?_ h.span
  have spA : ∀ u, u < a → Sp (r + a) n (stack r R A) (A u) := fun u hu => by
   have := Sp.row (n := n) (A := stack r R A) (i := r + u) (r := r + a) (by omega)
   rwa [QE] at this
  have spR : ∀ i, i < r → Sp (r + a) n (stack r R A) (R i) := fun i hi => by
   have := Sp.row (n := n) (A := stack r R A) (i := i) (r := r + a) (by omega)
   rwa [QO hi] at this
  have spP : Sp (r + a) n (stack r R A) P := ((spA t ht).smul (A t c)⁻¹).congr (fun _ _ _ _ => rfl) (fun j hj => (hP j hj).symm)
  have e' : r + 1 + (a - 1) = r + a := by omega
  have spA' : ∀ s, s + 1 < a → Sp (r + 1 + (a - 1)) n (stack (r + 1) R' A') (A' s) := fun s hs => by
   have := Sp.row (n := n) (A := stack (r + 1) R' A') (i := r + 1 + s) (r := r + 1 + (a - 1)) (by omega)
   rwa [QE] at this
  have spR' : ∀ i, i < r + 1 → Sp (r + 1 + (a - 1)) n (stack (r + 1) R' A') (R' i) := fun i hi => by
   have := Sp.row (n := n) (A := stack (r + 1) R' A') (i := i) (r := r + 1 + (a - 1)) (by omega)
   rwa [QO hi] at this
  have spP' : Sp (r + 1 + (a - 1)) n (stack (r + 1) R' A') P := (spR' r (by omega)).congr (fun _ _ _ _ => rfl) (fun j hj => hRr j hj)
  have back : ∀ row : Nat → K, ∀ j, clr row P c j + row c * P j = row j := fun row j => by
   unfold clr; rw [neg_mul, add_assoc, QN, add_zero]
  refine ⟨fun i hi => ?_, fun i hi => ?_⟩
  ·rcases Nat.lt_or_ge i (r + 1) with h3 | h3
   ·rw [QO h3]
    rcases Nat.lt_or_eq_of_le (Nat.le_of_lt_succ h3) with h4 | h4
    ·exact ((spR i h4).comb (-(R i c)) spP).congr (fun _ _ _ _ => rfl) (fun j hj => (hR i j h4 hj).symm)
    ·subst h4; exact spP.congr (fun _ _ _ _ => rfl) (fun j hj => (hRr j hj).symm)
   ·obtain ⟨s, rfl⟩ : ∃ s, i = r + 1 + s := ⟨i - (r + 1), by omega⟩
    rw [QE]
    obtain ⟨u, hu, -, he⟩ := h1 s (by omega)
    exact ((spA u hu).comb (-(A u c)) spP).congr (fun _ _ _ _ => rfl) (fun j hj => (he j hj).symm)
  ·rcases Nat.lt_or_ge i r with h3 | h3
   ·rw [QO h3]
    exact ((spR' i (by omega)).comb (R i c) spP').congr (fun _ _ _ _ => rfl) (fun j hj => by rw [hR i j h3 hj]; exact back (R i) j)
   ·obtain ⟨u, rfl⟩ : ∃ u, i = r + u := ⟨i - r, by omega⟩
    rw [QE]
    by_cases hu : u = t
    ·subst hu
     refine (spP'.smul (A u c)).congr (fun _ _ _ _ => rfl) (fun j hj => ?_)
     rw [hP j hj, ← mul_assoc, mul_inv _ h0, one_mul]
    ·obtain ⟨s, hs, he⟩ := h2 u (by omega) hu
     exact ((spA' s hs).comb (A u c) spP').congr (fun _ _ _ _ => rfl) (fun j hj => by rw [he j hj]; exact back (A u) j)
theorem Elm.done {m n c r a : Nat} {A0 R A : Mx K} {p : Nat → Nat} (h : Elm m n A0 c r R p a A) (hd : c = n ∨ a = 0) : Ech r n R p ∧ Same r m n R A0 := by
 refine ⟨h.ech, Same.trans ⟨fun i hi => ?_, fun i hi => ?_⟩ h.span⟩
 ·have := Sp.row (n := n) (A := stack r R A) (i := i) (r := r + a) (by omega)
  rwa [QO hi] at this
 ·rcases Nat.lt_or_ge i r with h3 | h3
  ·rw [QO h3]; exact Sp.row h3
  ·obtain ⟨u, rfl⟩ : ∃ u, i = r + u := ⟨i - r, by omega⟩
   rw [QE]
   have hu : u < a := by omega
   refine Sp.zero.congr (fun _ _ _ _ => rfl) (fun j hj => (h.zero u j hu ?_).symm)
   rcases hd with hd | hd <;> omega
end
def gro (k : Nat) : Nat → Nat
 | 0 => k
 | r + 1 => 4 * gro k r + 4
theorem gro_le {k r s : Nat} (h : r ≤ s) : gro k r ≤ gro k s := by
 induction s with
 | zero => have : r = 0 := by omega
           subst this; exact Nat.le_refl _
 | succ s ih =>
  rcases Nat.lt_or_eq_of_le h with h1 | h1
  ·have := ih (by omega); show gro k r ≤ 4 * gro k s + 4; omega
  ·rw [h1]; exact Nat.le_refl _
end Go.La

/- Elimination in place. No condition. -/
namespace Go.La
section
variable {K : Type} [Fld K]
omit [Fld K] in
theorem swap_self (A : Mx K) (p : Nat) : swap A p p = A := by
 funext i
 unfold swap
 by_cases h : i = p
 ·rw [if_pos h, h]
 ·rw [if_neg h, if_neg h]
theorem Elm.stepP {m n c r i : Nat} {A0 g g' : Mx K} {p p' : Nat → Nat} {P : Nat → K} (h : Elm m n A0 c r g p (m - r) (fun s => g (r + s))) (hr : r ≤ i) (hi : i < m) (hc : c < n) (h0 : g i c ≠ 0)
  (hP : ∀ j, j < n → P j = (g i c)⁻¹ * g i j) (hrow : ∀ j, j < n → g' r j = P j) (hoth : ∀ t, t < m → t ≠ r → ∀ j, j < n → g' t j = clr (swap g r i t) P c j)
  (hp : ∀ i, i < r → p' i = p i) (hpr : p' r = c) : Elm m n A0 (c + 1) (r + 1) g' p' (m - (r + 1)) (fun s => g' (r + 1 + s)) := by
 have e : m - (r + 1) = m - r - 1 := by omega
 rw [e]
 have hri : r + (i - r) = i := by omega
 refine h.step (t := i - r) (P := P) hc (by omega) (by show g (r + (i - r)) c ≠ 0; rw [hri]; exact h0) (fun j hj => by show P j = (g (r + (i - r)) c)⁻¹ * g (r + (i - r)) j; rw [hri]; exact hP j hj)
  (fun s j hs hj => by rw [hoth s (by omega) (by omega) j hj, swap_ne (by omega) (by omega)]) hrow hp hpr (fun s hs => ?_) (fun u hu hne => ?_)
 ·by_cases h1 : r + 1 + s = i
  ·refine ⟨0, by omega, by omega, fun j hj => ?_⟩
   show g' (r + 1 + s) j = clr (g (r + 0)) P c j
   rw [hoth _ (by omega) (by omega) j hj, h1, swap_at.2]; rfl
  ·refine ⟨s + 1, by omega, by omega, fun j hj => ?_⟩
   show g' (r + 1 + s) j = clr (g (r + (s + 1))) P c j
   rw [hoth _ (by omega) (by omega) j hj, swap_ne (by omega) h1, show r + (s + 1) = r + 1 + s by omega]
 ·by_cases h1 : u = 0
  ·subst h1
   refine ⟨i - r - 1, by omega, fun j hj => ?_⟩
   show g' (r + 1 + (i - r - 1)) j = clr (g (r + 0)) P c j
   rw [show r + 1 + (i - r - 1) = i by omega, hoth _ hi (by omega) j hj, swap_at.2]; rfl
  ·refine ⟨u - 1, by omega, fun j hj => ?_⟩
   show g' (r + 1 + (u - 1)) j = clr (g (r + u)) P c j
   rw [show r + 1 + (u - 1) = r + u by omega, hoth _ (by omega) (by omega) j hj, swap_ne (by omega) (by omega)]
def gst (g : Mx K) (P : Nat → K) (c r j : Nat) : Mx K := fun t => if t = r then P else if t < j then clr (g t) P c else g t
theorem gst_r {g : Mx K} {P : Nat → K} {c r j : Nat} : gst g P c r j r = P := if_pos rfl
theorem gst_lt {g : Mx K} {P : Nat → K} {c r j t : Nat} (h : t ≠ r) (h2 : t < j) : gst g P c r j t = clr (g t) P c := by unfold gst; rw [if_neg h, if_pos h2]
theorem gst_ge {g : Mx K} {P : Nat → K} {c r j t : Nat} (h : t ≠ r) (h2 : ¬ t < j) : gst g P c r j t = g t := by unfold gst; rw [if_neg h, if_neg h2]
theorem QeU {g : Mx K} {P : Nat → K} {c r : Nat} : gst g P c r 0 = setr g r P := by
 funext t
 by_cases h : t = r
 ·subst h; rw [gst_r, Qm]
 ·rw [gst_ge h (Nat.not_lt_zero t), setr_ne _ _ h]
theorem gst_next_r {g : Mx K} {P : Nat → K} {c r : Nat} : gst g P c r (r + 1) = gst g P c r r := by
 funext t
 by_cases h : t = r
 ·subst h; rw [gst_r, gst_r]
 ·by_cases h2 : t < r
  ·rw [gst_lt h h2, gst_lt h (by omega)]
  ·rw [gst_ge h h2, gst_ge h (by omega)]
theorem gst_next {g : Mx K} {P : Nat → K} {c r j : Nat} (hj : j ≠ r) : gst g P c r (j + 1) = setr (gst g P c r j) j (fun l => gst g P c r j j l + -(g j c) * gst g P c r j r l) := by
 funext t
 by_cases h : t = j
 ·subst h; rw [Qm, gst_lt hj (by omega), gst_ge hj (by omega), gst_r]; rfl
 ·rw [setr_ne _ _ h]
  by_cases h1 : t = r
  ·subst h1; rw [gst_r, gst_r]
  ·by_cases h2 : t < j
   ·rw [gst_lt h1 h2, gst_lt h1 (by omega)]
   ·rw [gst_ge h1 h2, gst_ge h1 (by omega)]
theorem Qch {n c r : Nat} {g : Mx K} {P : Nat → K} {F : Mx K → K} (hF : Alt n F) (hr : r < n) : ∀ j, j ≤ n → F (gst g P c r j) = F (setr g r P)
 | 0, _ => by rw [QeU]
 | j + 1, hj => by
  rw [← Qch hF hr j (by omega)]
  by_cases h : j = r
  ·subst h; rw [gst_next_r]
  ·rw [gst_next h]
   exact hF.comb (by omega) hr h _ _
theorem Rop.swap {n : Nat} {d : K} {A0 g : Mx K} (h : Rop n d A0 g) {r i : Nat} (hr : r < n) (hi : i < n) (hne : r ≠ i) : Rop n (-d) A0 (La.swap g r i) := ⟨fun e => h.1 (by rw [← Ja d, e, neg_zero]), fun F hF => by
 rw [h.2 F hF, hF.swap hr hi hne, neg_mul, mul_neg, Ja]⟩
theorem Rop.step {n c r : Nat} {d : K} {A0 g : Mx K} {P : Nat → K} (h : Rop n d A0 g) (hr : r < n) (h0 : g r c ≠ 0) (hP : ∀ j, j < n → P j = (g r c)⁻¹ * g r j) : Rop n (d * g r c) A0 (gst g P c r n) := ⟨mul_ne h.1 h0, fun F hF => by
 have e : F (setr g r P) = (g r c)⁻¹ * F g := by
  rw [← hF.scale hr]
  exact hF.congr fun i j _ hj => by
   by_cases e : i = r
   ·subst e; rw [Qm, Qm]; exact hP j hj
   ·rw [setr_ne _ _ e, setr_ne _ _ e]
 rw [h.2 F hF, Qch hF hr n (Nat.le_refl n), e, mul_assoc, ← mul_assoc (g r c), mul_inv _ h0, one_mul]⟩
structure Red (m n cl r : Nat) (A0 R : Mx K) (p : Nat → Nat) (d : K) : Prop where
 le : r ≤ m
 ech : Ech r n R p
 below : ∀ i, i < r → p i < cl
 zero : ∀ i j, r ≤ i → i < m → j < cl → R i j = 0
 span : Same m m n R A0
 rop : m = n → Rop n d A0 R
theorem Elm.red {m n c cl r : Nat} {A0 g : Mx K} {p : Nat → Nat} {d : K} (h : Elm m n A0 c r g p (m - r) (fun s => g (r + s))) (hr : r ≤ m) (hc : c ≤ cl) (hd : c = cl ∨ r = m) (hrop : m = n → Rop n d A0 g) : Red m n cl r A0 g p d where
 le := hr
 ech := h.ech
 below i hi := by have := h.below i hi; omega
 zero i j h1 h2 h3 := by
  have := h.zero (i - r) j (by omega) (by rcases hd with h4 | h4 <;> omega)
  rwa [show r + (i - r) = i by omega] at this
 span := by
  have e : r + (m - r) = m := by omega
  have h1 := h.span
  rw [e] at h1
  have e2 : stack r g (fun s => g (r + s)) = g := by
   funext i
   unfold stack
   by_cases hi : i < r
   ·rw [if_pos hi]
   ·rw [if_neg hi]; show g (r + (i - r)) = g i; rw [show r + (i - r) = i by omega]
  rwa [e2] at h1
 rop := hrop
end
end Go.La
