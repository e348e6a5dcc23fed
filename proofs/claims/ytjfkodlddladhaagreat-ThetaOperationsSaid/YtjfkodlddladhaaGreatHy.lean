/- The builtin copy into a part of an own row of elements of one cell. Program in general; no condition. -/
import Derived.Test.YtjfkodlddladhaaGreatM19
import Derived.Laws.CopyRow
namespace Go.Hp
variable {P : Program} {T : TT} {K : Kont} {N : Nat} {G : World} {E : Env} {U : UH} {M : MH} {L : List Oper} {l : List Ent} {f : Bool} {i : Nat} {o : Oper}
theorem flat_app (a b : List Value) : flat (a ++ b) = flat a ++ flat b := List.flatMap_append ..
def spl (vs us : List Value) (lo : Nat) : List Value := vs.take lo ++ us ++ vs.drop (lo + us.length)
theorem spl_len {vs us : List Value} {lo : Nat} (h : lo + us.length ≤ vs.length) : (spl vs us lo).length = vs.length := by
 unfold spl
 rw [List.length_append, List.length_append, List.length_take, List.length_drop]
 omega
theorem spl_mem {vs us : List Value} {lo : Nat} {v : Value} (h : v ∈ spl vs us lo) : v ∈ vs ∨ v ∈ us := by
 unfold spl at h
 rcases List.mem_append.1 h with h | h
 ·rcases List.mem_append.1 h with h | h
  ·exact .inl (List.mem_of_mem_take h)
  ·exact .inr h
 ·exact .inl (List.mem_of_mem_drop h)
theorem spl_at {vs us : List Value} {lo : Nat} (h : lo + us.length ≤ vs.length) (k : Nat) : (spl vs us lo)[k]? = if lo ≤ k ∧ k < lo + us.length then us[k - lo]? else vs[k]? := by
 unfold spl
 by_cases e1 : k < lo
 ·rw [if_neg (by omega), List.append_assoc, List.getElem?_append_left (by rw [List.length_take]; omega), List.getElem?_take_of_lt e1]
 ·by_cases e2 : k < lo + us.length
  ·rw [if_pos ⟨by omega, e2⟩, List.getElem?_append_left (by rw [List.length_append, List.length_take]; omega), List.getElem?_append_right (by rw [List.length_take]; omega), List.length_take, Nat.min_eq_left (by omega)]
  ·rw [if_neg (by omega), List.getElem?_append_right (by rw [List.length_append, List.length_take]; omega), List.length_append, List.length_take, Nat.min_eq_left (by omega), List.getElem?_drop]
   congr 1
   omega
theorem sl_copyR {d t e bs bt bt' lo n c m c' : Nat} {x y : Operand} {z z' : Value} {ek : TK} {D X : MH} {p q : Option Addr} {vs us : List Value} (hS : Sym P T) (ho : o.op = .call { callee := .builtin .copy, args := #[x, y], argTypes := #[t, t] })
  (hx : ev E x = some (.slice (if c = lo then p else p.map (·.add (lo * 1))) (n - lo) (c - lo))) (hy : ev E y = some (.slice q m c')) (hT : lkT T t = some ⟨.slice e, bt, bt', z'⟩) (he : lkT T e = some ⟨ek, 1, bs, z⟩)
  (hrow : RowO e 1 D p n c vs) (hM : M.Perm (D ++ X)) (hu : RowAt U M 1 q m us) (h1 : ∀ v ∈ us, v.cells.toList.all Value.oneCell' = true) (hm0 : 0 < m) (hfit : lo + m ≤ n)
  (hg : gok L E o.guard = some true) (hk : xB f T o = true) (hd : o.dst = some d) (hN : Nat.blt d N = true)
  (h : ∀ D', RowO e 1 D' p n c (spl vs us lo) → SL P T L K N G l ((d, .int .i64 (m : Int)) :: E) U (D' ++ X)) : SL P T L K N G ((f, i, o) :: l) E U M := by
 refine sl_perm ?_ hM
 have hu2 := hu.perm hM
 have hul := hu.len
 obtain ⟨hw, hvs, hr⟩ := hrow
 cases hw with
 | nil => omega
 | @row b _ _ r hn hc hm =>
  have hrl := hr _ (List.mem_singleton.2 rfl) r rfl
  obtain ⟨dd, hdd, hkk⟩ := (hS.at hT).und
  have := kindOf_slice hkk
  subst this
  have hspl := spl_len (vs := r) (us := us) (lo := lo) (by omega)
  have hone : ∀ v ∈ spl r us lo, v.cells.toList.length = 1 := fun v hv => by
   rcases spl_mem hv with hv | hv
   ·exact hrl v hv
   ·exact hu.size v hv
  have htake : (spl r us lo).take n = spl (r.take n) us lo := by
   refine List.ext_getElem? fun k => ?_
   rw [List.getElem?_take, spl_at (by omega), spl_at (by rw [List.length_take]; omega), List.getElem?_take]
   by_cases e1 : k < n
   ·rw [if_pos e1, if_pos e1]
   ·rw [if_neg e1, if_neg e1, if_neg (by omega)]
  have hrow' : RowO e 1 [(b, .arr (spl r us lo), e)] (some ⟨b, 0, none⟩) n c (spl (r.take n) us lo) := by
   have h2 := RowE.row (e := e) (b := b) (n := n) (c := c) (r := spl r us lo) hn (by rw [hspl]; exact hc) hm
   rw [htake] at h2
   refine ⟨h2, fun u hu3 => ?_, fun zz hzz r' hr' => ?_⟩
   ·rw [← htake] at hu3; exact hone u (List.mem_of_mem_take hu3)
   ·simp only [List.mem_singleton] at hzz
    subst hzz
    simp only [Blk.arr.injEq] at hr'
    subst hr'
    exact hone
  refine sl_eff (R := fun v U' M' => v = .int .i64 (m : Int) ∧ U' = U ∧ M' = [(b, .arr (spl r us lo), e)] ++ X) hg hk hd hN (fun a w ha hw => ?_) (fun v U' M' ⟨h1, h2, h3⟩ => by subst h1 h2 h3; exact h _ hrow')
  have hb := hw.own_at (i := 0) rfl
  obtain ⟨a0, ha0, hsrc⟩ := hu2.news (G := G) (by omega) (by omega)
  subst ha0
  obtain ⟨inf, hi0, hi, hiz, hsz, hby⟩ := (hS.at he).run_info w
  have hfl := flat_length hu.size
  rw [Nat.mul_one, hul] at hfl
  have hrun := run_copy_row P w t t o.type e b (0 + lo * 1) (n - lo) (c - lo) a0 m c' (Blk.arr r).cells e (flat us) hdd (by rw [hi]; exact congrArg some hsz) hb (by rw [hfl]; exact (Nat.min_eq_left (by omega)).symm) (fun j v hj => hsrc w hw j v hj) (by
   simp only [Blk.cells, List.size_toArray]
   rw [flat_length hrl, hfl]; omega) (ones_flat h1)
  have hset := hw.setRow (i := 0) rfl (k' := .arr (spl r us lo)) (cs := ((Blk.arr r).cells.toList.take (0 + lo * 1) ++ flat us ++ (Blk.arr r).cells.toList.drop (0 + lo * 1 + (flat us).length)).toArray) (by
   simp only [Blk.cells]
   refine congrArg List.toArray ?_
   have e1 := flat_take (s := 1) lo hrl
   have e2 := flat_drop (s := 1) (lo + m) hrl
   rw [Nat.mul_one] at e1 e2
   rw [Nat.zero_add, Nat.mul_one, hfl]
   unfold spl
   rw [hul]
   show _ = flat _
   rw [flat_app, flat_app]
   exact congr (congrArg _ (congrArg (· ++ flat us) e1)) e2)
  rw [if_neg (by omega : ¬ c = lo), Option.map_some, add_lit] at hx
  rw [show (flat us).length = m from hfl] at hrun
  refine ⟨_, _, U, _, ?_, hset, rfl, rfl, rfl⟩
  rw [hfl]
  simp only [execOp, ho, resolve, List.map_toArray, List.map_cons, List.map_nil, ha.eval hx, ha.eval hy, Sem.run_bind, Sem.run_pure, Result.andThen_ok, invoke, builtin, hrun]
  rfl
end Go.Hp
