/- The rules with which the functions are walked, fifth part: literals of slices, append, strings. Program in general; no condition. -/
import Derived.Test.YtcakainebimmdaaHe
namespace Go.Hp
variable {P : Program} {T : TT} {K : Kont} {N : Nat} {G : World} {E : Env} {U : UH} {M : MH} {L : List Oper} {l : List Ent} {f : Bool} {i : Nat} {o : Oper}

/-! ### '[]T{x, y, ..}' -/
def enum : Nat → List Value → List (Nat × Value)
  | _, [] => []
  | k, v :: r => (k, v) :: enum (k + 1) r

theorem fill_row {s : Nat} : ∀ (vs : List Value) (pre : List Value) (k : Nat) (z : List Value), (∀ v ∈ vs, v.cells.toList.length = s) → pre.length = k * s → z.length = vs.length * s →
    Instr.fill (fun i => some (i * s, s)) (pre ++ z).toArray (enum k vs) = some (pre ++ vs.flatMap fun v => v.cells.toList).toArray
  | [], pre, k, z, _, _, hz => by
    have : z = [] := List.eq_nil_of_length_eq_zero (by simpa using hz)
    subst this
    simp [enum, Instr.fill]
  | v :: vs, pre, k, z, hv, hp, hz => by
    have h0 := hv v (List.mem_cons_self ..)
    have h0' : v.cells.size = s := by simpa using h0
    simp only [List.length_cons, Nat.add_mul, Nat.one_mul] at hz
    simp only [enum, Instr.fill]
    have h1 : (v.cells.size ≠ s || k * s + v.cells.size > (pre ++ z).toArray.size) = false := by
      simp [h0', hp, hz]
    simp only [h1, Bool.false_eq_true, if_false]
    have h2 : v.cells.zipIdx.foldl (fun (cs : Array Value) (p : Value × Nat) => cs.setIfInBounds (k * s + p.2) p.1) (pre ++ z).toArray = ((pre ++ v.cells.toList) ++ z.drop s).toArray := by
      apply Array.ext'
      have := foldl_seg v.cells.toList (pre ++ z).toArray (k * s) 0 (by rw [h0]; simp [hp, hz])
      rw [← Array.foldl_toList, Array.toList_zipIdx, this]
      simp only [setSeg, Nat.add_zero, h0, ← hp]
      rw [List.take_left, List.drop_append, List.drop_eq_nil_of_le (by omega)]
      simp
    have h3 := fill_row vs (pre ++ v.cells.toList) (k + 1) (z.drop s) (fun u hu => hv u (List.mem_cons_of_mem _ hu)) (by rw [List.length_append, hp, h0, Nat.add_mul]; omega) (by rw [List.length_drop, hz]; omega)
    rw [List.flatMap_cons, ← List.append_assoc, ← h3, ← h2]

/-- The operands of a literal of a slice: numbers 0, 1, .. -/
def seqB : Nat → List (Nat × Operand) → Bool
  | _, [] => true
  | k, (j, _) :: r => Nat.beq j k && seqB (k + 1) r
theorem seqB_enum {a : Act} (h : Has a N E) : ∀ {k : Nat} {ps : List (Nat × Operand)} {vs : List Value}, seqB k ps = true → evs E (ps.map (·.2)) = some vs → ps.map (fun p => (p.1, a.eval p.2)) = enum k vs
  | k, [], vs, _, hv => by simp [evs] at hv; simp [hv, enum]
  | k, (j, x) :: r, vs, hs, hv => by
    simp only [seqB, Bool.and_eq_true] at hs
    have e := Nat.eq_of_beq_eq_true hs.1
    subst e
    simp only [List.map_cons, evs] at hv
    split at hv
    · rename_i v hx
      split at hv
      · rename_i us hus
        simp only [Option.some.injEq] at hv
        subst hv
        simp only [List.map_cons, enum, h.eval hx, seqB_enum h hs.2 hus]
      · cases hv
    · cases hv

theorem sl_bslice {d t e len s bt bt' bs : Nat} {ps : List (Nat × Operand)} {vs : List Value} {z z' : Value} {ek : TK} (hS : Sym P T) (ho : o.op = .buildSlice t len ps.toArray) (hseq : seqB 0 ps = true) (hv : evs E (ps.map (·.2)) = some vs)
    (hT : lkT T t = some ⟨.slice e, bt, bt', z'⟩) (he : lkT T e = some ⟨ek, s, bs, z⟩) (hlen : vs.length = len) (hvs : ∀ v ∈ vs, v.cells.toList.length = s) (_hz : z.cells.toList.length = s) (hs : Nat.ble (len * s) 16777216 = true)
    (hg : gok L E o.guard = some true) (hk : cB f T o = true) (hd : o.dst = some d) (hN : Nat.blt d N = true)
    (h : ∀ b, SL P T L K N G l ((d, .slice (some ⟨b, 0, none⟩) len len) :: E) U ((b, .arr vs, e) :: M)) : SL P T L K N G ((f, i, o) :: l) E U M := by
  refine sl_mk (R := fun r U' D => ∃ b, r = .slice (some ⟨b, 0, none⟩) len len ∧ U' = U ∧ D = [(b, .arr vs, e)]) hg hk hd hN
    (fun M a w ha hw => ?_) (fun _ _ _ _ ⟨b, h1, h2, h3⟩ => by subst h1 h2 h3; exact h b)
  obtain ⟨dd, hdd, hkk⟩ := (hS.at hT).und
  have := kindOf_slice hkk
  subst this
  have hsz := (hS.at he).run_size w
  have hzr := (hS.at he).run_zero w
  have h1 := seqB_enum ha hseq hv
  have h2 : (ps.toArray.map fun (p : Nat × Operand) => (p.1, a.eval p.2)).toList = enum 0 vs := by rw [List.map_toArray]; exact h1
  have h3 : ∀ z : Array Value, Instr.fill (fun i => some (i * s, s)) ((Array.range (len * s)).map fun j => z[j % z.size]!) (enum 0 vs) = some (Blk.arr vs).cells := fun z => by
    have := fill_row vs [] 0 ((Array.range (len * s)).map fun j => z[j % z.size]!).toList hvs (by simp) (by simp [hlen])
    have e : ((Array.range (len * s)).map fun j => z[j % z.size]!) = ([] ++ ((Array.range (len * s)).map fun j => z[j % z.size]!).toList).toArray := by rw [List.nil_append, Array.toArray_toList]
    rw [e, this]; rfl
  have hle := Nat.le_of_ble_eq_true hs
  have h4 : ¬ (len * s > 2 ^ 24) := by omega
  refine ⟨_, _, _, _, ?_, ULe.refl _, hw.alloc (.arr vs) e, _, rfl, rfl, rfl⟩
  simp only [execOp, ho]
  refine (run_value (v := .slice (some ⟨w.heap.size, 0, none⟩) len len) (w' := w.alloc (.cells (Blk.arr vs).cells e)) ?_)
  by_cases h0 : len * s = 0
  · simp only [Instr.buildSlice, Sem.run_bind, run_underlying' hdd, Result.andThen_ok, hsz, if_neg h4, if_pos h0, h2, Sem.run_pure, h3]
    simp [run_newRow]
  · simp only [Instr.buildSlice, Sem.run_bind, run_underlying' hdd, Result.andThen_ok, hsz, if_neg h4, if_neg h0, h2, Sem.run_pure, hzr, h3]
    simp [run_newRow]

/-! ### append -/
/-- The cells of elements of one size. -/
abbrev flat (l : List Value) : List Value := l.flatMap fun v => v.cells.toList

theorem zero_flat {z : Value} {s : Nat} (hs : z.cells.toList.length = s) (h0 : 0 < s) (n : Nat) : Builtin.zeroCells z.cells n = (flat (List.replicate n z)).toArray := by
  have h := made_flat hs h0 n
  have hz : z.cells.size = s := by simpa using hs
  simp only [madeCells, Blk.cells] at h
  simp only [Builtin.zeroCells, hz]
  rw [hz] at h
  exact h

/-- A slice that the call itself has made: nil, or the head of an owned row. -/
inductive Row (e : Nat) : MH → Option Addr → Nat → Nat → List Value → Prop where
  | nil : Row e [] none 0 0 []
  | row {b n c : Nat} {r : List Value} (hn : n ≤ c) (hc : r.length = c) (hm : c ≤ 9223372036854775807) : Row e [(b, .arr r, e)] (some ⟨b, 0, none⟩) n c (r.take n)

theorem Row.len {e : Nat} {D : MH} {p : Option Addr} {n c : Nat} {l : List Value} (h : Row e D p n c l) : l.length = n ∧ n ≤ c ∧ c ≤ 9223372036854775807 := by
  cases h with
  | nil => exact ⟨rfl, Nat.le_refl _, by omega⟩
  | row hn hc hm => exact ⟨by rw [List.length_take, hc]; omega, hn, hm⟩

theorem grown_ok {w : World} {need old e : Nat} (h : need ≤ 9223372036854775807) : need ≤ grownCap w need old e ∧ grownCap w need old e ≤ 9223372036854775807 := by
  have h1 := grownCap_ge w need old e
  have h2 := grownCap_le_maxLen w need old e (by simpa [maxLen] using h)
  simp only [maxLen] at h2
  exact ⟨h1, by omega⟩

/-- What append does to a slice of the call's own: the cells appended are read at an address. -/
theorem run_append {e s bs t ty : Nat} {z : Value} {ti : TI} (hS : TI.ok P e ti) (hts : ti.size = s) (htb : ti.bytes = bs) (htz : ti.zero = z) (ht : P.underlying t = some (.slice e)) (hz : z.cells.toList.length = s) (h0 : 0 < s) {D M0 : MH} {p : Option Addr} {n c : Nat} {vl : List Value} (hrow : Row e D p n c vl) (hvl : ∀ v ∈ vl, v.cells.toList.length = s)
    (hr : ∀ k, k ∈ D → ∀ r, k.2.1 = .arr r → ∀ v ∈ r, v.cells.toList.length = s)
    {w : World} (hw : Mem G U (D ++ M0) w) {q : Option Addr} {m c' : Nat} {news : List Value} (hm : news.length = m) (hnews : ∀ v ∈ news, v.cells.toList.length = s) (h1 : ∀ u ∈ flat news, u.oneCell' = true)
    (hq : m ≠ 0 → ∃ a, q = some a ∧ ∀ j u, (flat news)[j]? = some u → w.cell? (a.add j) = some u) (hbound : (n + m) * bs ≤ 140737488355328) (h63 : n + m ≤ 9223372036854775807) :
    ∃ w' D' p' cc r, (Builtin.append_ #[t, t] ty #[.slice p n c, .slice q m c']).run P w = .ok (.slice p' (n + m) cc) w' ∧ Row e D' p' (n + m) cc r ∧ r = vl ++ news ∧ Mem G U (D' ++ M0) w' ∧ (∀ k, k ∈ D' → ∀ r, k.2.1 = .arr r → ∀ v ∈ r, v.cells.toList.length = s) := by
  obtain ⟨inf, _, hi, hiz, hsz, hby⟩ := hS.run_info w
  have hsz' : inf.size = s := by rw [hsz, hts]
  have hby' : inf.bytes = bs := by rw [hby, htb]
  have hiz' : inf.zero = some z := by rw [hiz, htz]
  have hnl : (flat news).length = m * inf.size := by rw [flat_length hnews, hm, hsz']
  have hlenvl := hrow.len
  by_cases hm0 : m = 0
  · -- nothing is appended
    subst hm0
    have hnil : news = [] := List.eq_nil_of_length_eq_zero hm
    subst hnil
    refine ⟨w, D, p, c, vl, ?_, hrow, by simp, hw, hr⟩
    have hle : n + 0 ≤ c := by omega
    have hf : (Builtin.firstCells inf.size 0 (.slice q 0 c')).run P w = .ok #[] w := by
      cases q with
      | none => simp [Builtin.firstCells]
      | some a => simp [Builtin.firstCells, loadCells, loadCellsFrom]
    cases p with
    | none => simp [Builtin.append_, run_underlying' ht, sizeOf, typeInfo, hi, Builtin.lenOf, hlenvl.2.1, hf]
    | some a => simp [Builtin.append_, run_underlying' ht, sizeOf, typeInfo, hi, Builtin.lenOf, hlenvl.2.1, hf, storeCells]
  · obtain ⟨a, rfl, ha⟩ := hq hm0
    by_cases hroom : n + m ≤ c
    · -- there is room
      cases hrow with
      | nil => omega
      | @row b _ _ r hn hc hcm =>
        have hb := hw.own_at (i := 0) (by rfl : ((b, Blk.arr r, e) :: M0)[0]? = _)
        have hrl : ∀ v ∈ r, v.cells.toList.length = s := hr _ (List.mem_singleton.2 rfl) r rfl
        have hcs : (Blk.arr r).cells.size = c * s := by simp only [Blk.cells, List.size_toArray, flat_length hrl, hc]
        have hfit : n * inf.size + (flat news).length ≤ (Blk.arr r).cells.size := by
          rw [hnl, hcs, hsz', ← Nat.add_mul]; exact Nat.mul_le_mul_right _ hroom
        have hrun := run_append_room (P := P) w t ty e inf ht hi b n c (Blk.arr r).cells hb a m c' (flat news) hnl ha h1 hroom hfit
        refine ⟨_, [(b, .arr (r.take n ++ news ++ r.drop (n + m)), e)], _, c, _, hrun, Row.row (r := r.take n ++ news ++ r.drop (n + m)) hroom ?_ hcm, ?_, ?_, ?_⟩
        · simp only [List.length_append, List.length_take, List.length_drop, hm, hc]; omega
        · exact List.take_left' (by rw [List.length_append, List.length_take, hc, hm, Nat.min_eq_left hn])
        · refine hw.setRow (i := 0) (by rfl : ((b, Blk.arr r, e) :: M0)[0]? = _) (k' := .arr (r.take n ++ news ++ r.drop (n + m))) ?_
          simp only [Blk.cells, hnl, hsz']
          apply congrArg
          have e1 := flat_take (l := r) n hrl
          have e2 := flat_drop (l := r) (n + m) hrl
          simp only [← Nat.add_mul, e1, e2, List.flatMap_append]
        · intro k hk r' hk' v hv
          simp only [List.mem_singleton] at hk
          subst hk
          simp only [Blk.arr.injEq] at hk'
          subst hk'
          simp only [List.mem_append] at hv
          rcases hv with (hv | hv) | hv
          · exact hrl v (List.mem_of_mem_take hv)
          · exact hnews v hv
          · exact hrl v (List.mem_of_mem_drop hv)
    · -- a new row
      have hneed : ((n + m : Nat) : Int) ≤ 9223372036854775807 := by omega
      have hg := grown_ok (w := w) (old := c) (e := e) h63
      have hfitb := growslice_fits (need := n + m) (old := c) (bytes := inf.bytes) (by omega) (by rw [hby']; exact hbound)
      have hold : ∀ (cs : Array Value) (k : Nat), cs = (flat (vl ++ news ++ List.replicate k z)).toArray → (n + m) + k = grownCap w (n + m) c e →
          Row e [(w.heap.size, .arr (vl ++ news ++ List.replicate k z), e)] (some ⟨w.heap.size, 0, none⟩) (n + m) (grownCap w (n + m) c e) (vl ++ news) ∧
          Mem G U ((w.heap.size, .arr (vl ++ news ++ List.replicate k z), e) :: M0) (w.drew.alloc (.cells cs e)) := by
        intro cs k hcs hk
        refine ⟨?_, ?_⟩
        · have := Row.row (e := e) (b := w.heap.size) (n := n + m) (c := grownCap w (n + m) c e) (r := vl ++ news ++ List.replicate k z) (by omega) (by simp only [List.length_append, List.length_replicate, hm, hlenvl.1]; omega) hg.2
          rwa [List.take_append, List.take_of_length_le (by simp [hm, hlenvl.1]), List.length_append, hm, hlenvl.1, Nat.sub_self, List.take_zero, List.append_nil] at this
        · rw [hcs]
          have h2 := ((hw.anti (ULe.refl U) (List.sublist_append_right D M0)).drawn (w.drawn + 1)).alloc (.arr (vl ++ news ++ List.replicate k z)) e
          exact h2
      have hlast : ∀ k', k' ∈ [(w.heap.size, Blk.arr (vl ++ news ++ List.replicate (grownCap w (n + m) c e - (n + m)) z), e)] → ∀ r, k'.2.1 = .arr r → ∀ v ∈ r, v.cells.toList.length = s := by
        intro k' hk' r hr' v hv
        simp only [List.mem_singleton] at hk'
        subst hk'
        simp only [Blk.arr.injEq] at hr'
        subst hr'
        simp only [List.mem_append] at hv
        rcases hv with (hv | hv) | hv
        · exact hvl v hv
        · exact hnews v hv
        · rw [(List.mem_replicate.1 hv).2]; exact hz
      cases hrow with
      | nil =>
        have hrun := run_append_nil (P := P) w t ty e inf z ht hi hiz' a m c' (flat news) hnl ha (by omega) (by omega) (by rw [hby']; simp only [Nat.zero_add] at hbound; omega)
        simp only [Nat.zero_add] at hold hlast hg ⊢
        obtain ⟨h2, h3⟩ := hold ((flat news).toArray ++ Builtin.zeroCells z.cells (grownCap w m 0 e - m)) (grownCap w m 0 e - m) (by
          rw [zero_flat hz h0]; simp) (by omega)
        exact ⟨_, _, _, _, _, hrun, h2, by simp, h3, hlast⟩
      | @row b _ _ r hn hc hcm =>
        have hrl : ∀ v ∈ r, v.cells.toList.length = s := hr _ (List.mem_singleton.2 rfl) r rfl
        have holds : ∀ j u, (flat (r.take n))[j]? = some u → w.cell? ((⟨b, 0, none⟩ : Addr).add j) = some u := by
          intro j u hu
          rw [add_lit, hw.cellM (i := 0) (by rfl : ((b, Blk.arr r, e) :: M0)[0]? = _)]
          simp only [Nat.zero_add, Blk.cells, List.getElem?_toArray]
          have hu' := hu
          unfold flat at hu'
          rw [← flat_take n hrl, List.getElem?_take] at hu'
          clear hu
          have hu := hu'
          clear hu'
          split at hu
          · exact hu
          · cases hu
        have hrun := run_append_grow (P := P) w t ty e inf z ht hi hiz' ⟨b, 0, none⟩ n c (flat (r.take n)) (by rw [flat_length hvl, hlenvl.1, hsz']) holds a m c' (flat news) hnl ha (by omega) hneed hfitb
        obtain ⟨h2, h3⟩ := hold ((flat (r.take n)).toArray ++ (flat news).toArray ++ Builtin.zeroCells z.cells (grownCap w (n + m) c e - (n + m))) (grownCap w (n + m) c e - (n + m)) (by
          rw [zero_flat hz h0]; simp) (by omega)
        exact ⟨_, _, _, _, _, hrun, h2, rfl, h3, hlast⟩

/-- 'append(x, y...)' onto a slice of the call's own, D at the head of the owned memory; y is read from anywhere. -/
theorem sl_append {d t e s bs bt bt' : Nat} {x y : Operand} {z z' : Value} {ek : TK} {D M0 : MH} {p q : Option Addr} {n c m c' : Nat} {vl news : List Value} (hS : Sym P T) (ho : o.op = .call { callee := .builtin .append, args := #[x, y], argTypes := #[t, t] })
    (hx : ev E x = some (.slice p n c)) (hy : ev E y = some (.slice q m c')) (hT : lkT T t = some ⟨.slice e, bt, bt', z'⟩) (he : lkT T e = some ⟨ek, s, bs, z⟩) (hz : z.cells.toList.length = s) (h0 : Nat.blt 0 s = true)
    (hM : M = D ++ M0) (hrow : Row e D p n c vl) (hvl : ∀ v ∈ vl, v.cells.toList.length = s) (hr : ∀ k, k ∈ D → ∀ r, k.2.1 = .arr r → ∀ v ∈ r, v.cells.toList.length = s)
    (hm : news.length = m) (hnews : ∀ v ∈ news, v.cells.toList.length = s) (h1 : ∀ u ∈ flat news, u.oneCell' = true)
    (hq : m ≠ 0 → ∃ a, q = some a ∧ ∀ w, Mem G U M w → ∀ j u, (flat news)[j]? = some u → w.cell? (a.add j) = some u) (hbound : (n + m) * bs ≤ 140737488355328) (h63 : n + m ≤ 9223372036854775807)
    (hg : gok L E o.guard = some true) (hk : f = false) (hd : o.dst = some d) (hN : Nat.blt d N = true)
    (h : ∀ p' cc D', Row e D' p' (n + m) cc (vl ++ news) → (∀ k, k ∈ D' → ∀ r, k.2.1 = .arr r → ∀ v ∈ r, v.cells.toList.length = s) → SL P T L K N G l ((d, .slice p' (n + m) cc) :: E) U (D' ++ M0)) : SL P T L K N G ((f, i, o) :: l) E U M := by
  subst hM
  refine sl_eff (R := fun r U' M' => ∃ p' cc D', r = .slice p' (n + m) cc ∧ U' = U ∧ M' = D' ++ M0 ∧ Row e D' p' (n + m) cc (vl ++ news) ∧ (∀ k, k ∈ D' → ∀ r, k.2.1 = .arr r → ∀ v ∈ r, v.cells.toList.length = s)) hg (by rw [hk]; rfl) hd hN
    (fun a w ha hw => ?_) (fun _ _ _ ⟨p', cc, D', h1, h2, h3, h4, h5⟩ => by subst h1 h2 h3; exact h p' cc D' h4 h5)
  obtain ⟨dd, hdd, hkk⟩ := (hS.at hT).und
  have := kindOf_slice hkk
  subst this
  obtain ⟨w', D', p', cc, r, hrun, hrow', rfl, hm', hr'⟩ := run_append (ty := o.type) (hS.at he) rfl rfl rfl hdd hz (Nat.le_of_ble_eq_true h0) hrow hvl hr hw (c' := c') hm hnews h1 (fun hm0 => by
    obtain ⟨a, ha, hb⟩ := hq hm0
    exact ⟨a, ha, hb w hw⟩) hbound h63
  refine ⟨_, w', U, _, ?_, hm', p', cc, D', rfl, rfl, rfl, hrow', hr'⟩
  simp only [execOp, ho, resolve, List.map_toArray, List.map_cons, List.map_nil, ha.eval hx, ha.eval hy, Sem.run_bind, Sem.run_pure, Result.andThen_ok, invoke, builtin, hrun]

end Go.Hp
