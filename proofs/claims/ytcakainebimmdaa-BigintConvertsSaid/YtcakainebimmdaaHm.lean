/- The rules with which the functions are walked, second part: memory, calls, control. Program in general; no condition. -/
import Derived.Test.YtcakainebimmdaaH
namespace Go.Hp

/-! ### memory -/
inductive Blk where
  | var (v : Value)
  | arr (l : List Value)

def Blk.cells : Blk → Array Value
  | .var v => v.cells
  | .arr l => (l.flatMap fun v => v.cells.toList).toArray

abbrev MH := List (Nat × Blk × Nat)

def ULe (U U' : UH) : Prop := ∀ k o, U k = some o → U' k = some o
theorem ULe.refl (U : UH) : ULe U U := fun _ _ h => h
theorem ULe.trans {a b c : UH} (h : ULe a b) (k : ULe b c) : ULe a c := fun i o ho => k i o (h i o ho)

def UH.cell? (U : UH) (a : Addr) : Option Value :=
  match U a.block with
  | some (.cells c _ _) => if a.spot.isSome then none else c[a.off]?
  | _ => none
theorem ULe.cell {U U' : UH} (h : ULe U U') {a : Addr} {v : Value} (hv : U.cell? a = some v) : U'.cell? a = some v := by
  unfold UH.cell? at *
  cases hb : U a.block with
  | none => simp [hb] at hv
  | some o => rw [h _ _ hb]; rw [hb] at hv; exact hv

structure Mem (G : World) (U : UH) (M : MH) (w : World) : Prop where
  os : w.os = G.os
  tape : w.tape = G.tape
  output : w.output = G.output
  old : ∀ k o, U k = some o → w.heap[k]? = some o
  own : ∀ e ∈ M, w.heap[e.1]? = some (.cells e.2.1.cells e.2.2 (0, 0)) ∧ U e.1 = none
  nd : M.Pairwise (fun a b => a.1 ≠ b.1)

theorem Mem.anti {G : World} {U U' : UH} {M M' : MH} {w : World} (h : Mem G U' M' w) (hU : ULe U U') (hM : M.Sublist M') : Mem G U M w := by
  refine ⟨h.os, h.tape, h.output, fun k o ho => h.old k o (hU k o ho), fun e he => ?_, h.nd.sublist hM⟩
  obtain ⟨h1, h2⟩ := h.own e (hM.subset he)
  refine ⟨h1, ?_⟩
  cases hu : U e.1 with
  | none => rfl
  | some o => rw [hU _ _ hu] at h2; cases h2

theorem Mem.perm {G : World} {U : UH} {M M' : MH} {w : World} (h : Mem G U M w) (hp : M.Perm M') : Mem G U M' w :=
  ⟨h.os, h.tape, h.output, h.old, fun e he => h.own e (hp.mem_iff.2 he), (hp.pairwise_iff (fun h => Ne.symm h)).1 h.nd⟩

theorem Mem.drawn {G : World} {U : UH} {M : MH} {w : World} (h : Mem G U M w) (n : Nat) : Mem G U M { w with drawn := n } :=
  ⟨h.os, h.tape, h.output, h.old, h.own, h.nd⟩

theorem Mem.cellU {G : World} {U : UH} {M : MH} {w : World} (h : Mem G U M w) {a : Addr} {v : Value} (hv : U.cell? a = some v) : w.cell? a = some v := by
  unfold UH.cell? at hv
  unfold World.cell?
  cases hb : U a.block with
  | none => simp [hb] at hv
  | some o => rw [h.old _ _ hb]; rw [hb] at hv; exact hv

theorem Mem.own_at {G : World} {U : UH} {M : MH} {w : World} (h : Mem G U M w) {i b t : Nat} {k : Blk} (hi : M[i]? = some (b, k, t)) : w.heap[b]? = some (.cells k.cells t (0, 0)) :=
  (h.own _ (List.mem_of_getElem? hi)).1

theorem Mem.cellM {G : World} {U : UH} {M : MH} {w : World} (h : Mem G U M w) {i b t : Nat} {k : Blk} (hi : M[i]? = some (b, k, t)) (o : Nat) : w.cell? ⟨b, o, none⟩ = k.cells[o]? := by
  simp [World.cell?, h.own_at hi]

theorem Mem.alloc {G : World} {U : UH} {M : MH} {w : World} (h : Mem G U M w) (k : Blk) (t : Nat) : Mem G U ((w.heap.size, k, t) :: M) (w.alloc (.cells k.cells t)) := by
  have hlt : ∀ j o, w.heap[j]? = some o → j < w.heap.size := fun j o hj => (Array.getElem?_eq_some_iff.1 hj).1
  refine ⟨h.os, h.tape, h.output, fun j o ho => ?_, fun e he => ?_, ?_⟩
  · have := h.old j o ho
    rw [heap_alloc_old _ _ (hlt _ _ this)]; exact this
  · rcases List.mem_cons.1 he with rfl | he
    · refine ⟨heap_alloc_new w _, ?_⟩
      cases hu : U w.heap.size with
      | none => rfl
      | some o => have := hlt _ _ (h.old _ _ hu); omega
    · obtain ⟨h1, h2⟩ := h.own e he
      refine ⟨?_, h2⟩
      rw [heap_alloc_old _ _ (hlt _ _ h1)]; exact h1
  · refine List.pairwise_cons.2 ⟨fun e he => ?_, h.nd⟩
    have := hlt _ _ (h.own e he).1
    omega

def UH.upd (U : UH) (b : Nat) (o : Obj) : UH := fun k => if k = b then some o else U k

theorem ULe.upd {U : UH} {b : Nat} {o : Obj} (h : U b = none) : ULe U (U.upd b o) := by
  intro k o' hk
  unfold UH.upd
  by_cases e : k = b
  · subst e; rw [h] at hk; cases hk
  · rw [if_neg e]; exact hk

/-- What is owned is settled: it is written no more. -/
theorem Mem.settle {G : World} {U : UH} {M : MH} {w : World} {b t : Nat} {k : Blk} (h : Mem G U ((b, k, t) :: M) w) : ULe U (U.upd b (.cells k.cells t (0, 0))) ∧ Mem G (U.upd b (.cells k.cells t (0, 0))) M w := by
  obtain ⟨h1, h2⟩ := h.own _ (List.mem_cons_self ..)
  refine ⟨ULe.upd h2, h.os, h.tape, h.output, fun j o ho => ?_, fun e he => ?_, (List.pairwise_cons.1 h.nd).2⟩
  · unfold UH.upd at ho
    by_cases ej : j = b
    · subst ej; simp at ho; rw [← ho]; exact h1
    · rw [if_neg ej] at ho; exact h.old j o ho
  · obtain ⟨h3, h4⟩ := h.own e (List.mem_cons_of_mem _ he)
    refine ⟨h3, ?_⟩
    have : b ≠ e.1 := (List.pairwise_cons.1 h.nd).1 e he
    unfold UH.upd
    rw [if_neg (Ne.symm this)]; exact h4

theorem UH.cell_upd (U : UH) (b : Nat) (c : Array Value) (t : Nat) (o : Nat) : (U.upd b (.cells c t (0, 0))).cell? ⟨b, o, none⟩ = c[o]? := by
  simp [UH.cell?, UH.upd]

/-- A store into an owned block. -/
theorem Mem.setBlk {G : World} {U : UH} {M : MH} {w w' : World} (h : Mem G U M w) {i b t : Nat} {k : Blk} (hi : M[i]? = some (b, k, t)) (k' : Blk)
    (ho : w'.os = w.os) (ht : w'.tape = w.tape) (hout : w'.output = w.output) (hb : w'.heap[b]? = some (.cells k'.cells t (0, 0))) (hr : ∀ j, j ≠ b → w'.heap[j]? = w.heap[j]?) :
    Mem G U (M.set i (b, k', t)) w' := by
  have hmem := List.mem_of_getElem? hi
  have hUb := (h.own _ hmem).2
  refine ⟨ho.trans h.os, ht.trans h.tape, hout.trans h.output, fun j o hj => ?_, fun e he => ?_, ?_⟩
  · have : j ≠ b := fun e => by subst e; rw [hUb] at hj; cases hj
    rw [hr j this]; exact h.old j o hj
  · rcases List.mem_iff_getElem?.1 he with ⟨m, hm⟩
    rw [List.getElem?_set] at hm
    by_cases e1 : i = m
    · rw [if_pos e1] at hm
      split at hm
      · simp only [Option.some.injEq] at hm; subst hm; exact ⟨hb, hUb⟩
      · cases hm
    · rw [if_neg e1] at hm
      have he' := List.mem_of_getElem? hm
      have hne : e.1 ≠ b := by
        intro hc
        have hp := List.pairwise_iff_getElem.1 h.nd
        obtain ⟨hil, hie⟩ := List.getElem?_eq_some_iff.1 hi
        obtain ⟨hml, hme⟩ := List.getElem?_eq_some_iff.1 hm
        rcases Nat.lt_or_ge i m with hlt | hge
        · exact hp i m hil hml hlt (by rw [hie, hme]; exact hc.symm)
        · exact hp m i hml hil (by omega) (by rw [hie, hme]; exact hc)
      rw [hr e.1 hne]; exact h.own e he'
  · have h1 : (M.set i (b, k', t)).map Prod.fst = M.map Prod.fst := by
      refine List.ext_getElem? fun j => ?_
      simp only [List.getElem?_map, List.getElem?_set]
      by_cases e : i = j
      · subst e
        obtain ⟨hl, he⟩ := List.getElem?_eq_some_iff.1 hi
        simp [hl, he]
      · simp [e]
    have h2 := h.nd
    rw [← List.pairwise_map (f := Prod.fst) (R := fun a b => a ≠ b)] at h2 ⊢
    rw [h1]; exact h2

/-! ### the judgements -/
variable {P : Program} {T : TT} {K : Kont} {N : Nat} {G : World} {E : Env} {U : UH} {M : MH}

structure St (P : Program) (K : Kont) (N : Nat) (G : World) (c : Code) (E : Env) (U : UH) (M : MH) : Prop where
  run : ∀ a w, Has a N E → Mem G U M w → c.wp P K a w
structure SK (K : Kont) (N : Nat) (G : World) (e : Exit) (E : Env) (U : UH) (M : MH) : Prop where
  run : ∀ a w, Has a N E → Mem G U M w → K e a w

def kseq (P : Program) (y : Code) (K : Kont) : Kont := Exit.then (y.wp P K) K
def kblock (id : Nat) (K : Kont) : Kont := Exit.inBlock id K
def kloop (J : Act → World → Prop) (K : Kont) : Kont := Exit.then J K

theorem st_seq {x y : Code} (h : St P (kseq P y K) N G x E U M) : St P K N G (.seq x y) E U M := ⟨fun a w ha hw => wp_seq (h.run a w ha hw)⟩
theorem st_skip (h : SK K N G .normal E U M) : St P K N G .skip E U M := ⟨fun a w ha hw => wp_skip (h.run a w ha hw)⟩
theorem st_ret (h : SK K N G .ret E U M) : St P K N G .ret E U M := ⟨fun a w ha hw => wp_ret (h.run a w ha hw)⟩
theorem st_exit {id : Nat} (h : SK K N G (.exit id) E U M) : St P K N G (.exit id) E U M := ⟨fun a w ha hw => wp_exit (h.run a w ha hw)⟩
theorem st_block {id : Nat} {c : Code} (h : St P (kblock id K) N G c E U M) : St P K N G (.block id c) E U M := ⟨fun a w ha hw => wp_block (h.run a w ha hw)⟩
theorem st_cond {c : Operand} {x y : Code} {b : Bool} (hc : ev E c = some (.bool b)) (ht : b = true → St P K N G x E U M) (hf : b = false → St P K N G y E U M) :
    St P K N G (.cond c x y) E U M :=
  ⟨fun a w ha hw => wp_cond_split (ha.eval hc) (fun e => (ht e).run a w ha hw) (fun e => (hf e).run a w ha hw)⟩
theorem st_true {c : Operand} {x y : Code} (hc : ev E c = some (.bool true)) (h : St P K N G x E U M) : St P K N G (.cond c x y) E U M :=
  ⟨fun a w ha hw => wp_cond_true (ha.eval hc) (h.run a w ha hw)⟩
theorem st_false {c : Operand} {x y : Code} (hc : ev E c = some (.bool false)) (h : St P K N G y E U M) : St P K N G (.cond c x y) E U M :=
  ⟨fun a w ha hw => wp_cond_false (ha.eval hc) (h.run a w ha hw)⟩
/-- The same at a test that reads as a proposition. -/
theorem st_dec {c : Operand} {x y : Code} {p : Prop} {_ : Decidable p} (hc : ev E c = some (.bool (dec p))) (ht : p → St P K N G x E U M) (hf : ¬ p → St P K N G y E U M) :
    St P K N G (.cond c x y) E U M :=
  st_cond hc (fun h => ht (of_dec h)) (fun h => hf (of_dec_not h))
theorem st_eq {c : Operand} {x y : Code} {m n : Int} {_ : Decidable (m = n)} (hc : ev E c = some (.bool (dec (m = n)))) (ht : m = n → St P K N G x E U M) (hf : m ≠ n → St P K N G y E U M) :
    St P K N G (.cond c x y) E U M := st_dec hc ht hf
theorem st_ne {c : Operand} {x y : Code} {m n : Int} {_ : Decidable (m ≠ n)} (hc : ev E c = some (.bool (dec (m ≠ n)))) (ht : m ≠ n → St P K N G x E U M) (hf : m = n → St P K N G y E U M) :
    St P K N G (.cond c x y) E U M := st_dec hc ht (fun h => hf (Decidable.of_not_not h))

theorem st_sub {c : Code} {E' : Env} (hs : Sub E' E) (h : St P K N G c E' U M) : St P K N G c E U M := ⟨fun a w ha hw => h.run a w (ha.sub hs) hw⟩
theorem st_anti {c : Code} {U' : UH} {M' : MH} (hU : ULe U' U) (hM : M'.Sublist M) (h : St P K N G c E U' M') : St P K N G c E U M := ⟨fun a w ha hw => h.run a w ha (hw.anti hU hM)⟩
theorem sk_sub {e : Exit} {E' : Env} (hs : Sub E' E) (h : SK K N G e E' U M) : SK K N G e E U M := ⟨fun a w ha hw => h.run a w (ha.sub hs) hw⟩
theorem sk_anti {e : Exit} {U' : UH} {M' : MH} (hU : ULe U' U) (hM : M'.Sublist M) (h : SK K N G e E U' M') : SK K N G e E U M := ⟨fun a w ha hw => h.run a w ha (hw.anti hU hM)⟩
theorem st_settle {c : Code} {b t : Nat} {k : Blk} (h : ULe U (U.upd b (.cells k.cells t (0, 0))) → St P K N G c E (U.upd b (.cells k.cells t (0, 0))) M) : St P K N G c E U ((b, k, t) :: M) :=
  ⟨fun a w ha hw => (h hw.settle.1).run a w ha hw.settle.2⟩
theorem sk_settle {e : Exit} {b t : Nat} {k : Blk} (h : ULe U (U.upd b (.cells k.cells t (0, 0))) → SK K N G e E (U.upd b (.cells k.cells t (0, 0))) M) : SK K N G e E U ((b, k, t) :: M) :=
  ⟨fun a w ha hw => (h hw.settle.1).run a w ha hw.settle.2⟩

/-! continuations -/
theorem sk_seq {y : Code} (h : St P K N G y E U M) : SK (kseq P y K) N G .normal E U M := ⟨h.run⟩
theorem sk_seq_ret {y : Code} (h : SK K N G .ret E U M) : SK (kseq P y K) N G .ret E U M := ⟨h.run⟩
theorem sk_seq_exit {y : Code} {id : Nat} (h : SK K N G (.exit id) E U M) : SK (kseq P y K) N G (.exit id) E U M := ⟨h.run⟩
theorem sk_block {id : Nat} (h : SK K N G .normal E U M) : SK (kblock id K) N G .normal E U M := ⟨h.run⟩
theorem sk_block_ret {id : Nat} (h : SK K N G .ret E U M) : SK (kblock id K) N G .ret E U M := ⟨h.run⟩
theorem sk_block_here {id : Nat} (h : SK K N G .normal E U M) : SK (kblock id K) N G (.exit id) E U M := ⟨fun a w ha hw => by
  show (if id = id then _ else _); rw [if_pos rfl]; exact h.run a w ha hw⟩
theorem sk_block_far {id id' : Nat} (hne : Nat.beq id' id = false) (h : SK K N G (.exit id') E U M) : SK (kblock id K) N G (.exit id') E U M := ⟨fun a w ha hw => by
  show (if id' = id then _ else _)
  rw [if_neg (fun e => by subst e; simp at hne)]; exact h.run a w ha hw⟩
theorem sk_loop_ret {J : Act → World → Prop} (h : SK K N G .ret E U M) : SK (kloop J K) N G .ret E U M := ⟨h.run⟩
theorem sk_loop_exit {J : Act → World → Prop} {id : Nat} (h : SK K N G (.exit id) E U M) : SK (kloop J K) N G (.exit id) E U M := ⟨h.run⟩

/-- Where ways meet again: what is kept of them is Φ. -/
def kcut (N : Nat) (G : World) (Φ : Env → UH → MH → Prop) (K : Kont) : Kont := Exit.then (fun a w => ∃ E U M, Φ E U M ∧ Has a N E ∧ Mem G U M w) K
theorem st_seq_cut (Φ : Env → UH → MH → Prop) {x y : Code} (h1 : St P (kcut N G Φ K) N G x E U M) (h2 : ∀ E U M, Φ E U M → St P K N G y E U M) : St P K N G (.seq x y) E U M := by
  refine ⟨fun a w ha hw => wp_seq (wp_mono (h1.run a w ha hw) ?_)⟩
  intro e a w hq
  cases e <;> try exact hq
  obtain ⟨E, U, M, hp, ha, hw⟩ := hq
  exact (h2 E U M hp).run a w ha hw
theorem sk_cut {Φ : Env → UH → MH → Prop} {E' : Env} (hs : Sub E' E) (h : Φ E' U M) : SK (kcut N G Φ K) N G .normal E U M :=
  ⟨fun _ _ ha hw => ⟨E', U, M, h, ha.sub hs, hw⟩⟩
theorem sk_cut_ret {Φ : Env → UH → MH → Prop} (h : SK K N G .ret E U M) : SK (kcut N G Φ K) N G .ret E U M := ⟨h.run⟩
theorem sk_cut_exit {Φ : Env → UH → MH → Prop} {id : Nat} (h : SK K N G (.exit id) E U M) : SK (kcut N G Φ K) N G (.exit id) E U M := ⟨h.run⟩

/-- The way back to a loop's head. -/
def Again (Inv : Nat → Env → UH → MH → Prop) (N : Nat) (G : World) (n : Nat) : Act → World → Prop := fun a w =>
  ∃ m E U M, m < n ∧ Inv m E U M ∧ Has a N E ∧ Mem G U M w

theorem st_loop (Inv : Nat → Env → UH → MH → Prop) {n0 : Nat} {E0 : Env} {c : Code} (hs : Sub E0 E) (h0 : Inv n0 E0 U M)
    (round : ∀ n E U M, Inv n E U M → St P (kloop (Again Inv N G n) K) N G c E U M) : St P K N G (.loop c) E U M := by
  refine ⟨fun a w ha hw => ?_⟩
  have key : ∀ n, ∀ E U M a w, Inv n E U M → Has a N E → Mem G U M w → (Code.loop c).wp P K a w := by
    intro n E U M a w hI ha hw
    refine wp_loop (fun a w => ∃ m E U M, Inv m E U M ∧ Has a N E ∧ Mem G U M w)
      (fun a w => Classical.epsilon fun m => (∃ E U M, Inv m E U M ∧ Has a N E ∧ Mem G U M w) ∧ ∀ k, (∃ E U M, Inv k E U M ∧ Has a N E ∧ Mem G U M w) → m ≤ k) ⟨n, E, U, M, hI, ha, hw⟩ ?_
    intro a w hI
    have hex : ∃ m, (∃ E U M, Inv m E U M ∧ Has a N E ∧ Mem G U M w) ∧ ∀ k, (∃ E U M, Inv k E U M ∧ Has a N E ∧ Mem G U M w) → m ≤ k := by
      obtain ⟨m, E, U, M, h⟩ := hI
      have : ∀ m, (∃ E U M, Inv m E U M ∧ Has a N E ∧ Mem G U M w) → ∃ m, (∃ E U M, Inv m E U M ∧ Has a N E ∧ Mem G U M w) ∧ ∀ k, (∃ E U M, Inv k E U M ∧ Has a N E ∧ Mem G U M w) → m ≤ k := by
        intro m
        induction m using Nat.strongRecOn with
        | _ m ih =>
          intro hm
          by_cases hk : ∃ k, k < m ∧ ∃ E U M, Inv k E U M ∧ Has a N E ∧ Mem G U M w
          · obtain ⟨k, hlt, hk⟩ := hk; exact ih k hlt hk
          · exact ⟨m, hm, fun k h => Nat.le_of_not_lt fun hlt => hk ⟨k, hlt, h⟩⟩
      exact this m ⟨E, U, M, h⟩
    have hsp := Classical.epsilon_spec hex
    generalize hm : (Classical.epsilon fun m => (∃ E U M, Inv m E U M ∧ Has a N E ∧ Mem G U M w) ∧ ∀ k, (∃ E U M, Inv k E U M ∧ Has a N E ∧ Mem G U M w) → m ≤ k) = m at hsp
    obtain ⟨⟨E, U, M, hI, ha, hw⟩, _⟩ := hsp
    refine wp_mono ((round m E U M hI).run a w ha hw) ?_
    intro e a' w' hq
    cases e <;> try exact hq
    obtain ⟨m', E', U', M', hlt, hI', ha', hw'⟩ := hq
    refine ⟨⟨m', E', U', M', hI', ha', hw'⟩, ?_⟩
    have hex' : ∃ m, (∃ E U M, Inv m E U M ∧ Has a' N E ∧ Mem G U M w') ∧ ∀ k, (∃ E U M, Inv k E U M ∧ Has a' N E ∧ Mem G U M w') → m ≤ k := by
      have : ∀ m, (∃ E U M, Inv m E U M ∧ Has a' N E ∧ Mem G U M w') → ∃ m, (∃ E U M, Inv m E U M ∧ Has a' N E ∧ Mem G U M w') ∧ ∀ k, (∃ E U M, Inv k E U M ∧ Has a' N E ∧ Mem G U M w') → m ≤ k := by
        intro m
        induction m using Nat.strongRecOn with
        | _ m ih =>
          intro hm
          by_cases hk : ∃ k, k < m ∧ ∃ E U M, Inv k E U M ∧ Has a' N E ∧ Mem G U M w'
          · obtain ⟨k, hlt, hk⟩ := hk; exact ih k hlt hk
          · exact ⟨m, hm, fun k h => Nat.le_of_not_lt fun hlt => hk ⟨k, hlt, h⟩⟩
      exact this m' ⟨E', U', M', hI', ha', hw'⟩
    have h3 := (Classical.epsilon_spec hex').2 m' ⟨E', U', M', hI', ha', hw'⟩
    exact Nat.lt_of_le_of_lt h3 hlt
  exact key n0 E0 U M a w h0 (ha.sub hs) hw

theorem sk_again {Inv : Nat → Env → UH → MH → Prop} {n m : Nat} {E' : Env} (hs : Sub E' E) (hlt : m < n) (hI : Inv m E' U M) : SK (kloop (Again Inv N G n) K) N G .normal E U M :=
  ⟨fun _ _ ha hw => ⟨m, E', U, M, hlt, hI, ha.sub hs, hw⟩⟩

end Go.Hp
