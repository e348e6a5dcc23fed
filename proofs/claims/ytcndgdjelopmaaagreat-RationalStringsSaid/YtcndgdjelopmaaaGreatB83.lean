/- Walks of the library: strings.Cut at the stroke. -/
import Derived.Test.YtcndgdjelopmaaaGreatM14
import Derived.Lib.Bytealg
namespace Go.Proofs.YtcndgdjelopmaaaGreat
open Go.Hp
variable {G : World} {U : UH} {M : MH}

/-- A call of a function that the model stands in for. -/
theorem yl_ext {P : Program} {N : Nat} {E : Env} {o : Oper} {c : Nat} {args : List Operand} {tys : Array TypeId} {vs : List Value} {v : Value} {fn : Func} {e : Array Value → Sem Value} (ho : o.op = .call { callee := .value (.func c), args := args.toArray, argTypes := tys })
    (hv : evs E args = some vs) (hf : P.funcs[c]? = some fn) (hname : (fn.name == "runtime.NumGoroutine") = false) (hb : fn.body.isNone = true) (hn : Extern.findNext fn = none) (he : Extern.find fn = some e) (hr : ∀ w, (e vs.toArray).run P w = .ok v w) : Yl P N G o E U M v := by
  refine ⟨fun a w ha hw => ?_⟩
  have h1 := run_callFunc_extern hf hname hb hn he vs.toArray w
  rw [hr w] at h1
  simp only [execOp, ho, resolve, List.map_toArray, ha.evals hv, Act.eval, Deferred.ofValue, Sem.run_bind, Sem.run_pure, Result.andThen_ok, invoke]
  simpa using h1

theorem index_spec : ∀ {s : List Nat}, (∀ c ∈ s, c < 256) → (47 ∉ s ∧ Go.Lib.indexByte (s.map UInt8.ofNat) 47 = -1) ∨ ∃ b a, s = b ++ 47 :: a ∧ 47 ∉ b ∧ Go.Lib.indexByte (s.map UInt8.ofNat) 47 = (b.length : Int)
  | [], _ => .inl ⟨by simp, rfl⟩
  | x :: s, h => by
    have hx := h x (List.mem_cons_self ..)
    by_cases e : x = 47
    · subst e
      exact .inr ⟨[], s, rfl, by simp, rfl⟩
    · have hne : (UInt8.ofNat x == 47) = false := by
        rw [beq_eq_false_iff_ne]
        intro h2
        have := congrArg UInt8.toNat h2
        rw [UInt8.toNat_ofNat'] at this
        rw [Nat.mod_eq_of_lt hx] at this
        exact e this
      rcases index_spec (s := s) (fun c hc => h c (List.mem_cons_of_mem _ hc)) with ⟨h1, h2⟩ | ⟨b, a, h1, h2, h3⟩
      · refine .inl ⟨by simp [h1]; omega, ?_⟩
        rw [List.map_cons, Go.Lib.indexByte, hne, h2]; rfl
      · refine .inr ⟨x :: b, a, by rw [h1]; rfl, by simp [h2]; omega, ?_⟩
        rw [List.map_cons, Go.Lib.indexByte, hne, h3]
        have : ((b.length : Int) == -1) = false := by rw [beq_eq_false_iff_ne]; omega
        simp only [this, Bool.false_eq_true, if_false, List.length_cons]
        omega

theorem IndexByte_ct {s : List Nat} : Ct Tryz.prog 85 [.string (bstr s), .int .u8 ((47 : Nat) : Int)] G U M fun v U' D => v = .int .i64 (Go.Lib.indexByte (s.map UInt8.ofNat) 47) ∧ U = U' ∧ D = [] := by
  refine ct_of_st Tryz.func85 rfl rfl rfl rfl ?_
  try refine run_s ?_
  refine sl_y (yl_ext (e := Extern.BytealgIndexByte.indexByte) rfl rfl Tryz.func100 rfl rfl rfl rfl (fun w => Go.Lib.run_indexByteString (bstr s) ((47 : Nat) : Int) w)) rfl rfl rfl rfl ?_
  try refine run_s ?_
  exact sk_ret [] sym rfl (.cons (.tmp rfl) .nil) (ULe.refl _) (List.Sublist.refl _) (.inl rfl) ⟨by simp [tup, bstr], rfl, rfl⟩

theorem Index_ct {s : List Nat} (hs : ∀ c ∈ s, c < 256) : Ct Tryz.prog 68 [.string (bstr s), .string ⟨#[47]⟩] G U M fun v U' D => v = .int .i64 (Go.Lib.indexByte (s.map UInt8.ofNat) 47) ∧ U = U' ∧ D = [] := by
  rw [show (⟨#[47]⟩ : ByteArray) = bstr [47] from rfl]
  refine ct_of_st Tryz.func68 rfl rfl rfl rfl ?_
  try refine run_s ?_
  refine sl_gdec rfl rfl (fun h => absurd h (by decide)) (fun _ => ?_)
  try refine run_s ?_
  by_cases h : [47] = s
  · subst h
    refine sl_y (yl_streq rfl rfl rfl rfl) rfl rfl rfl rfl ?_
    try refine run_s ?_
    exact sk_ret [] sym rfl (.cons (.tmp rfl) .nil) (ULe.refl _) (List.Sublist.refl _) (.inl rfl) ⟨rfl, rfl, rfl⟩
  · refine sl_y (yl_streq' rfl rfl rfl (fun e => h (bstr_inj (by simp) hs e))) rfl rfl rfl rfl ?_
    try refine run_s ?_
    refine st_eq rfl (fun _ => ?_) (fun h => absurd rfl h)
    try refine run_s ?_
    refine sl_y (yl_strAt (s := [47]) (k := 0) (c := 47) sym rfl rfl rfl rfl rfl rfl rfl (by decide)) rfl rfl rfl rfl ?_
    try refine run_s ?_
    refine sl_call rfl rfl rfl rfl rfl rfl (fun _ => IndexByte_ct) ?_
    rintro v U' D hU ⟨rfl, rfl, rfl⟩
    try refine run_s ?_
    exact sk_ret [] sym rfl (.cons (.tmp rfl) .nil) (ULe.refl _) (List.Sublist.refl _) (.inl rfl) ⟨rfl, rfl, rfl⟩

def CutR (s : List Nat) (v : Value) : Prop := (47 ∉ s ∧ v = .tuple #[.string (bstr s), .string (bstr []), .bool false]) ∨ ∃ b a, s = b ++ 47 :: a ∧ 47 ∉ b ∧ v = .tuple #[.string (bstr b), .string (bstr a), .bool true]

theorem iCut_ct {s : List Nat} (hs : ∀ c ∈ s, c < 256) (hn : s.length ≤ 1000000000) : Ct Tryz.prog 43 [.string (bstr s), .string ⟨#[47]⟩] G U M fun v U' D => CutR s v ∧ U = U' ∧ D = [] := by
  refine ct_of_st Tryz.func43 rfl rfl rfl rfl ?_
  try refine run_s ?_
  refine sl_call rfl rfl rfl rfl rfl rfl (fun _ => Index_ct hs) ?_
  rintro v U' D hU ⟨rfl, rfl, rfl⟩
  try refine run_s ?_
  rcases index_spec hs with ⟨h1, h2⟩ | ⟨b, a, h1, h2, h3⟩
  · rw [h2]
    refine st_dec rfl (fun h => absurd h (by decide)) (fun _ => ?_)
    try refine run_s ?_
    exact sk_ret [] sym rfl (.cons (.tmp rfl) (.cons (.tmp rfl) (.cons (.tmp rfl) .nil))) (ULe.refl _) (List.Sublist.refl _) (.inl rfl) ⟨.inl ⟨h1, rfl⟩, rfl, rfl⟩
  · rw [h3]
    have hlen : s.length = b.length + (a.length + 1) := by rw [h1]; simp
    refine st_dec rfl (fun _ => ?_) (fun h => absurd (by omega) h)
    try refine run_s ?_
    refine st_draw [0, 1, 2, 3, 4, 5, 6, 7, 8, 9, 10, 11] sym (by kernel_rfl) ?_
    try refine run_s ?_
    refine sl_y (yl_strTo (s := s) (k := b.length) sym rfl rfl rfl rfl rfl rfl (by omega)) rfl rfl rfl rfl ?_
    try refine run_s ?_
    refine sl_y (yl_strFrom (s := s) (k := b.length + 1) sym rfl rfl rfl (by rw [show ((⟨#[47]⟩ : ByteArray).size : Int) = 1 from rfl, IntWalk.i64_in _ (by omega)]; omega) rfl rfl (by omega)) rfl rfl rfl rfl ?_
    try refine run_s ?_
    refine sk_ret [] sym rfl (.cons (.tmp rfl) (.cons (.tmp rfl) (.cons (.tmp rfl) .nil))) (ULe.refl _) (List.Sublist.refl _) (.inl rfl) ⟨.inr ⟨b, a, h1, h2, ?_⟩, rfl, rfl⟩
    rw [h1, List.take_left, show b.length + 1 = b.length + 1 from rfl, List.drop_append]
    simp [tup, List.drop_eq_nil_of_le]

theorem Cut_ct {s : List Nat} (hs : ∀ c ∈ s, c < 256) (hn : s.length ≤ 1000000000) : Ct Tryz.prog 20 [.string (bstr s), .string ⟨#[47]⟩] G U M fun v U' D => CutR s v ∧ U = U' ∧ D = [] := by
  refine ct_of_st Tryz.func20 rfl rfl rfl rfl ?_
  try refine run_s ?_
  refine sl_call rfl rfl rfl rfl rfl rfl (fun _ => iCut_ct hs hn) ?_
  rintro v U' D hU ⟨hv, rfl, rfl⟩
  rcases hv with ⟨h1, rfl⟩ | ⟨b, a, h1, h2, rfl⟩
  · try refine run_s ?_
    exact sk_ret [] sym rfl (.cons (.tmp rfl) (.cons (.tmp rfl) (.cons (.tmp rfl) .nil))) (ULe.refl _) (List.Sublist.refl _) (.inl rfl) ⟨.inl ⟨h1, rfl⟩, rfl, rfl⟩
  · try refine run_s ?_
    exact sk_ret [] sym rfl (.cons (.tmp rfl) (.cons (.tmp rfl) (.cons (.tmp rfl) .nil))) (ULe.refl _) (List.Sublist.refl _) (.inl rfl) ⟨.inr ⟨b, a, h1, h2, rfl⟩, rfl, rfl⟩

end Go.Proofs.YtcndgdjelopmaaaGreat
