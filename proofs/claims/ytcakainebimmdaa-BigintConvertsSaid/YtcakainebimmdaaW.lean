/- The steps of a walk, each under a short name, with the side conditions found at the spot. -/
import Derived.Test.YtcakainebimmdaaT
import Derived.Test.YtcakainebimmdaaHx
import Derived.Test.YtcakainebimmdaaHp
namespace Go.Proofs.Ytcakainebimmdaa
open Go.Hp
variable {K : Kont} {N : Nat} {G : World} {E : Env} {U : UH} {M : MH} {L : List Oper} {l : List Ent} {f : Bool} {i : Nat} {o : Oper}

theorem w_i64 {d ty yt : Nat} {op : BinOp} {x y : Operand} {a b r : Int} (h : SL Try.prog tys L K N G l ((d, .int .i64 r) :: E) U M) (ho : o.op = .binOp op ty x y yt := by exact rfl) (hx : ev E x = some (.int .i64 a) := by exact rfl) (hy : ev E y = some (.int .i64 b) := by exact rfl)
    (hr : ar op a b = some r := by exact rfl) (hb : -9223372036854775808 ≤ r ∧ r ≤ 9223372036854775807 := by omega) (hk : yB f tys o = true := by exact rfl) (hd : o.dst = some d := by exact rfl) (hN : Nat.blt d N = true := by exact rfl) (hg : gok L E o.guard = some true := by exact rfl) :
    SL Try.prog tys L K N G ((f, i, o) :: l) E U M := sl_y (yl_i64 ho hx hy hr hb) hk hd hN hg h
theorem w_u64 {d ty yt : Nat} {op : BinOp} {x y : Operand} {a b r : Int} (h : SL Try.prog tys L K N G l ((d, .int .u64 r) :: E) U M) (ho : o.op = .binOp op ty x y yt := by exact rfl) (hx : ev E x = some (.int .u64 a) := by exact rfl) (hy : ev E y = some (.int .u64 b) := by exact rfl)
    (hr : ar op a b = some r := by exact rfl) (hb : 0 ≤ r ∧ r ≤ 18446744073709551615 := by omega) (hk : yB f tys o = true := by exact rfl) (hd : o.dst = some d := by exact rfl) (hN : Nat.blt d N = true := by exact rfl) (hg : gok L E o.guard = some true := by exact rfl) :
    SL Try.prog tys L K N G ((f, i, o) :: l) E U M := sl_y (yl_u64 ho hx hy hr hb) hk hd hN hg h
theorem w_u32 {d ty yt : Nat} {op : BinOp} {x y : Operand} {a b r : Int} (h : SL Try.prog tys L K N G l ((d, .int .u32 r) :: E) U M) (ho : o.op = .binOp op ty x y yt := by exact rfl) (hx : ev E x = some (.int .u32 a) := by exact rfl) (hy : ev E y = some (.int .u32 b) := by exact rfl)
    (hr : ar op a b = some r := by exact rfl) (hb : 0 ≤ r ∧ r ≤ 4294967295 := by omega) (hk : yB f tys o = true := by exact rfl) (hd : o.dst = some d := by exact rfl) (hN : Nat.blt d N = true := by exact rfl) (hg : gok L E o.guard = some true := by exact rfl) :
    SL Try.prog tys L K N G ((f, i, o) :: l) E U M := sl_y (yl_u32 ho hx hy hr hb) hk hd hN hg h
theorem w_cv {d s t : Nat} {x : Operand} {k k' : IntKind} {n : Int} {ti : TI} {b c : Nat} {z : Value} (h : SL Try.prog tys L K N G l ((d, .int k' n) :: E) U M) (ho : o.op = .convert s t x := by exact rfl) (hx : ev E x = some (.int k n) := by exact rfl) (hs : lkT tys s = some ti := by exact rfl) (ht : lkT tys t = some ⟨.int k', b, c, z⟩ := by exact rfl)
    (h0 : 0 ≤ n := by omega) (h1 : n ≤ kmax k' := by simp only [kmax]; omega) (hk : yB f tys o = true := by exact rfl) (hd : o.dst = some d := by exact rfl) (hN : Nat.blt d N = true := by exact rfl) (hg : gok L E o.guard = some true := by exact rfl) :
    SL Try.prog tys L K N G ((f, i, o) :: l) E U M := sl_y (yl_conv sym ho hx hs ht h0 h1) hk hd hN hg h
theorem w_cv32 {d s t : Nat} {x : Operand} {k : IntKind} {n : Int} {ti : TI} {b c : Nat} {z : Value} (h : SL Try.prog tys L K N G l ((d, .int .u32 (n % 4294967296)) :: E) U M) (ho : o.op = .convert s t x := by exact rfl) (hx : ev E x = some (.int k n) := by exact rfl) (hs : lkT tys s = some ti := by exact rfl) (ht : lkT tys t = some ⟨.int .u32, b, c, z⟩ := by exact rfl)
    (hk : yB f tys o = true := by exact rfl) (hd : o.dst = some d := by exact rfl) (hN : Nat.blt d N = true := by exact rfl) (hg : gok L E o.guard = some true := by exact rfl) :
    SL Try.prog tys L K N G ((f, i, o) :: l) E U M := sl_y (yl_conv32 sym ho hx hs ht) hk hd hN hg h
theorem w_p {d : Nat} {v : Value} (h : SL Try.prog tys L K N G l ((d, v) :: E) U M) (hp : pureOp tys E o.op = some v := by exact rfl) (hk : yB f tys o = true := by exact rfl) (hd : o.dst = some d := by exact rfl) (hN : Nat.blt d N = true := by exact rfl) (hg : gok L E o.guard = some true := by exact rfl) :
    SL Try.prog tys L K N G ((f, i, o) :: l) E U M := sl_y (yl_pure sym hp) hk hd hN hg h
theorem w_m (j : Nat) {d t : Nat} {x : Operand} {b off tb : Nat} {v r : Value} (h : SL Try.prog tys L K N G l ((d, r) :: E) U M) (ho : o.op = .load t x := by exact rfl) (hx : ev E x = some (.pointer (some ⟨b, off, none⟩)) := by exact rfl) (hM : nth M j = some (b, .var v, tb) := by exact rfl)
    (hl : ldv tys t v off = some r := by exact rfl) (hk : yB f tys o = true := by exact rfl) (hd : o.dst = some d := by exact rfl) (hN : Nat.blt d N = true := by exact rfl) (hg : gok L E o.guard = some true := by exact rfl) :
    SL Try.prog tys L K N G ((f, i, o) :: l) E U M := sl_y (yl_loadM j sym ho hx hM hl) hk hd hN hg h
theorem w_t (m : Nat) {t b tb : Nat} {x y : Operand} {v old : Value} {ti : TI} (h : SL Try.prog tys L K N G l E U (M.set m (b, .var v, tb))) (ho : o.op = .store t x y := by exact rfl) (hx : ev E x = some (.pointer (some ⟨b, 0, none⟩)) := by exact rfl) (hy : ev E y = some v := by exact rfl)
    (hM : nth M m = some (b, .var old, tb) := by exact rfl) (hT : lkT tys t = some ti := by exact rfl) (hv : v.cells.toList.length = ti.size := by exact rfl) (hold : old.cells.toList.length = ti.size := by exact rfl) (h1 : v.cells.toList.all Value.oneCell' = true := by exact rfl)
    (hg : gok L E o.guard = some true := by exact rfl) (hk : xB f tys o = true := by exact rfl) (hd : o.dst = none := by exact rfl) : SL Try.prog tys L K N G ((f, i, o) :: l) E U M := sl_store m sym ho hx hy hM hT hv hold h1 hg hk hd h

theorem w_shr {d ty yt : Nat} {x y : Operand} {k k' : IntKind} {a b : Int} (h : SL Try.prog tys L K N G l ((d, .int k (a / 2 ^ 32)) :: E) U M) (ho : o.op = .binOp .shr ty x y yt := by exact rfl) (hx : ev E x = some (.int k a) := by exact rfl) (hy : ev E y = some (.int k' b) := by exact rfl)
    (hb : b = ((32 : Nat) : Int) := by exact rfl) (hw : 32 ≤ k.bits := by decide) (hk : yB f tys o = true := by exact rfl) (hd : o.dst = some d := by exact rfl) (hN : Nat.blt d N = true := by exact rfl) (hg : gok L E o.guard = some true := by exact rfl) :
    SL Try.prog tys L K N G ((f, i, o) :: l) E U M := sl_y (yl_shr (n := 32) ho hx hy hb hw) hk hd hN hg h
theorem w_shl {d ty yt : Nat} {x y : Operand} {k k' : IntKind} {a b : Int} (h : SL Try.prog tys L K N G l ((d, .int k (k.wrap (a * 2 ^ 32))) :: E) U M) (ho : o.op = .binOp .shl ty x y yt := by exact rfl) (hx : ev E x = some (.int k a) := by exact rfl) (hy : ev E y = some (.int k' b) := by exact rfl)
    (hb : b = ((32 : Nat) : Int) := by exact rfl) (hw : 32 ≤ k.bits := by decide) (hk : yB f tys o = true := by exact rfl) (hd : o.dst = some d := by exact rfl) (hN : Nat.blt d N = true := by exact rfl) (hg : gok L E o.guard = some true := by exact rfl) :
    SL Try.prog tys L K N G ((f, i, o) :: l) E U M := sl_y (yl_shl (n := 32) ho hx hy hb hw) hk hd hN hg h
theorem w_no {d : Nat} (h : SL Try.prog tys L K N G l ((d, undef) :: E) U M) (hg : gok L E o.guard = some false := by exact rfl) (hd : o.dst = some d := by exact rfl) (hN : Nat.blt d N = true := by exact rfl) :
    SL Try.prog tys L K N G ((f, i, o) :: l) E U M := sl_no hg hd hN h
theorem w_box {d t : Nat} {x : Operand} {v : Value} (h : ∀ b, SL Try.prog tys L K N G l ((d, .pointer (some ⟨b, 0, none⟩)) :: E) U ((b, .var v, t) :: M)) (ho : o.op = .box t x := by exact rfl) (hx : ev E x = some v := by exact rfl) (hg : gok L E o.guard = some true := by exact rfl) (hk : cB f tys o = true := by exact rfl) (hd : o.dst = some d := by exact rfl) (hN : Nat.blt d N = true := by exact rfl) :
    SL Try.prog tys L K N G ((f, i, o) :: l) E U M := sl_box ho hx hg hk hd hN h
theorem w_al {d t : Nat} {k : TK} {sz by' : Nat} {z : Value} (h : ∀ b, SL Try.prog tys L K N G l ((d, .pointer (some ⟨b, 0, none⟩)) :: E) U ((b, .var z, t) :: M)) (ho : o.op = .alloc t := by exact rfl) (hT : lkT tys t = some ⟨k, sz, by', z⟩ := by exact rfl) (hg : gok L E o.guard = some true := by exact rfl) (hd : o.dst = some d := by exact rfl) (hN : Nat.blt d N = true := by exact rfl) :
    SL Try.prog tys L K N G ((f, i, o) :: l) E U M := sl_alloc sym ho hT hg hd hN h

end Go.Proofs.Ytcakainebimmdaa
