/- append of digits. -/
import Derived.Test.YtcakainebimmdaaD
import Derived.Test.YtcakainebimmdaaHp
namespace Go.Proofs.Ytcakainebimmdaa
open Go.Hp

theorem Own.to_row {D : MH} {p : Option Addr} {n c : Nat} {l : List Nat} (h : Own D p n c l) : Row TU32 D p n c (l.map dg) ∧ ∀ k, k ∈ D → ∀ r, k.2.1 = .arr r → ∀ v ∈ r, v.cells.toList.length = 1 := by
  cases h with
  | nil => exact ⟨Row.nil, fun k hk => (by cases hk)⟩
  | @arr b n c r t hn hc hm hb ht =>
    refine ⟨?_, fun k hk r' hr v hv => ?_⟩
    · have := Row.row (e := TU32) (b := b) (n := n) (c := c) (r := l.map dg ++ t) (by omega) (by rw [List.length_append, List.length_map]; omega) hm
      rwa [List.take_left' (by rw [List.length_map, hn])] at this
    · rw [List.mem_singleton.1 hk] at hr
      cases hr
      rcases List.mem_append.1 hv with h | h
      · exact dg_size _ v h
      · exact ht v h

/-- append of digits that may be read onto digits of the call's own. -/
theorem sl_appendD {P : Program} {T : TT} {K : Kont} {N : Nat} {G : World} {E : Env} {U : UH} {M : MH} {L : List Oper} {l : List Ent} {f : Bool} {i : Nat} {o : Oper} {d t bt bt' : Nat} {x y : Operand} {z' : Value} {D X : MH} {p q : Option Addr} {n c m c' : Nat} {vl news : List Nat}
    (hS : Sym P T) (ho : o.op = .call { callee := .builtin .append, args := #[x, y], argTypes := #[t, t] })
    (hx : ev E x = some (.slice p n c)) (hy : ev E y = some (.slice q m c')) (hT : lkT T t = some ⟨.slice TU32, bt, bt', z'⟩) (he : lkT T TU32 = some ⟨.int .u32, 1, 4, .int .u32 0⟩)
    (hown : Own D p n c vl) (hM : M = D ++ X) (hd2 : Dig U M q m c' news) (hbound : n + m ≤ 35184372088832)
    (hg : gok L E o.guard = some true) (hk : f = false) (hd : o.dst = some d) (hN : Nat.blt d N = true)
    (h : ∀ p' cc D', Own D' p' (n + m) cc (vl ++ news) → SL P T L K N G l ((d, .slice p' (n + m) cc) :: E) U (D' ++ X)) : SL P T L K N G ((f, i, o) :: l) E U M := by
  obtain ⟨r1, r2⟩ := hown.to_row
  have hn1 := hd2.news
  have hbv : Bd vl := (hown.dig (U := U) (M := X)).bd
  refine sl_append (D := D) (M0 := X) (news := news.map dg) (m := m) (vl := vl.map dg) hS ho hx hy hT he rfl rfl hM r1 (dg_size vl) r2 (by rw [List.length_map, hd2.len]) (dg_size news) (dg_one news)
    (fun h => by
      obtain ⟨a0, h1, h2⟩ := hn1 h
      exact ⟨a0, h1, fun w hw => h2 w hw⟩) (by omega) (by omega) hg hk hd hN (fun p' cc D' hr' hs' => ?_)
  rw [← List.map_append] at hr'
  exact h p' cc D' (Own.of_row hr' hs' (fun d hd => by
    rcases List.mem_append.1 hd with h | h
    · exact hbv d h
    · exact hd2.bd d h))

end Go.Proofs.Ytcakainebimmdaa
