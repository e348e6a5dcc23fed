/- Walks of the reference of layer 9: kernels. -/
import Derived.Test.YtcfgogamamdipaaB92
import Derived.Test.YtcfgogamamdipaaLh
import Derived.Test.YtcfgogamamdipaaB106
namespace Go.Proofs.Ytcfgogamamdipaa
open Go.Hp
variable {G : World} {U U' : UH} {M M' : MH}

theorem Gs.tail {R : MH → Option Addr → Nat → Nat → List Value → Prop} {c : Nat} {svs : List Value} {D : MH} {F : List MH} {A : Nat → Nat → Rat} (h : Gs R c U svs (D :: F) A) : Gs R c U svs.tail F (fun k => A (k + 1)) := by
  refine ⟨by rw [List.length_tail, h.1]; rfl, fun i v E h1 h2 => ?_⟩
  rw [List.getElem?_tail] at h1
  exact h.2 (i + 1) v E h1 h2
theorem Gs.cong2 {R : MH → Option Addr → Nat → Nat → List Value → Prop} {c : Nat} {svs : List Value} {F : List MH} {A B : Nat → Nat → Rat} (h : Gs R c U svs F A) (hA : ∀ k, A k = B k) : Gs R c U svs F B := by
  rwa [show A = B from funext hA] at h
theorem sk_settleAll {K : Kont} {N : Nat} {e : Exit} {E : Env} {D M : MH} (h : ∀ U', ULe U U' → Sett U U' D → SK K N G e E U' M) : SK K N G e E U (D ++ M) :=
  ⟨fun a w ha hw => by
    obtain ⟨U', h1, h2, h3⟩ := mem_settleAll hw
    exact (h U' h1 h3).run a w ha h2⟩

end Go.Proofs.Ytcfgogamamdipaa
