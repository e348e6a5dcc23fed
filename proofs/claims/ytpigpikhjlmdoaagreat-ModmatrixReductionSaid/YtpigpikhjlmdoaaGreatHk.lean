/- Function values: made, and called. No condition. -/
import Derived.Test.YtpigpikhjlmdoaaGreatM1
namespace Go.Hp
variable {P : Program} {T : TT} {K : Kont} {N : Nat} {G : World} {E : Env} {U U' : UH} {M M' : MH} {L : List Oper} {l : List Ent} {f : Bool} {i : Nat} {o : Oper}
theorem Ct.perm {c : Nat} {args : List Value} {R : Value → UH → MH → Prop} (h : Ct P c args G U M' R) (hM : M.Perm M') : Ct P c args G U M R :=
  ⟨h.callable, fun w hw => (h.calls w (hw.perm hM)).mono fun _ _ ⟨v, U', D, h1, h2, h3, h4⟩ => ⟨v, U', D, h1, h2, h3.perm (hM.symm.append_left D), h4⟩⟩
end Go.Hp
