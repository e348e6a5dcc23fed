/- The law on powers modulo an integer. -/
import Derived.Test.YtcakainebimmdaaB45
namespace Go.Proofs.Ytcakainebimmdaa
open Go.Hp
variable {G : World} {U : UH} {M : MH}

def ev4 (a n k m : IV) : Value := .agg #[.bool a.neg, .slice a.p a.n a.c, .bool n.neg, .slice n.p n.n n.c, .bool k.neg, .slice k.p k.n k.c, .bool m.neg, .slice m.p m.n m.c]

theorem BigintModular_ct {a n k m : IV} {za zn zk zm : Int} (ha : a.rep U M za) (hn : n.rep U M zn) (hk : k.rep U M zk) (hm : m.rep U M zm) :
    Ct Try.prog 9 [ev4 a n k m] G U M fun v _ _ => v = .bool true := by
  refine ct_of_st Try.func9 rfl rfl rfl rfl ?_
  repeat (first | refine run_S ?_ | refine w_box (fun _ => ?_) | refine w_al (fun _ => ?_))
  refine sl_call rfl rfl rfl rfl rfl rfl (fun _ => awake_ct) ?_
  rintro v U1 D hUc ⟨rfl, -, rfl⟩
  repeat (first | refine run_S ?_ | refine w_box (fun _ => ?_) | refine w_al (fun _ => ?_))
  refine sl_call rfl rfl rfl rfl rfl rfl (fun _ => modular_ct (a := a) (n := n) (k := k) (m := m) (ha.up hUc sb) (hn.up hUc sb) (hk.up hUc sb) (hm.up hUc sb)) ?_
  rintro v U2 D hU ⟨rfl, -⟩
  repeat (first | refine run_S ?_ | refine w_box (fun _ => ?_) | refine w_al (fun _ => ?_))
  exact sk_ret [] sym rfl (.cons (.tmp rfl) .nil) (hUc.trans hU) sb (.inl rfl) rfl

end Go.Proofs.Ytcakainebimmdaa
