/- The law of layer 2 on memory. -/
import Derived.Test.YtahcddpdgpjbnaaB81
namespace Go.Proofs.Ytahcddpdgpjbnaa
open Go.Hp
variable {G:World} {U:UH} {M:MH}
theorem vv {x y:QV} {l1 l2:List Nat} (h1:Dig U M x.num.p x.num.n x.num.c l1) (h2:Dig U M y.num.p y.num.n y.num.c l1) (h3:Dig U M x.den.p x.den.n x.den.c l2) (h4:Dig U M y.den.p y.den.n y.den.c l2) (h5:x.num.neg=y.num.neg) (h6:x.den.neg=y.den.neg) :
  Ct Try.prog 19 [x.v,y.v] G U M fun v U' D=>v = .bool true∧U=U'∧D=[]:=by
 refine Qf Try.func19 rfl rfl rfl rfl ?_
 repeat (first|refine Qc ?_|refine Qb fun _=>?_|refine w_al fun _=>?_)
 refine Qd rfl rfl rfl rfl rfl rfl (fun _=>ju (x:=x.num) (y:=y.num) (h1.up (ULe.refl _) sb) (h2.up (ULe.refl _) sb)) ?_
 rintro v U' D hU ⟨rfl,rfl,rfl⟩
 repeat (first|refine Qc ?_|refine Qb fun _=>?_|refine w_al fun _=>?_)
 rw [decide_eq_true ⟨h5,rfl⟩]
 repeat (first|refine Qc ?_|refine Qb fun _=>?_|refine w_al fun _=>?_)
 refine Qd rfl rfl rfl rfl rfl rfl (fun _=>ju (x:=x.den) (y:=y.den) (h3.up (ULe.refl _) sb) (h4.up (ULe.refl _) sb)) ?_
 rintro v U' D hU ⟨rfl,rfl,rfl⟩
 repeat (first|refine Qc ?_|refine Qb fun _=>?_|refine w_al fun _=>?_)
 rw [decide_eq_true ⟨h6,rfl⟩]
 exact Qe [] sym rfl (.cons (.tmp rfl) .nil) (ULe.refl _) sb (.inl rfl) ⟨rfl,rfl,rfl⟩
end Go.Proofs.Ytahcddpdgpjbnaa
