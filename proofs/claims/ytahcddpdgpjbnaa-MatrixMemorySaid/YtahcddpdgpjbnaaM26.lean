/- Texts of this seat's own, merged: each begins with its own remark. -/
import Derived.Test.YtahcddpdgpjbnaaM97
import Derived.Test.YtahcddpdgpjbnaaM36
import Derived.Test.YtahcddpdgpjbnaaM37
import Derived.Test.YtahcddpdgpjbnaaLi
import Derived.Test.YtahcddpdgpjbnaaM34
/- The law of layer 9 on kernels. -/
namespace Go.Proofs.Ytahcddpdgpjbnaa
open Go.Hp
variable {G:World} {U U':UH} {M M':MH}
end Go.Proofs.Ytahcddpdgpjbnaa

/- The law of layer 9 on inverses. -/
namespace Go.Proofs.Ytahcddpdgpjbnaa
open Go.Hp
variable {G:World} {U U':UH} {M M':MH}
end Go.Proofs.Ytahcddpdgpjbnaa

/- Walks of matrix: Identity, Power. -/
namespace Go.Proofs.Ytahcddpdgpjbnaa
open Go.Hp
variable {G:World} {U U':UH} {M M':MH}
theorem yH {n:Nat} (hn:n≤1000) :
  Ct Try.prog 35 [.int .i64 (n:Int)] G U M fun v U' D=>∃ vI,v = .tuple #[vI,.int .i64 0]∧Vm Vq n n U' vI La.idm∧D=[]:=by
 have hnn:n*n≤1000*1000:=Nat.mul_le_mul hn hn
 refine (Ct.settle (R:=fun v U' D=>∃ vI,v = .tuple #[vI,.int .i64 0]∧Vmo n n U' D vI La.idm∧ULe U U') ?_).mono fun _ _ _ _ ⟨h1,_,_,⟨vI,h2,⟨a,h3,h4⟩,_⟩,_,h5,h6⟩=>⟨vI,h2,⟨a,h3,h4.sett QA h5 h6⟩,h1⟩
 refine Qf Try.func35 rfl rfl rfl rfl ?_
 repeat (first|refine Qc ?_|refine Qb fun _=>?_|refine w_al fun _=>?_)
 rename_i b2
 refine Qd rfl rfl rfl rfl rfl rfl (fun _=>yj (n:=(n:Int))) ?_
 rintro v U' D hU ⟨rfl,rfl,rfl⟩
 repeat (first|refine Qc ?_|refine Qb fun _=>?_|refine w_al fun _=>?_)
 rw [decide_eq_true (show 0≤(n:Int)∧(n:Int)≤1024 from ⟨by omega,by omega⟩)]
 repeat (first|refine Qc ?_|refine Qb fun _=>?_|refine w_al fun _=>?_)
 refine Qd rfl rfl rfl rfl rfl rfl (fun _=>jr (n:=n) (by omega)) ?_
 rintro v1 U1 D1 hU1 ⟨hgu,-⟩
 repeat (first|refine Qc ?_|refine Qb fun _=>?_|refine w_al fun _=>?_)
 refine Qd rfl rfl rfl rfl rfl rfl (fun _=>JJ (hgu.w.lg (M:=D1++([]++((b2,.var (.agg #[.int .i64 0,.int .i64 0,.slice none 0 0]),TM)::M))) sb |>.up uc sb) (by omega) (by omega) (by omega)) ?_
 rintro v6 U6 D6 hU6 ⟨⟨_,rfl,p6,c6,vs6,rfl,h6,e6⟩,-⟩
 refine Qg (M':=(b2,.var (.agg #[.int .i64 0,.int .i64 0,.slice none 0 0]),TM)::(D6++(D1++M))) ?_ pm
 repeat (first|refine Qc ?_|refine Qb fun _=>?_|refine w_al fun _=>?_)
 exact Qe D6 sym rfl (.cons (.cell 0 rfl rfl rfl) (.cons (.tmp rfl) .nil)) uc sb (.inl rfl) ⟨_,rfl,⟨_,rfl,p6,c6,vs6,rfl,h6,e6⟩,uc⟩
def mpow (n:Nat) (A:Nat→Nat→Rat):Nat→Nat→Nat→Rat
 | 0=>La.idm
 | k+1=>La.mm n (mpow n A k) A
end Go.Proofs.Ytahcddpdgpjbnaa

/- The law of layer 9 on powers. -/
namespace Go.Proofs.Ytahcddpdgpjbnaa
open Go.Hp
variable {G:World} {U U':UH} {M M':MH}
def psz (n b:Nat):Nat→Nat
 | 0=>1
 | k+1=>1+n*(psz n b k+b+1)
end Go.Proofs.Ytahcddpdgpjbnaa

/- The law of layer 9 on solutions. -/
namespace Go.Proofs.Ytahcddpdgpjbnaa
open Go.Hp
variable {G:World} {U U':UH} {M M':MH}
def Rats (U:UH) (v:Value) (n:Nat) (f:Nat→Rat):Prop:=n≤9223372036854775807∧Ls Xq 4 n U [] v f
end Go.Proofs.Ytahcddpdgpjbnaa
