/- Texts of this seat's own, merged: each begins with its own remark. -/
import Derived.Test.YtahcddpdgpjbnaaM25
import Derived.Test.YtahcddpdgpjbnaaM96
import Derived.Test.YtahcddpdgpjbnaaM23
import Derived.Test.YtahcddpdgpjbnaaM37
import Derived.Test.YtahcddpdgpjbnaaM26
import Derived.Test.YtahcddpdgpjbnaaM97
/- The functions of matrix: what they answer to matrices that are not valid, and to sizes that do not fit. -/
namespace Go.Proofs.Ytahcddpdgpjbnaa
open Go.Hp
variable {G:World} {U U':UH} {M M':MH}
def OutM (e:Int) (v:Value):Prop:=∃ (r c:Int) (p:Option Addr) (n cc:Nat),v = .tuple #[.agg #[.int .i64 r,.int .i64 c,.slice p n cc],.int .i64 e]
def OutQ (e:Int) (v:Value):Prop:=∃ x:QV,v = .tuple #[x.v,.int .i64 e]
def OutS (e:Int) (v:Value):Prop:=∃ (p:Option Addr) (n c:Nat),v = .tuple #[.slice p n c,.int .i64 e]
def OutE (e:Int) (v:Value):Prop:=∃ (r c:Int) (p:Option Addr) (n cc:Nat) (p2:Option Addr) (n2 c2:Nat),v = .tuple #[.agg #[.int .i64 r,.int .i64 c,.slice p n cc],.slice p2 n2 c2,.int .i64 e]
def OutT (e:Int) (v:Value):Prop:=∃ a b c:Value,v = .tuple #[a,b,c,.int .i64 e]
def OutI (e:Int) (v:Value):Prop:=∃ a:Value,v = .tuple #[a,.int .i64 e]
theorem OutM.of {r c e:Int} {vC:Value} {ok:UH→Value→Rat→Prop} {n:Nat} {f:Nat→Rat} {D:MH} {U:UH} (h:∃ a,vC = .agg #[.int .i64 r,.int .i64 c,a]∧(Ls ok 4 n U D a f∨Lo ok TR 4 n U D a f)):OutM e (.tuple #[vC,.int .i64 e]):=by
 obtain ⟨_,rfl,⟨p,c',vs,rfl,-⟩ | ⟨p,c',vs,rfl,-⟩⟩:=h<;>exact ⟨_,_,_,_,_,rfl⟩
theorem OutS.of {e:Int} {vC:Value} {ok:UH→Value→Rat→Prop} {n:Nat} {f:Nat→Rat} {D:MH} {U:UH} (h:Ls ok 4 n U D vC f):OutS e (.tuple #[vC,.int .i64 e]):=by
 obtain ⟨p,c',vs,rfl,-⟩:=h; exact ⟨_,_,_,rfl⟩
def cod (p:Prop) [Decidable p]:Int:=if p then 0 else 4
end Go.Proofs.Ytahcddpdgpjbnaa

/- The functions of matrix: the error that they answer. -/
namespace Go.Proofs.Ytahcddpdgpjbnaa
open Go.Hp
variable {G:World} {U U':UH} {M M':MH}
theorem OutE.of {r n:Nat} {vR vp:Value} {R:Nat→Nat→Rat} {p:Nat→Nat} {U:UH} (h:Vm Vq r n U vR R) (h2:Ls Vi 1 r U [] vp p):OutE 0 (.tuple #[vR,vp,.int .i64 0]):=by
 obtain ⟨_,rfl,p,c',vs,rfl,-⟩:=h
 obtain ⟨p2,c2,vs2,rfl,-⟩:=h2
 exact ⟨_,_,_,_,_,_,_,_,rfl⟩
theorem OutM.vm {r n:Nat} {e:Int} {vR:Value} {ok:UH→Value→Rat→Prop} {R:Nat→Nat→Rat} {U:UH} (h:Vm ok r n U vR R):OutM e (.tuple #[vR,.int .i64 e]):=by
 obtain ⟨_,rfl,p,c',vs,rfl,-⟩:=h; exact ⟨_,_,_,_,_,rfl⟩
end Go.Proofs.Ytahcddpdgpjbnaa

/- The law of layer 9 on refusals. -/
namespace Go.Proofs.Ytahcddpdgpjbnaa
open Go.Hp
variable {G:World} {U U':UH} {M M':MH}
theorem Lit.up {most n:Nat} {v:Value} {r c:Int} {f:Nat→Rat} (h:Lit most U v r c n f) (hU:ULe U U'):Lit most U' v r c n f:=by
 obtain ⟨h1,h2,a,h3,h4⟩:=h
 exact ⟨h1,h2,a,h3,h4.up jf hU (List.Sublist.refl _)⟩
end Go.Proofs.Ytahcddpdgpjbnaa
