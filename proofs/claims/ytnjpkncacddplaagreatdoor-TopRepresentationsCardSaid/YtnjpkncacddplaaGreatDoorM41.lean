/- Texts of this seat's own, merged: each begins with its own remark. -/
import Derived.Test.YtnjpkncacddplaaGreatDoorM18
import Derived.Test.YtnjpkncacddplaaGreatDoorM40
import Derived.Test.YtnjpkncacddplaaGreatDoorVz
/- Walks of arith and of its reference: residues, primes, inverses modulo primes. -/
namespace Go.Proofs.YtnjpkncacddplaaGreatDoor
open Go.Hp
open Go.Fq (Pm Fp Prm)
variable {G:World} {U:UH} {M:MH}
theorem yO {z m:Int} (hm:0 < m):(z.tmod m < 0→z.tmod m+m=z % m)∧(¬ z.tmod m < 0→z.tmod m=z % m):=by
 have h1:=Int.emod_nonneg z (show m≠0 by omega)
 have h2:=Int.emod_lt_of_pos z hm
 have h3:=Int.tmod_eq_emod (a:=z) (b:=m)
 split at h3
 ·omega
 ·have h4:((m.natAbs:Nat):Int)=m:=by omega
  omega
theorem QeJ {z m:Int} (hm:0 < m) : -m≤z.tmod m∧z.tmod m < m:=by
 have h1:=Int.emod_nonneg z (show m≠0 by omega)
 have h2:=Int.emod_lt_of_pos z hm
 obtain ⟨h3,h4⟩:=yO (z:=z) hm
 rcases Int.lt_or_le (z.tmod m) 0 with h | h
 ·have:=h3 h; omega
 ·have:=h4 (by omega); omega
theorem vz {z m:Int} (hm:0 < m) (hm2:m≤9223372036854775807) :
  Ct Tryz.prog 52 [.int .i64 z,.int .i64 m] G U M fun v U' D=>v = .int .i64 (z % m)∧U=U'∧D=[]:=by
 obtain ⟨h1,h2⟩:=yO (z:=z) hm
 obtain ⟨h3,h4⟩:=QeJ (z:=z) hm
 refine QO Tryz.func52 rfl rfl rfl rfl ?_
 repeat (first|refine Qd ?_|refine Qc fun _=>?_|refine w_al fun _=>?_)
 refine sl_y (qu (k := .i64) (a:=z) (b:=m) rfl rfl rfl (by omega)) rfl rfl rfl rfl ?_
 repeat (first|refine Qd ?_|refine Qc fun _=>?_|refine w_al fun _=>?_)
 refine Qm rfl (fun h=>?_) (fun h=>?_)
 ·repeat (first|refine Qd ?_|refine Qc fun _=>?_|refine w_al fun _=>?_)
  exact Qp [] sym rfl (.cons (.tmp rfl) .nil) (ULe.refl _) sb (.inl rfl) ⟨by rw [h1 h]; rfl,rfl,rfl⟩
 ·repeat (first|refine Qd ?_|refine Qc fun _=>?_|refine w_al fun _=>?_)
  exact Qp [] sym rfl (.cons (.tmp rfl) .nil) (ULe.refl _) sb (.inl rfl) ⟨by rw [h2 h]; rfl,rfl,rfl⟩
noncomputable def isP (z:Int):Bool := @decide (0≤z∧Prm z.toNat) (Classical.propDecidable _)
noncomputable def modP (z:Int):Bool:=if z≤65521 then isP z else false
end Go.Proofs.YtnjpkncacddplaaGreatDoor

/- Walks of arith and of its reference: inverses modulo primes. -/
namespace Go.Proofs.YtnjpkncacddplaaGreatDoor
open Go.Hp
open Go.Fq (Pm Fp Prm)
variable {G:World} {U:UH} {M:MH}
end Go.Proofs.YtnjpkncacddplaaGreatDoor

/- Walks of modmatrix: residues as values; grids are made, and laid down as matrices. -/
namespace Go.Proofs.YtnjpkncacddplaaGreatDoor
open Go.Hp
open Go.Fq (Pm Fp Prm)
variable {G:World} {U U':UH} {M:MH}
def Vf (P:Pm) (_:UH) (v:Value) (x:Fp P):Prop:=v = .int .i64 (x.v:Int)
instance {P:Pm}:KeptC (Vf P):=⟨fun _ _ _ _ _ h=>h⟩
section
variable {P:Pm}
variable {N:Nat} {E:Env} {o:Oper} {ty yt:Nat} {s t:Operand}
end
end Go.Proofs.YtnjpkncacddplaaGreatDoor
