/- Texts of this seat's own, merged: each begins with its own remark. -/
import Derived.Test.YtnjpkncacddplaaGreatM4
import Derived.Test.YtnjpkncacddplaaGreatM2
import Derived.Test.YtnjpkncacddplaaGreatM3
import Derived.Test.YtnjpkncacddplaaGreatM1
/- Walks: integers as machine integers; the reference's number of binary digits. -/
namespace Go.Proofs.YtnjpkncacddplaaGreat
open Go.Hp
variable {G:World} {U:UH} {M:MH}
def smv (z:Int):Int:=if -9223372036854775808≤z∧z≤9223372036854775807 then z else 0
def smb (z:Int):Bool:=decide (-9223372036854775808≤z∧z≤9223372036854775807)
theorem Qdl {z:Int} (h : -9223372036854775808≤z∧z≤9223372036854775807):smv z=z∧smb z=true:=by
 unfold smv smb
 rw [if_pos h]
 exact ⟨rfl,decide_eq_true h⟩
theorem vd {z:Int} (h:¬ (-9223372036854775808≤z∧z≤9223372036854775807)):smv z=0∧smb z=false:=by
 unfold smv smb
 rw [if_neg h]
 exact ⟨rfl,decide_eq_false h⟩
theorem neg64 {n:Nat} (h:n≤9223372036854775808):IntKind.i64.wrap (IntKind.u64.wrap (0 - (n:Int))) = -(n:Int):=by
 rw [IntKind.wrap_u64]
 simp [IntKind.wrap,IntKind.bits,IntKind.signed]
 omega
theorem Qda {l:List Nat} (h:Cn l) (hl:2 < l.length):18446744073709551616≤val l:=by
 have h1:=h.ge (fun e=>by subst e; simp at hl)
 have h2:4294967296 ^ 2≤4294967296 ^ (l.length - 1):=Nat.pow_le_pow_right (by decide) (by omega)
 omega
theorem QgU {x:IV} {z:Int} (hx:x.rep U M z) (hn:x.n≤1099511627776) :
  Ct Tryz.prog 31 [x.v] G U M fun v U' D=>v = .tuple #[.int .i64 (smv z),.bool (smb z)]∧U=U'∧D=[]:=by
 obtain ⟨neg,p,n,c⟩:=x
 obtain ⟨l,hd,rfl⟩:=hx
 simp only at hd hn
 have hc:=JZ hd.bd
 have hle:(tl l).length≤n:=by have:=QF l; have:=hd.len; omega
 have ht:=hd.tl
 rw [← QQ l]
 refine Qg Tryz.func31 rfl rfl rfl rfl ?_
 repeat (first|refine Qb ?_|refine Qa fun _=>?_|refine w_al fun _=>?_)
 refine Qd rfl rfl rfl rfl rfl rfl (fun _=>QD (hd.up (ULe.refl _) sb)) ?_
 rintro v U' D hU ⟨rfl,rfl,rfl⟩
 generalize tl l=a at *
 repeat (first|refine Qb ?_|refine Qa fun _=>?_|refine w_al fun _=>?_)
 refine Qh rfl (fun h0=>?_) (fun h0=>?_)
 ·have h2:=Qda hc (by omega)
  obtain ⟨e1,e2⟩:=vd (z:=sg neg (val a)) (by unfold sg; split<;>omega)
  rw [e1,e2]
  repeat (first|refine Qb ?_|refine Qa fun _=>?_|refine w_al fun _=>?_)
  exact Qe [] sym rfl (.cons (.tmp rfl) (.cons (.tmp rfl) .nil)) (ULe.refl _) sb (.inl rfl) ⟨rfl,rfl,rfl⟩
 ·repeat (first|refine Qb ?_|refine Qa fun _=>?_|refine w_al fun _=>?_)
  refine Qd rfl rfl rfl rfl rfl rfl (fun _=>jk (ht.up (ULe.refl _) sb) (by omega)) ?_
  rintro v U' D hU ⟨rfl,rfl,rfl⟩
  repeat (first|refine Qb ?_|refine Qa fun _=>?_|refine w_al fun _=>?_)
  have hb:=Jl ht.bd
  have hb2:4294967296 ^ a.length≤4294967296 ^ 2:=Nat.pow_le_pow_right (by decide) (by omega)
  have hb3:val a < 18446744073709551616:=by omega
  generalize val a=m at *
  refine Qt rfl rfl (fun h1=>?_) (fun h1=>?_)
  ·obtain ⟨e1,e2⟩:=vd (z:=sg neg m) (by unfold sg; split<;>omega)
   rw [e1,e2]
   repeat (first|refine Qb ?_|refine Qa fun _=>?_|refine w_al fun _=>?_)
   exact Qe [] sym rfl (.cons (.tmp rfl) (.cons (.tmp rfl) .nil)) (ULe.refl _) sb (.inl rfl) ⟨rfl,rfl,rfl⟩
  ·repeat (first|refine Qb ?_|refine Qa fun _=>?_|refine w_al fun _=>?_)
   cases neg
   ·refine Qt rfl rfl (fun h2=>?_) (fun h2=>?_)
    ·obtain ⟨e1,e2⟩:=vd (z:=sg false m) (by simp only [sg]; simp; omega)
     rw [e1,e2]
     repeat (first|refine Qb ?_|refine Qa fun _=>?_|refine w_al fun _=>?_)
     exact Qe [] sym rfl (.cons (.tmp rfl) (.cons (.tmp rfl) .nil)) (ULe.refl _) sb (.inl rfl) ⟨rfl,rfl,rfl⟩
    ·obtain ⟨e1,e2⟩:=Qdl (z:=sg false m) (by simp only [sg]; simp; omega)
     rw [e1,e2]
     repeat (first|refine Qb ?_|refine Qa fun _=>?_|refine w_al fun _=>?_)
     exact Qe [] sym rfl (.cons (.tmp rfl) (.cons (.tmp rfl) .nil)) (ULe.refl _) sb (.inl rfl) ⟨rfl,rfl,rfl⟩
   ·obtain ⟨e1,e2⟩:=Qdl (z:=sg true m) (by simp only [sg]; simp; omega)
    rw [e1,e2]
    refine Qt rfl rfl (fun h2=>?_) (fun h2=>?_)
    ·repeat (first|refine Qb ?_|refine Qa fun _=>?_|refine w_al fun _=>?_)
     rw [neg64 (by omega)]
     exact Qe [] sym rfl (.cons (.tmp rfl) (.cons (.tmp rfl) .nil)) (ULe.refl _) sb (.inl rfl) ⟨rfl,rfl,rfl⟩
    ·repeat (first|refine Qb ?_|refine Qa fun _=>?_|refine w_al fun _=>?_)
     rw [neg64 (by omega)]
     exact Qe [] sym rfl (.cons (.tmp rfl) (.cons (.tmp rfl) .nil)) (ULe.refl _) sb (.inl rfl) ⟨rfl,rfl,rfl⟩
end Go.Proofs.YtnjpkncacddplaaGreat

/- Walks of the reference of layer 1: words, shifts. -/
namespace Go.Proofs.YtnjpkncacddplaaGreat
open Go.Hp
variable {G:World} {U:UH} {M:MH}
end Go.Proofs.YtnjpkncacddplaaGreat

/- Walks of the reference of layer 1: division of digits, binary digit by binary digit. -/
namespace Go.Proofs.YtnjpkncacddplaaGreat
open Go.Hp
variable {G:World} {U:UH} {M:MH}
theorem jO {l:List Nat} (hb:Bd l):blen (val l)≤32*l.length:=by
 refine JV ?_
 have:=Jl hb
 rw [Nat.pow_mul]
 exact this
def OwnOr (D:MH) (q:Option Addr) (k cc:Nat) (lr:List Nat) (p:Option Addr) (n c:Nat) (a:List Nat):Prop :=
 Own D q k cc lr∨(D=[]∧q=p∧k=n∧cc=c∧lr=a)
theorem OwnOr.dig {D X:MH} {q p:Option Addr} {k cc n c:Nat} {lr a:List Nat} (h:OwnOr D q k cc lr p n c a) (ha:Dig U M p n c a) (hX:M.Sublist X):Dig U (D++X) q k cc lr:=by
 rcases h with h | ⟨rfl,rfl,rfl,rfl,rfl⟩
 ·exact h.dig
 ·exact ha.up (ULe.refl _) hX
end Go.Proofs.YtnjpkncacddplaaGreat

/- Walks of the reference of layer 1: Euclid's division of integers. -/
namespace Go.Proofs.YtnjpkncacddplaaGreat
open Go.Hp
variable {G:World} {U:UH} {M:MH}
theorem IV.own.form {x:IV} {D:MH} {z:Int} (h:x.own D z):∃ l,Own D x.p x.n x.c l∧Cn l∧val l=z.natAbs∧z=sg x.neg (val l):=by
 obtain ⟨l,o,c,v,s⟩:=h
 refine ⟨l,o,c,v,?_⟩
 rw [v,s]; unfold sg; by_cases h:z < 0<;>simp [h]<;>omega
end Go.Proofs.YtnjpkncacddplaaGreat
