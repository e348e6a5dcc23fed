/- Texts of this seat's own, merged: each begins with its own remark. -/
import Derived.Test.YtnjpkncacddplaaGreatM101
import Derived.Test.YtnjpkncacddplaaGreatM96
import Derived.Test.YtnjpkncacddplaaGreatM91
import Derived.Test.YtnjpkncacddplaaGreatM2
import Derived.Test.YtnjpkncacddplaaGreatM98
import Derived.Test.YtnjpkncacddplaaGreatM104
/- What a run hands over, read as integers or as a row of them. No condition. -/
namespace Go.Gx
open Go.Hp Go.Proofs.YtnjpkncacddplaaGreat
variable {P:Program} {T:TT} {Q:Tab} {G:World} {U U' U1:UH} {M D:MH} {φ:Phi}
def tupC:List Int→List GV→Bool
 | [],[]=>true
 | z::zs,.one (.it k n)::r=>kEq k .i64 && decide (n=z) && tupC zs r
 | _,_=>false
theorem Qdj:∀ {zs:List Int} {l:List GV} {ys:List Value},tupC zs l=true→gdens φ l=some ys→ys=zs.map (.int .i64)
 | [],[],ys,_,h=>by
  have h:some []=some ys:=h
  simpa using h.symm
 | z::zs,.one (.it k n)::r,ys,h,hy=>by
  simp only [tupC,Bool.and_eq_true,decide_eq_true_eq] at h
  obtain ⟨⟨h1,rfl⟩,h2⟩:=h
  obtain rfl:=YX h1
  cases hr:gdens φ r with
  | none=>simp [gdens,GV.den,C.den,hr] at hy
  | some w =>
   simp only [gdens,GV.den,C.den,hr,Option.some.injEq] at hy
   rw [← hy,Qdj h2 hr]; rfl
 | [],_::_,_,h,_=>by cases h
 | _::_,[],_,h,_=>by cases h
 | _::_,.agg _::_,_,h,_=>by cases h
def isT (zs:List Int):Option (SV × Mm)→Bool
 | some (.tup l,_)=>tupC zs l
 | _=>false
theorem Qib (hQ:TabOK P T Q U) {F:Tr FI} (hF:FOK P T F) {S:CallF} (hS:CallsOK P U S) {lf fuel f:Nat} {args:List GV} {ys:List Value} {zs:List Int} (h:isT zs (runK F S Q lf fuel f args)=true) (hy:gdens ⟨[],[]⟩ args=some ys) :
  Ct P f ys G U M fun v U' _=>U'=U∧v = .tuple (zs.map (Value.int .i64)).toArray:=by
 unfold isT at h
 split at h
 ·rename_i l m' hr
  refine (jd hQ hF hS hr hy).mono ?_
  rintro v U' D - ⟨rfl,φ,-,-,h1,-⟩
  cases hr:gdens φ l with
  | none=>simp [SV.den,hr] at h1
  | some w =>
   simp only [SV.den,hr,Option.some.injEq] at h1
   rw [Qdj h hr] at h1
   exact ⟨rfl,h1.symm⟩
 ·cases h
def intsC:List Int→List C→Bool
 | [],_=>true
 | z::zs,.it k n::r=>kEq k .i64 && decide (n=z) && intsC zs r
 | _,_=>false
theorem Qby:∀ {zs:List Int} {cs:List C} {xs:List Value},intsC zs cs=true→dens φ cs=some xs→zs.length≤xs.length∧∀ (i:Nat) (z:Int),zs[i]?=some z→nth xs i=some (.int .i64 z)
 | [],_,_,_,_=>⟨Nat.zero_le _,fun i z h=>by simp at h⟩
 | z::zs,c::r,xs,h,hx=>by
  unfold intsC at h
  split at h
  ·rename_i e1; cases e1
  ·rename_i k n r' e1 e2
   simp only [List.cons.injEq] at e1 e2
   obtain ⟨rfl,rfl⟩:=e1
   obtain ⟨rfl,rfl⟩:=e2
   simp only [Bool.and_eq_true,decide_eq_true_eq] at h
   obtain ⟨⟨h1,rfl⟩,h2⟩:=h
   obtain rfl:=YX h1
   obtain ⟨u,us,g1,g2,rfl⟩:=YM hx
   obtain rfl:=Jk g1
   obtain ⟨g3,g4⟩:=Qby h2 g2
   refine ⟨by simp only [List.length_cons]; omega,fun i z hz=>?_⟩
   cases i with
   | zero=>simp only [List.getElem?_cons_zero,Option.some.injEq] at hz; subst hz; rfl
   | succ i=>exact g4 i z (by simpa using hz)
  ·cases h
 | _::_,[],_,h,_=>by cases h
noncomputable def isRw (s n:Nat) (zs:List Int):Option (SV × Mm)→Bool
 | some (.tup [.one (.sl l o j n'),.one (.it k' e)],m)=>Nat.beq o 0 && Nat.beq j 0 && Nat.beq n' n && kEq k' .i64 && decide (e=0) && (match m.t.get l with
  | some b=>Nat.beq b.sz s && intsC zs b.cells
  | none=>false)
 | _=>false
theorem Qck (hQ:TabOK P T Q U) {F:Tr FI} (hF:FOK P T F) {S:CallF} (hS:CallsOK P U S) {lf fuel f s n:Nat} {args:List GV} {ys vs:List Value} {zs:List Int} (h:isRw s n zs (runK F S Q lf fuel f args)=true) (hy:gdens ⟨[],[]⟩ args=some ys)
  (hs0:s≠0) (hn:vs.length=n) (hs:∀ v ∈ vs,v.cells.toList.length=s) (hf:(vs.flatMap fun v=>v.cells.toList)=zs.map (Value.int .i64)) (hz:zs.length=n*s) :
  Ct P f ys G U M fun v U' D=>∃ p c,v = .tuple #[.slice p n c,.int .i64 0]∧n≤c∧RowAt U' [] s p n vs∧D=[]:=by
 unfold isRw at h
 split at h
 ·rename_i l o j n' k' e m hr
  simp only [Bool.and_eq_true,decide_eq_true_eq] at h
  obtain ⟨⟨⟨⟨⟨c2,c3⟩,c4⟩,c5⟩,rfl⟩,c6⟩:=h
  obtain rfl:=YX c5
  obtain rfl:=Nat.eq_of_beq_eq_true c2
  obtain rfl:=Nat.eq_of_beq_eq_true c3
  obtain rfl:=Nat.eq_of_beq_eq_true c4
  split at c6
  ·rename_i b hb
   simp only [Bool.and_eq_true] at c6
   obtain ⟨hsz,hc⟩:=c6
   have hsz:=Nat.eq_of_beq_eq_true hsz
   have hC:=jd (G:=G) (M:=M) hQ hF hS hr hy
   refine ⟨hC.1,fun w hw=>(hC.2 w hw).mono ?_⟩
   rintro e w' ⟨v,U',D,rfl,hle,hm,rfl,φ,D',rfl,h1,h2⟩
   obtain ⟨U2,u1,u2,u3⟩:=Yr hm
   obtain ⟨rs,hp,-⟩:=Tr.ents_get hb
   obtain ⟨M3,hm3,d,xs,M4,g1,g2,g3,g4,g5⟩:=MemR.perm hp h2
   subst g4
   have hmem:ent d b xs ∈ D'++φ.j:=List.mem_append_left _ (hm3.mem_iff.2 (List.mem_cons_self ..))
   obtain ⟨q1,q2⟩:=Qby hc g2
   have hcap:=(g3.2 (by rw [hsz]; exact hs0)).1
   rw [hsz] at hcap
   have ho:=g3.1
   have hcc:vs.length≤d.c:=Nat.le_of_mul_le_mul_right (show vs.length*s≤d.c*s by rw [hn]; omega) (Nat.pos_of_ne_zero hs0)
   simp only [SV.den,gdens,GV.den,C.den,g1,Option.some.injEq] at h1
   refine ⟨v,U2,[],rfl,u1,u2,_,_,h1.symm,by omega,⟨hn,hs,fun i v hv=>⟨rfl,fun j y hj G w hw=>?_⟩⟩,rfl⟩
   have hj2:j < s:=by rw [← hs v (List.mem_of_getElem? hv)]; exact (List.getElem?_eq_some_iff.1 hj).1
   have hg:=jp (k:=j) hs hv hj2
   rw [hf,hj,List.getElem?_map] at hg
   cases hz2:zs[i*s+j]? with
   | none=>rw [hz2] at hg; cases hg
   | some z =>
    rw [hz2] at hg
    simp only [Option.map_some,Option.some.injEq] at hg
    have h5:=q2 _ _ hz2
    rw [hg] at h5
    simp only [elt,Option.getD_some,QL]
    rw [ho]
    simp only [Nat.zero_add]
    exact hw.cellU (Qiq u3 hmem h5)
  ·cases c6
 ·cases h
def isOn (z:Int):Option (SV × Mm)→Bool
 | some (.one (.one (.it k n)),_)=>kEq k .i64 && decide (n=z)
 | _=>false
def isN3 (x c e:Int):Option (SV × Mm)→Bool
 | some (.tup [.one (.it k1 a),.one (.it k2 b),.one (.it k3 d)],_)=>kEq k1 .i64 && kEq k2 .i64 && kEq k3 .i64 && !(decide (a=x) && (decide (b=c) && decide (d=e)))
 | _=>false
end Go.Gx

/- The functions that are run by the kernel. No condition. -/
namespace Go.Proofs.YtnjpkncacddplaaGreat
open Go.Hp Go.Gx
theorem gy1:FE Tryz.prog tys (17,FI.of Tryz.f17 [(11,([5],[0,1,2,3,4,5,6])),(12,([3],[0,1,2,3,4]))]):=Qp Tryz.func17 (by kernel_rfl)
end Go.Proofs.YtnjpkncacddplaaGreat

/- Runs for the law TopRepresentations. No condition. -/
namespace Go.Proofs.YtnjpkncacddplaaGreat
open Go.Hp Go.Gx Go.Rp
def flat3:List (Int × Int × Int)→List Int
 | []=>[]
 | f::r=>f.1::f.2.1::f.2.2::flat3 r
end Go.Proofs.YtnjpkncacddplaaGreat
