/- Texts of this seat's own, merged: each begins with its own remark. -/
import Derived.Test.YtnjpkncacddplaaGreatDoorM101
import Derived.Test.YtnjpkncacddplaaGreatDoorM96
import Derived.Test.YtnjpkncacddplaaGreatDoorM91
import Derived.Test.YtnjpkncacddplaaGreatDoorM2
import Derived.Test.YtnjpkncacddplaaGreatDoorM98
import Derived.Test.YtnjpkncacddplaaGreatDoorM104
/- What a run hands over, read as integers or as a row of them. No condition. -/
namespace Go.Gx
open Go.Hp Go.Proofs.YtnjpkncacddplaaGreatDoor
variable {P:Program} {T:TT} {Q:Tab} {G:World} {U U' U1:UH} {M D:MH} {φ:Phi}
def tupC:List Int→List GV→Bool
 | [],[]=>true
 | z::zs,.one (.it k n)::r=>kEq k .i64 && decide (n=z) && tupC zs r
 | _,_=>false
theorem QaZ:∀ {zs:List Int} {l:List GV} {ys:List Value},tupC zs l=true→gdens φ l=some ys→ys=zs.map (.int .i64)
 | [],[],ys,_,h=>by
  have h:some []=some ys:=h
  simpa using h.symm
 | z::zs,.one (.it k n)::r,ys,h,hy=>by
  simp only [tupC,Bool.and_eq_true,decide_eq_true_eq] at h
  obtain ⟨⟨h1,rfl⟩,h2⟩:=h
  obtain rfl:=Jr h1
  cases hr:gdens φ r with
  | none=>simp [gdens,GV.den,C.den,hr] at hy
  | some w =>
   simp only [gdens,GV.den,C.den,hr,Option.some.injEq] at hy
   rw [← hy,QaZ h2 hr]; rfl
 | [],_::_,_,h,_=>by cases h
 | _::_,[],_,h,_=>by cases h
 | _::_,.agg _::_,_,h,_=>by cases h
def isT (zs:List Int):Option (SV × Mm)→Bool
 | some (.tup l,_)=>tupC zs l
 | _=>false
theorem Qeq (hQ:TabOK P T Q U) {F:Tr FI} (hF:FOK P T F) {S:CallF} (hS:CallsOK P U S) {lf fuel f:Nat} {args:List GV} {ys:List Value} {zs:List Int} (h:isT zs (runK F S Q lf fuel f args)=true) (hy:gdens ⟨[],[]⟩ args=some ys) :
  Ct P f ys G U M fun v U' _=>U'=U∧v = .tuple (zs.map (Value.int .i64)).toArray:=by
 unfold isT at h
 split at h
 ·rename_i l m' hr
  refine (Vw hQ hF hS hr hy).mono ?_
  rintro v U' D - ⟨rfl,φ,-,-,h1,-⟩
  cases hr:gdens φ l with
  | none=>simp [SV.den,hr] at h1
  | some w =>
   simp only [SV.den,hr,Option.some.injEq] at h1
   rw [QaZ h hr] at h1
   exact ⟨rfl,h1.symm⟩
 ·cases h
def intsC:List Int→List C→Bool
 | [],_=>true
 | z::zs,.it k n::r=>kEq k .i64 && decide (n=z) && intsC zs r
 | _,_=>false
theorem va:∀ {zs:List Int} {cs:List C} {xs:List Value},intsC zs cs=true→dens φ cs=some xs→zs.length≤xs.length∧∀ (i:Nat) (z:Int),zs[i]?=some z→nth xs i=some (.int .i64 z)
 | [],_,_,_,_=>⟨Nat.zero_le _,fun i z h=>by simp at h⟩
 | z::zs,c::r,xs,h,hx=>by
  unfold intsC at h
  split at h
  ·rename_i e1; cases e1
  ·rename_i k n r' e1 e2
   simp only [List.cons.injEq] at e1 e2
   obtain ⟨rfl,rfl⟩:=e1
   obtain ⟨rfl,rfl⟩:=e2
   simp only [Bool.and_eq_true,decide_eq_true_eq] at h
   obtain ⟨⟨h1,rfl⟩,h2⟩:=h
   obtain rfl:=Jr h1
   obtain ⟨u,us,g1,g2,rfl⟩:=JL hx
   obtain rfl:=QI g1
   obtain ⟨g3,g4⟩:=va h2 g2
   refine ⟨by simp only [List.length_cons]; omega,fun i z hz=>?_⟩
   cases i with
   | zero=>simp only [List.getElem?_cons_zero,Option.some.injEq] at hz; subst hz; rfl
   | succ i=>exact g4 i z (by simpa using hz)
  ·cases h
 | _::_,[],_,h,_=>by cases h
noncomputable def isRw (s n:Nat) (zs:List Int):Option (SV × Mm)→Bool
 | some (.tup [.one (.sl l o j n'),.one (.it k' e)],m)=>Nat.beq o 0 && Nat.beq j 0 && Nat.beq n' n && kEq k' .i64 && decide (e=0) && (match m.t.get l with
  | some b=>Nat.beq b.sz s && intsC zs b.cells
  | none=>false)
 | _=>false
theorem yI (hQ:TabOK P T Q U) {F:Tr FI} (hF:FOK P T F) {S:CallF} (hS:CallsOK P U S) {lf fuel f s n:Nat} {args:List GV} {ys vs:List Value} {zs:List Int} (h:isRw s n zs (runK F S Q lf fuel f args)=true) (hy:gdens ⟨[],[]⟩ args=some ys)
  (hs0:s≠0) (hn:vs.length=n) (hs:∀ v ∈ vs,v.cells.toList.length=s) (hf:(vs.flatMap fun v=>v.cells.toList)=zs.map (Value.int .i64)) (hz:zs.length=n*s) :
  Ct P f ys G U M fun v U' D=>∃ p c,v = .tuple #[.slice p n c,.int .i64 0]∧n≤c∧RowAt U' [] s p n vs∧D=[]:=by
 unfold isRw at h
 split at h
 ·rename_i l o j n' k' e m hr
  simp only [Bool.and_eq_true,decide_eq_true_eq] at h
  obtain ⟨⟨⟨⟨⟨c2,c3⟩,c4⟩,c5⟩,rfl⟩,c6⟩:=h
  obtain rfl:=Jr c5
  obtain rfl:=Nat.eq_of_beq_eq_true c2
  obtain rfl:=Nat.eq_of_beq_eq_true c3
  obtain rfl:=Nat.eq_of_beq_eq_true c4
  split at c6
  ·rename_i b hb
   simp only [Bool.and_eq_true] at c6
   obtain ⟨hsz,hc⟩:=c6
   have hsz:=Nat.eq_of_beq_eq_true hsz
   have hC:=Vw (G:=G) (M:=M) hQ hF hS hr hy
   refine ⟨hC.1,fun w hw=>(hC.2 w hw).mono ?_⟩
   rintro e w' ⟨v,U',D,rfl,hle,hm,rfl,φ,D',rfl,h1,h2⟩
   obtain ⟨U2,u1,u2,u3⟩:=JZ hm
   obtain ⟨rs,hp,-⟩:=Tr.ents_get hb
   obtain ⟨M3,hm3,d,xs,M4,g1,g2,g3,g4,g5⟩:=MemR.perm hp h2
   subst g4
   have hmem:ent d b xs ∈ D'++φ.j:=List.mem_append_left _ (hm3.mem_iff.2 (List.mem_cons_self ..))
   obtain ⟨q1,q2⟩:=va hc g2
   have hcap:=(g3.2 (by rw [hsz]; exact hs0)).1
   rw [hsz] at hcap
   have ho:=g3.1
   have hcc:vs.length≤d.c:=Nat.le_of_mul_le_mul_right (show vs.length*s≤d.c*s by rw [hn]; omega) (Nat.pos_of_ne_zero hs0)
   simp only [SV.den,gdens,GV.den,C.den,g1,Option.some.injEq] at h1
   refine ⟨v,U2,[],rfl,u1,u2,_,_,h1.symm,by omega,⟨hn,hs,fun i v hv=>⟨rfl,fun j y hj G w hw=>?_⟩⟩,rfl⟩
   have hj2:j < s:=by rw [← hs v (List.mem_of_getElem? hv)]; exact (List.getElem?_eq_some_iff.1 hj).1
   have hg:=qH (k:=j) hs hv hj2
   rw [hf,hj,List.getElem?_map] at hg
   cases hz2:zs[i*s+j]? with
   | none=>rw [hz2] at hg; cases hg
   | some z =>
    rw [hz2] at hg
    simp only [Option.map_some,Option.some.injEq] at hg
    have h5:=q2 _ _ hz2
    rw [hg] at h5
    simp only [elt,Option.getD_some,QF]
    rw [ho]
    simp only [Nat.zero_add]
    exact hw.cellU (Qfb u3 hmem h5)
  ·cases c6
 ·cases h
def isOn (z:Int):Option (SV × Mm)→Bool
 | some (.one (.one (.it k n)),_)=>kEq k .i64 && decide (n=z)
 | _=>false
theorem yW (hQ:TabOK P T Q U) {F:Tr FI} (hF:FOK P T F) {S:CallF} (hS:CallsOK P U S) {lf fuel f:Nat} {args:List GV} {ys:List Value} {z:Int} (h:isOn z (runK F S Q lf fuel f args)=true) (hy:gdens ⟨[],[]⟩ args=some ys) :
  Ct P f ys G U M fun v U' _=>U'=U∧v = .int .i64 z:=by
 unfold isOn at h
 split at h
 ·rename_i k n m' hr
  simp only [Bool.and_eq_true,decide_eq_true_eq] at h
  obtain ⟨h1,rfl⟩:=h
  obtain rfl:=Jr h1
  refine (Vw hQ hF hS hr hy).mono ?_
  rintro v U' D - ⟨rfl,φ,-,-,h1,-⟩
  have h2:some (Value.int .i64 n)=some v:=h1
  simp only [Option.some.injEq] at h2
  exact ⟨rfl,h2.symm⟩
 ·cases h
def isN3 (x c e:Int):Option (SV × Mm)→Bool
 | some (.tup [.one (.it k1 a),.one (.it k2 b),.one (.it k3 d)],_)=>kEq k1 .i64 && kEq k2 .i64 && kEq k3 .i64 && !(decide (a=x) && (decide (b=c) && decide (d=e)))
 | _=>false
theorem QcT (hQ:TabOK P T Q U) {F:Tr FI} (hF:FOK P T F) {S:CallF} (hS:CallsOK P U S) {lf fuel f:Nat} {args:List GV} {ys:List Value} {x c e:Int} (h:isN3 x c e (runK F S Q lf fuel f args)=true) (hy:gdens ⟨[],[]⟩ args=some ys) :
  Ct P f ys G U M fun v U' _=>U'=U∧∃ a b d:Int,v = .tuple #[.int .i64 a,.int .i64 b,.int .i64 d]∧¬ (a=x∧b=c∧d=e):=by
 unfold isN3 at h
 split at h
 ·rename_i k1 a k2 b k3 d m' hr
  simp only [Bool.and_eq_true,Bool.not_eq_true',Bool.and_eq_false_iff,decide_eq_false_iff_not] at h
  obtain ⟨⟨⟨h1,h2⟩,h3⟩,h4⟩:=h
  obtain rfl:=Jr h1
  obtain rfl:=Jr h2
  obtain rfl:=Jr h3
  refine (Vw hQ hF hS hr hy).mono ?_
  rintro v U' D - ⟨rfl,φ,-,-,h1,-⟩
  have h2:some (Value.tuple #[.int .i64 a,.int .i64 b,.int .i64 d])=some v:=h1
  simp only [Option.some.injEq] at h2
  exact ⟨rfl,a,b,d,h2.symm,fun ⟨e1,e2,e3⟩=>by
   rcases h4 with h | h | h
   ·exact h e1
   ·exact h e2
   ·exact h e3⟩
 ·cases h
end Go.Gx

/- The functions that are run by the kernel. No condition. -/
namespace Go.Proofs.YtnjpkncacddplaaGreatDoor
open Go.Hp Go.Gx
theorem gy0:FE Tryz.prog tys (18,FI.of Tryz.f18 []):=Qb Tryz.func18 (by kernel_rfl)
theorem gy1:FE Tryz.prog tys (14,FI.of Tryz.f14 [(11,([5],[0,1,2,3,4,5,6])),(12,([3],[0,1,2,3,4]))]):=Qb Tryz.func14 (by kernel_rfl)
theorem gy2:FE Tryz.prog tys (67,FI.of Tryz.f67 []):=Qb Tryz.func67 (by kernel_rfl)
theorem gy3:FE Tryz.prog tys (15,FI.of Tryz.f15 []):=Qb Tryz.func15 (by kernel_rfl)
theorem gy4:FE Tryz.prog tys (17,FI.of Tryz.f17 []):=Qb Tryz.func17 (by kernel_rfl)
theorem gy5:FE Tryz.prog tys (64,FI.of Tryz.f64 []):=Qb Tryz.func64 (by kernel_rfl)
theorem gy6:FE Tryz.prog tys (65,FI.of Tryz.f65 []):=Qb Tryz.func65 (by kernel_rfl)
theorem gy7:FE Tryz.prog tys (53,FI.of Tryz.f53 []):=Qb Tryz.func53 (by kernel_rfl)
theorem gy8:FE Tryz.prog tys (66,FI.of Tryz.f66 []):=Qb Tryz.func66 (by kernel_rfl)
theorem gy9:FE Tryz.prog tys (52,FI.of Tryz.f52 []):=Qb Tryz.func52 (by kernel_rfl)
theorem gy10:FE Tryz.prog tys (54,FI.of Tryz.f54 [(0,([6],[0,1,2,3,4,5,6])),(1,([6],[0,1,2,3,4,5,6]))]):=Qb Tryz.func54 (by kernel_rfl)
theorem gy11:FE Tryz.prog tys (56,FI.of Tryz.f56 []):=Qb Tryz.func56 (by kernel_rfl)
theorem gy12:FE Tryz.prog tys (57,FI.of Tryz.f57 []):=Qb Tryz.func57 (by kernel_rfl)
theorem gy13:FE Tryz.prog tys (58,FI.of Tryz.f58 []):=Qb Tryz.func58 (by kernel_rfl)
theorem gy14:FE Tryz.prog tys (62,FI.of Tryz.f62 [(1,([7],[0,1,2,3,5,6,4,7,8]))]):=Qb Tryz.func62 (by kernel_rfl)
theorem gy15:FE Tryz.prog tys (61,FI.of Tryz.f61 []):=Qb Tryz.func61 (by kernel_rfl)
theorem gy16:FE Tryz.prog tys (63,FI.of Tryz.f63 []):=Qb Tryz.func63 (by kernel_rfl)
theorem gy17:FE Tryz.prog tys (122,FI.of Tryz.f122 []):=Qb Tryz.func122 (by kernel_rfl)
theorem gy18:FE Tryz.prog tys (121,FI.of Tryz.f121 [(17,([12],[0,1,2,3,4,5,6,7,8,9,10,11,12,13,14]))]):=Qb Tryz.func121 (by kernel_rfl)
theorem gy19:FE Tryz.prog tys (55,FI.of Tryz.f55 []):=Qb Tryz.func55 (by kernel_rfl)
theorem gy20:FE Tryz.prog tys (120,FI.of Tryz.f120 [(2,([],[0,1,2,3,4,5]))]):=Qb Tryz.func120 (by kernel_rfl)
theorem gy21:FE Tryz.prog tys (169,FI.of Tryz.f169 []):=Qb Tryz.func169 (by kernel_rfl)
theorem gy22:FE Tryz.prog tys (179,FI.of Tryz.f179 []):=Qb Tryz.func179 (by kernel_rfl)
theorem gy23:FE Tryz.prog tys (170,FI.of Tryz.f170 [(4,([13],[0,1,2,3,4,5,6,7,8,9,10,11,12,13,14])),(6,([15,17],[0,1,2,3,5,6,7,8,9,10,11,12,13,14,4,15,16,17]))]):=Qb Tryz.func170 (by kernel_rfl)
theorem gy24:FE Tryz.prog tys (171,FI.of Tryz.f171 [(10,([17,19],[0,1,2,3,4,6,7,8,9,10,11,12,13,14,15,16,5,17,18,19]))]):=Qb Tryz.func171 (by kernel_rfl)
theorem gy25:FE Tryz.prog tys (172,FI.of Tryz.f172 [(10,([17,19],[0,1,2,3,4,6,7,8,9,10,11,12,13,14,15,16,5,17,18,19]))]):=Qb Tryz.func172 (by kernel_rfl)
theorem gy26:FE Tryz.prog tys (173,FI.of Tryz.f173 []):=Qb Tryz.func173 (by kernel_rfl)
theorem gy27:FE Tryz.prog tys (174,FI.of Tryz.f174 [(3,([13,15],[0,1,2,3,4,5,6,7,8,9,10,11,12,13,14,15]))]):=Qb Tryz.func174 (by kernel_rfl)
theorem gy28:FE Tryz.prog tys (175,FI.of Tryz.f175 [(5,([13],[0,1,2,3,4,5,6,7,8,9,10,11,12,13,14,15])),(11,([15,17],[0,1,2,3,5,6,7,8,9,10,11,12,13,14,4,15,16,17])),(16,([9],[0,1,2,3,4,5,6,7,8,9,10])),(17,([15,17],[0,1,2,3,5,6,7,8,9,10,11,12,13,14,4,15,16,17])),(22,([9],[0,1,2,3,4,5,6,7,8,9,10])),(23,([15,17],[0,1,2,3,5,6,7,8,9,10,11,12,13,14,4,15,16,17]))]):=Qb Tryz.func175 (by kernel_rfl)
theorem gy29:FE Tryz.prog tys (176,FI.of Tryz.f176 []):=Qb Tryz.func176 (by kernel_rfl)
theorem gy30:FE Tryz.prog tys (177,FI.of Tryz.f177 [(1,([13,15],[0,1,2,3,4,5,6,7,8,9,10,11,12,13,14,15])),(3,([12],[0,1,2,3,4,5,6,7,8,9,10,11,12,13,14])),(5,([12],[0,1,2,3,4,5,6,7,8,9,10,11,12,13])),(8,([13,15],[0,1,2,3,4,5,6,7,8,9,10,11,12,13,14,15]))]):=Qb Tryz.func177 (by kernel_rfl)
theorem gy31:FE Tryz.prog tys (178,FI.of Tryz.f178 [(1,([13,15],[0,1,2,3,4,5,6,7,8,9,10,11,12,13,14,15])),(3,([12],[0,1,2,3,4,5,6,7,8,9,10,11,12,13])),(5,([12],[0,1,2,3,4,5,6,7,8,9,10,11,12,13,14])),(8,([13,15],[0,1,2,3,4,5,6,7,8,9,10,11,12,13,14,15])),(10,([13,15],[0,1,2,3,4,5,6,7,8,9,10,11,12,13,14,15])),(13,([12],[0,1,2,3,4,5,6,7,8,9,10,11,12,13])),(15,([12],[0,1,2,3,4,5,6,7,8,9,10,11,12,13,14])),(18,([13,15],[0,1,2,3,4,5,6,7,8,9,10,11,12,13,14,15])),(21,([13,15],[0,1,2,3,4,5,6,7,8,9,10,11,12,13,14,15]))]):=Qb Tryz.func178 (by kernel_rfl)
theorem gy32:FE Tryz.prog tys (218,FI.of Tryz.f218 [(3,([18],[0,1,2,3,4,5,6,7,8,9,10,11,12,13,14,15,16,17,18,19])),(5,([12],[0,1,2,3,4,5,6,7,8,9,10,11,12,13])),(6,([21,23],[0,1,2,3,4,5,6,8,9,10,11,12,13,14,15,16,17,18,19,20,7,21,22,23]))]):=Qb Tryz.func218 (by kernel_rfl)
theorem gy33:FE Tryz.prog tys (219,FI.of Tryz.f219 []):=Qb Tryz.func219 (by kernel_rfl)
theorem gy34:FE Tryz.prog tys (220,FI.of Tryz.f220 [(1,([9],[0,1,2,3,4,5,6,7,8,9])),(2,([9],[0,1,2,3,4,5,6,7,8,9])),(3,([9],[0,1,2,3,4,5,6,7,8,9]))]):=Qb Tryz.func220 (by kernel_rfl)
theorem gy35:FE Tryz.prog tys (221,FI.of Tryz.f221 []):=Qb Tryz.func221 (by kernel_rfl)
theorem gy36:FE Tryz.prog tys (222,FI.of Tryz.f222 []):=Qb Tryz.func222 (by kernel_rfl)
theorem gy37:FE Tryz.prog tys (223,FI.of Tryz.f223 []):=Qb Tryz.func223 (by kernel_rfl)
theorem gy38:FE Tryz.prog tys (237,FI.of Tryz.f237 [(1,([8],[0,1,2,3,4,5,6,7,8]))]):=Qb Tryz.func237 (by kernel_rfl)
noncomputable def fnL2:List (Nat × FI):=[
 (18,FI.of Tryz.f18 []),
 (14,FI.of Tryz.f14 [(11,([5],[0,1,2,3,4,5,6])),(12,([3],[0,1,2,3,4]))]),
 (67,FI.of Tryz.f67 []),
 (15,FI.of Tryz.f15 []),
 (17,FI.of Tryz.f17 []),
 (64,FI.of Tryz.f64 []),
 (65,FI.of Tryz.f65 []),
 (53,FI.of Tryz.f53 []),
 (66,FI.of Tryz.f66 []),
 (52,FI.of Tryz.f52 []),
 (54,FI.of Tryz.f54 [(0,([6],[0,1,2,3,4,5,6])),(1,([6],[0,1,2,3,4,5,6]))]),
 (56,FI.of Tryz.f56 []),
 (57,FI.of Tryz.f57 []),
 (58,FI.of Tryz.f58 []),
 (62,FI.of Tryz.f62 [(1,([7],[0,1,2,3,5,6,4,7,8]))]),
 (61,FI.of Tryz.f61 []),
 (63,FI.of Tryz.f63 []),
 (122,FI.of Tryz.f122 []),
 (121,FI.of Tryz.f121 [(17,([12],[0,1,2,3,4,5,6,7,8,9,10,11,12,13,14]))]),
 (55,FI.of Tryz.f55 []),
 (120,FI.of Tryz.f120 [(2,([],[0,1,2,3,4,5]))]),
 (169,FI.of Tryz.f169 []),
 (179,FI.of Tryz.f179 []),
 (170,FI.of Tryz.f170 [(4,([13],[0,1,2,3,4,5,6,7,8,9,10,11,12,13,14])),(6,([15,17],[0,1,2,3,5,6,7,8,9,10,11,12,13,14,4,15,16,17]))]),
 (171,FI.of Tryz.f171 [(10,([17,19],[0,1,2,3,4,6,7,8,9,10,11,12,13,14,15,16,5,17,18,19]))]),
 (172,FI.of Tryz.f172 [(10,([17,19],[0,1,2,3,4,6,7,8,9,10,11,12,13,14,15,16,5,17,18,19]))]),
 (173,FI.of Tryz.f173 []),
 (174,FI.of Tryz.f174 [(3,([13,15],[0,1,2,3,4,5,6,7,8,9,10,11,12,13,14,15]))]),
 (175,FI.of Tryz.f175 [(5,([13],[0,1,2,3,4,5,6,7,8,9,10,11,12,13,14,15])),(11,([15,17],[0,1,2,3,5,6,7,8,9,10,11,12,13,14,4,15,16,17])),(16,([9],[0,1,2,3,4,5,6,7,8,9,10])),(17,([15,17],[0,1,2,3,5,6,7,8,9,10,11,12,13,14,4,15,16,17])),(22,([9],[0,1,2,3,4,5,6,7,8,9,10])),(23,([15,17],[0,1,2,3,5,6,7,8,9,10,11,12,13,14,4,15,16,17]))]),
 (176,FI.of Tryz.f176 []),
 (177,FI.of Tryz.f177 [(1,([13,15],[0,1,2,3,4,5,6,7,8,9,10,11,12,13,14,15])),(3,([12],[0,1,2,3,4,5,6,7,8,9,10,11,12,13,14])),(5,([12],[0,1,2,3,4,5,6,7,8,9,10,11,12,13])),(8,([13,15],[0,1,2,3,4,5,6,7,8,9,10,11,12,13,14,15]))]),
 (178,FI.of Tryz.f178 [(1,([13,15],[0,1,2,3,4,5,6,7,8,9,10,11,12,13,14,15])),(3,([12],[0,1,2,3,4,5,6,7,8,9,10,11,12,13])),(5,([12],[0,1,2,3,4,5,6,7,8,9,10,11,12,13,14])),(8,([13,15],[0,1,2,3,4,5,6,7,8,9,10,11,12,13,14,15])),(10,([13,15],[0,1,2,3,4,5,6,7,8,9,10,11,12,13,14,15])),(13,([12],[0,1,2,3,4,5,6,7,8,9,10,11,12,13])),(15,([12],[0,1,2,3,4,5,6,7,8,9,10,11,12,13,14])),(18,([13,15],[0,1,2,3,4,5,6,7,8,9,10,11,12,13,14,15])),(21,([13,15],[0,1,2,3,4,5,6,7,8,9,10,11,12,13,14,15]))]),
 (218,FI.of Tryz.f218 [(3,([18],[0,1,2,3,4,5,6,7,8,9,10,11,12,13,14,15,16,17,18,19])),(5,([12],[0,1,2,3,4,5,6,7,8,9,10,11,12,13])),(6,([21,23],[0,1,2,3,4,5,6,8,9,10,11,12,13,14,15,16,17,18,19,20,7,21,22,23]))]),
 (219,FI.of Tryz.f219 []),
 (220,FI.of Tryz.f220 [(1,([9],[0,1,2,3,4,5,6,7,8,9])),(2,([9],[0,1,2,3,4,5,6,7,8,9])),(3,([9],[0,1,2,3,4,5,6,7,8,9]))]),
 (221,FI.of Tryz.f221 []),
 (222,FI.of Tryz.f222 []),
 (223,FI.of Tryz.f223 []),
 (237,FI.of Tryz.f237 [(1,([8],[0,1,2,3,4,5,6,7,8]))])]
noncomputable def fnT2:Tr FI:=bld fnL2
set_option maxRecDepth 100000 in
theorem fnOK2:FOK Tryz.prog tys fnT2:=Qdp (by kernel_rfl) (Qa gy0
 (Qa gy1
 (Qa gy2
 (Qa gy3
 (Qa gy4
 (Qa gy5
 (Qa gy6
 (Qa gy7
 (Qa gy8
 (Qa gy9
 (Qa gy10
 (Qa gy11
 (Qa gy12
 (Qa gy13
 (Qa gy14
 (Qa gy15
 (Qa gy16
 (Qa gy17
 (Qa gy18
 (Qa gy19
 (Qa gy20
 (Qa gy21
 (Qa gy22
 (Qa gy23
 (Qa gy24
 (Qa gy25
 (Qa gy26
 (Qa gy27
 (Qa gy28
 (Qa gy29
 (Qa gy30
 (Qa gy31
 (Qa gy32
 (Qa gy33
 (Qa gy34
 (Qa gy35
 (Qa gy36
 (Qa gy37
 (Qa gy38 QdF)))))))))))))))))))))))))))))))))))))))
end Go.Proofs.YtnjpkncacddplaaGreatDoor

/- Runs for the law TopRepresentations. No condition. -/
namespace Go.Proofs.YtnjpkncacddplaaGreatDoor
open Go.Hp Go.Gx Go.Rp
noncomputable def fundR (D:Nat):Bool :=
 bif fds.any (Nat.beq D) then isT [-(D:Int),1,0] (runK fnT2 noCall tb 10000 100 14 [.one (.it .i64 (-(D:Int)))])
 else isN3 (-(D:Int)) 1 0 (runK fnT2 noCall tb 10000 100 14 [.one (.it .i64 (-(D:Int)))])
noncomputable def tzR (a:Nat):Bool:=isOn ((tz 9 a:Nat):Int) (runK fnT2 noCall tb 10000 100 67 [.one (.it .u64 (a:Int))])
noncomputable def divR (n:Nat):Bool:=isRw 1 (divs 400 n).length ((divs 400 n).map fun m:Nat=>(m:Int)) (runK fnT2 noCall tb 10000 100 18 [.one (.it .i64 (n:Int))])
def flat3:List (Int × Int × Int)→List Int
 | []=>[]
 | f::r=>f.1::f.2.1::f.2.2::flat3 r
noncomputable def clsR (D:Nat):Bool:=isRw 3 (cls D).length (flat3 (cls D)) (runK fnT2 noCall tb 10000 100 15 [.one (.it .i64 (-(D:Int)))])
noncomputable def autR (D:Nat):Bool:=match cls D with
 | f::_=>isT [wN D,0] (runK fnT2 noCall tb 10000 100 17 [.agg [.it .i64 f.1,.it .i64 f.2.1,.it .i64 f.2.2]])
 | []=>false
end Go.Proofs.YtnjpkncacddplaaGreatDoor
