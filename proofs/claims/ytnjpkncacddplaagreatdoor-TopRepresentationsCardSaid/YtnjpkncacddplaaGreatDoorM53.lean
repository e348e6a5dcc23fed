/- Texts of this seat's own, merged: each begins with its own remark. -/
import Derived.Test.YtnjpkncacddplaaGreatDoorM51
import Derived.Test.YtnjpkncacddplaaGreatDoorM96
import Derived.Test.YtnjpkncacddplaaGreatDoorM19
import Derived.Test.YtnjpkncacddplaaGreatDoorM35
/- Walk of theta.each: a step for each vector of a box. -/
namespace Go.Proofs.YtnjpkncacddplaaGreatDoor
open Go.Hp
variable {G:World} {U U':UH} {M:MH}
def rp (n:Nat) (f:Nat→Int) (x:Nat→Int) (a k:Nat):Int:=Lr.sm k fun j=>f (a*n+j)*x j
def qp (n:Nat) (f:Nat→Int) (x:Nat→Int) (i:Nat):Int:=Lr.sm i fun a=>x a*rp n f x a n
def qv (n:Nat) (f:Nat→Int) (x:Nat→Int):Int:=(qp n f x n).tdiv 2
theorem Qaz {c:Int}:∀ {n:Nat} {f:Nat→Int},(∀ j,j < n → -c≤f j∧f j≤c) → -(n*c)≤Lr.sm n f∧Lr.sm n f≤n*c
 | 0,_,_=>by show -((0:Nat)*c)≤0∧(0:Int)≤(0:Nat)*c; omega
 | n+1,f,h=>by
  have h1:=Qaz (n:=n) (f:=f) fun j hj=>h j (by omega)
  have h2:=h n (by omega)
  have e:((n+1:Nat):Int)*c=n*c+c:=by rw [Int.natCast_add,Int.add_mul]; omega
  rw [e]
  show -(_+c)≤Lr.sm n f+f n∧Lr.sm n f+f n≤_+c
  omega
theorem Qaa {a b c d:Int} (h1 : -c≤a∧a≤c) (h2 : -d≤b∧b≤d) : -(c*d)≤a*b∧a*b≤c*d:=by
 have e:(a*b).natAbs≤c.natAbs*d.natAbs:=by rw [Int.natAbs_mul]; exact Nat.mul_le_mul (by omega) (by omega)
 have e2:c*d=((c.natAbs*d.natAbs:Nat):Int):=by rw [Int.natCast_mul,Int.natAbs_of_nonneg (by omega),Int.natAbs_of_nonneg (by omega)]
 rw [e2]; omega
theorem Qfl {n:Nat} {f x:Nat→Int} {a k:Nat} (hn:n≤8) (ha:a < n) (hk:k≤n) (hb:∀ k,k < n*n → -1000≤f k∧f k≤1000) (hx:∀ i,i < n → -1048576≤x i∧x i≤1048576) : -8388608000≤rp n f x a k∧rp n f x a k≤8388608000:=by
 have h:=Qaz (c:=1000*1048576) (n:=k) (f:=fun j=>f (a*n+j)*x j) fun j hj=>Qaa (hb _ (Qdx ha (by omega))) (hx j (by omega))
 have h2:((k:Nat):Int)*(1000*1048576)≤8*(1000*1048576):=Int.mul_le_mul_of_nonneg_right (by omega) (by decide)
 unfold rp
 omega
def Stp (c:Nat) (cs:List Value) (G:World) (U:UH) (n:Nat) (f:Nat→Int) (b:Nat→Nat) (I:Nat→UH→MH→Prop):Prop :=
 ∀ k U1 L E px cx xs,k < Bx.all b n→ULe U U1→I k U1 L→RowAt U1 E 1 px n xs→El Vz U1 xs (Bx.vec b n k) →
  Cx Tryz.prog c ([.slice px n cx,.int .i64 (qv n f (Bx.vec b n k))]++cs) G U1 (E++L) fun _ U2 M2=>∃ L2,M2=E++L2∧I (k+1) U2 L2
end Go.Proofs.YtnjpkncacddplaaGreatDoor

/- Series: build, tidy, Normal. -/
namespace Go.Proofs.YtnjpkncacddplaaGreatDoor
open Go.Hp
variable {G:World} {U U':UH} {M:MH}
def Skp (g:Nat→Rat) (N s:Nat):Prop:=s≤N∧(∀ a,a < s→g a=0)∧(s < N→g s≠0)
theorem Skp.uniq {g:Nat→Rat} {N s t:Nat} (h:Skp g N s) (h':Skp g N t):s=t:=by
 obtain ⟨h1,h2,h3⟩:=h
 obtain ⟨k1,k2,k3⟩:=h'
 rcases Nat.lt_trichotomy s t with e | e | e
 ·exact absurd (k2 s e) (h3 (by omega))
 ·exact e
 ·exact absurd (h2 t e) (k3 (by omega))
def Vser (ok:UH→Value→Rat→Prop) (U:UH) (M:MH) (v:Value) (f:Int) (N:Nat) (g:Nat→Rat):Prop:=∃ a,v = .agg #[.int .i64 f,a]∧Ls ok 4 N U M a g
end Go.Proofs.YtnjpkncacddplaaGreatDoor

/- Walks of layer 36: the step of weighted without a polynomial. -/
namespace Go.Proofs.YtnjpkncacddplaaGreatDoor
open Go.Hp
variable {G:World} {U U':UH} {M:MH}
def vn (n:Nat) (f:Nat→Int) (b:Nat→Nat) (k:Nat):Nat:=(qv n f (Bx.vec b n k)).toNat
def cv (n:Nat) (f:Nat→Int) (b:Nat→Nat) (k q:Nat):Nat:=Bx.cnt k fun t=>vn n f b t == q
def WgtO (n:Nat) (f:Nat→Int) (P:Nat) (U':UH) (v:Value):Prop :=
 ∃ X,Inv n f X∧(Bx.pre (bd X (P - 1)) n≤1048576→∃ s r,Skp (fun q=>(((cv n f (bd X (P - 1)) (Bx.pre (bd X (P - 1)) n) q:Nat):Int):Rat)) P s∧v = .tuple #[r,.int .i64 0]∧Vser Vq U' [] r (s:Int) (P - s) (fun k=>(((cv n f (bd X (P - 1)) (Bx.pre (bd X (P - 1)) n) (s+k):Nat):Int):Rat))) ∧
  (1048576 < Bx.pre (bd X (P - 1)) n→v = .tuple #[.agg #[.int .i64 0,.slice none 0 0],.int .i64 7])
end Go.Proofs.YtnjpkncacddplaaGreatDoor

/- The example of layer 36: plain part. -/
namespace Go.Proofs.YtnjpkncacddplaaGreatDoor
open Go.Hp
variable {G:World} {U U':UH} {M:MH}
def fa2:Nat→Int:=fun k=>([2,1,1,2]:List Int).getD k 0
end Go.Proofs.YtnjpkncacddplaaGreatDoor

/- Walks of layer 36: SameSeries, awake. -/
namespace Go.Proofs.YtnjpkncacddplaaGreatDoor
open Go.Hp
variable {G:World} {U U':UH} {M:MH}
end Go.Proofs.YtnjpkncacddplaaGreatDoor

/- Walks of layer 36: binary forms are checked. -/
namespace Go.Hp
variable {P:Program} {T:TT} {N:Nat} {G:World} {E:Env} {U:UH} {M:MH} {o:Oper}
theorem Qbk {t e by3:Nat} {x y z:Operand} {a b c:Int} {k:IntKind} {ti:TI} (h3:TI.ok P t ⟨.other,3,by3,.agg #[.int k 0,.int k 0,.int k 0]⟩) (hu:P.underlying t=some (.array 3 e)) (he:TI.ok P e ti) (h1:ti.size=1)
  (ho:o.op = .build t #[(0,x),(1,y),(2,z)]) (hx:ev E x=some (.int k a)) (hy:ev E y=some (.int k b)) (hz:ev E z=some (.int k c)):Yl P N G o E U M (.agg #[.int k a,.int k b,.int k c]):=by
 refine ⟨fun r w ha hw=>?_⟩
 have hs:=he.run_size (P:=P) w
 rw [h1] at hs
 have hzr:=h3.run_zero (P:=P) w
 simp only [execOp,ho,Instr.build,Sem.run_bind,hzr,Result.andThen_ok,Qg hu,hs,List.map_toArray,List.map_cons,List.map_nil,ha.eval hx,ha.eval hy,ha.eval hz]
 rfl
theorem Qfv {t e len j:Nat} {x y:Operand} {cs:List Value} {v:Value} {k:IntKind} {ti:TI} (hu:P.underlying t=some (.array len e)) (he:TI.ok P e ti) (h1:ti.size=1) (hk:one ti.k=true)
  (ho:o.op = .index t x y) (hx:ev E x=some (.agg cs.toArray)) (hy:ev E y=some (.int k (j:Int))) (hj:j < len) (hc:cs[j]?=some v):Yl P N G o E U M v:=by
 refine ⟨fun r w ha hw=>?_⟩
 have hs:=he.run_size (P:=P) w
 rw [h1] at hs
 have hg:=Ya he hk w
 simp only [execOp,ho,Instr.index,Sem.run_bind,ha.eval hx,ha.eval hy,Qg hu,Result.andThen_ok,asIntOf,Sem.run_pure]
 rw [if_pos ⟨by omega,by omega⟩]
 simp [hs,part,hg,hc]
end Go.Hp
namespace Go.Proofs.YtnjpkncacddplaaGreatDoor
open Go.Hp
variable {G:World} {U U':UH} {M:MH}
theorem QfK:TI.ok Tryz.prog 168 ⟨.other,3,24,.agg #[.int .i64 0,.int .i64 0,.int .i64 0]⟩:=⟨by kernel_rfl,by kernel_rfl⟩
theorem Qco:Tryz.prog.underlying 168=some (.array 3 TInt):=by kernel_rfl
theorem Qdr:TI.ok Tryz.prog TInt ⟨.int .i64,1,8,.int .i64 0⟩:=sym.at rfl
end Go.Proofs.YtnjpkncacddplaaGreatDoor

/- Walks of layer 36: binary forms (printed by gen215.py). -/
namespace Go.Proofs.YtnjpkncacddplaaGreatDoor
open Go.Hp
open Classical
variable {G:World} {U U':UH} {M:MH}
noncomputable def chq (a b c:Int):Int:=if ¬ ((-10000≤a∧a≤10000)∧(-10000≤b∧b≤10000)∧(-10000≤c∧c≤10000)) then 2 else if a≤0∨b*b - 4*a*c ≥ 0 then 27 else 0
theorem Qdw {a b c:Int} {i:Nat} (hi:i < 3):([Value.int .i64 a,.int .i64 b,.int .i64 c])[i]?=some (.int .i64 (([a,b,c]:List Int).getD i 0)):=by
 rcases show i=0∨i=1∨i=2 by omega with rfl | rfl | rfl<;>rfl
theorem qF {a b c:Int} (ha : -10000≤a∧a≤10000) (hb : -10000≤b∧b≤10000) (hc : -10000≤c∧c≤10000) :
  Ct Tryz.prog 61 [.agg #[.int .i64 a,.int .i64 b,.int .i64 c]] G U M fun v U' D=>v = .int .i64 (b*b - 4*a*c)∧U=U'∧D=[]:=by
 have m1:=Qaa hb hb
 have m2:=Qaa (show -40000≤4*a∧4*a≤40000 by omega) hc
 refine QO Tryz.func61 rfl rfl rfl rfl ?_
 repeat (first|refine Qd ?_|refine Qc fun _=>?_|refine w_al fun _=>?_)
 exact Qp [] sym rfl (.cons (.tmp rfl) .nil) uc sb (.inl rfl) ⟨rfl,rfl,rfl⟩
theorem jo {a b c:Int} :
  Ct Tryz.prog 58 [.agg #[.int .i64 a,.int .i64 b,.int .i64 c]] G U M fun v U' D=>v = .int .i64 (chq a b c)∧U=U'∧D=[]:=by
 refine QO Tryz.func58 rfl rfl rfl rfl ?_
 repeat (first|refine Qd ?_|refine Qc fun _=>?_|refine w_al fun _=>?_)
 rename_i b1
 refine sl_y (Qbk QfK Qco Qdr rfl rfl rfl rfl rfl) rfl rfl rfl rfl ?_
 repeat (first|refine Qd ?_|refine Qc fun _=>?_|refine w_al fun _=>?_)
 try refine Yp (M':=(b1,.var (.agg #[.int .i64 a,.int .i64 b,.int .i64 c]),49)::M) (ULe.refl _) sbk ?_
 refine JS (fun z E U' M'=>∃ (i:Nat),i≤3∧(∀ j,j < i → -10000≤([a,b,c]:List Int).getD j 0∧([a,b,c]:List Int).getD j 0≤10000)∧U=U'∧E=[(12,.int .i64 (i:Int)),(11,.agg #[.int .i64 a,.int .i64 b,.int .i64 c]),(1,.pointer (some ⟨b1,0,none⟩))]∧ULe U U'∧M'=(b1,.var (.agg #[.int .i64 a,.int .i64 b,.int .i64 c]),49)::M∧z=3 - i) (n0:=3 - 0) (E0:=[(12,.int .i64 ((0:Nat):Int)),(11,.agg #[.int .i64 a,.int .i64 b,.int .i64 c]),(1,.pointer (some ⟨b1,0,none⟩))]) ⟨rfl,rfl,rfl,trivial⟩ ⟨0,by omega,(fun j h=>absurd h (Nat.not_lt_zero j)),rfl,rfl,uc,rfl,rfl⟩ ?_
 rintro z E U1 M' ⟨i,hi,hall,rfl,rfl,hU1,rfl,rfl⟩
 try refine JV ?_
 refine Qm rfl (fun h=>?_) (fun h=>?_)
 ·have hin:i < 3:=by omega
  repeat (first|refine Qd ?_|refine Qc fun _=>?_|refine w_al fun _=>?_)
  refine sl_y (Qfv (cs:=[.int .i64 a,.int .i64 b,.int .i64 c]) (j:=i) Qco Qdr rfl rfl rfl rfl rfl hin (Qdw hin)) rfl rfl rfl rfl ?_
  obtain ⟨x,hx⟩:∃ x,x=([a,b,c]:List Int).getD i 0:=⟨_,rfl⟩
  rw [← hx]
  have hbad:(x < -10000∨x > 10000)→chq a b c=2:=fun h4=>by
   unfold chq
   rw [if_pos]
   rintro ⟨ha,hb,hc⟩
   rcases show i=0∨i=1∨i=2 by omega with rfl | rfl | rfl
   ·have hx:x=a:=hx; omega
   ·have hx:x=b:=hx; omega
   ·have hx:x=c:=hx; omega
  repeat (first|refine Qd ?_|refine Qc fun _=>?_|refine w_al fun _=>?_)
  refine QB rfl rfl (fun h1=>?_) (fun h1=>?_)
  ·repeat (first|refine Qd ?_|refine Qc fun _=>?_|refine w_al fun _=>?_)
   exact Qp [] sym rfl (.cons (.tmp rfl) .nil) uc sb (.inl rfl) ⟨by rw [hbad (.inl h1)]; rfl,rfl,rfl⟩
  repeat (first|refine Qd ?_|refine Qc fun _=>?_|refine w_al fun _=>?_)
  refine Qm rfl (fun h2=>?_) (fun h2=>?_)
  ·repeat (first|refine Qd ?_|refine Qc fun _=>?_|refine w_al fun _=>?_)
   exact Qp [] sym rfl (.cons (.tmp rfl) .nil) uc sb (.inl rfl) ⟨by rw [hbad (.inr h2)]; rfl,rfl,rfl⟩
  repeat (first|refine Qd ?_|refine Qc fun _=>?_|refine w_al fun _=>?_)
  exact QD (E':=[(12,.int .i64 ((i:Int)+1)),(11,.agg #[.int .i64 a,.int .i64 b,.int .i64 c]),(1,.pointer (some ⟨b1,0,none⟩))]) (m:=3 - (i+1)) ⟨rfl,rfl,rfl,trivial⟩ (by omega) ⟨i+1,by omega,(fun j hj=>by
   rcases Nat.lt_or_eq_of_le (Nat.le_of_lt_succ hj) with h5 | h5
   ·exact hall j h5
   ·rw [h5,← hx]; omega),rfl,rfl,uc,rfl,rfl⟩
 obtain rfl:3=i:=by omega
 have ha : -10000≤a∧a≤10000:=hall 0 (by decide)
 have hb : -10000≤b∧b≤10000:=hall 1 (by decide)
 have hc : -10000≤c∧c≤10000:=hall 2 (by decide)
 have hq:chq a b c=if a≤0∨b*b - 4*a*c ≥ 0 then 27 else 0:=by unfold chq; rw [if_neg fun h=>h ⟨ha,hb,hc⟩]
 rw [hq]
 repeat (first|refine Qd ?_|refine Qc fun _=>?_|refine w_al fun _=>?_)
 refine QB rfl rfl (fun h1=>?_) (fun h1=>?_)
 ·repeat (first|refine Qd ?_|refine Qc fun _=>?_|refine w_al fun _=>?_)
  exact Qp [] sym rfl (.cons (.tmp rfl) .nil) uc sb (.inl rfl) ⟨by rw [if_pos (.inl h1)]; rfl,rfl,rfl⟩
 repeat (first|refine Qd ?_|refine Qc fun _=>?_|refine w_al fun _=>?_)
 refine Qv rfl rfl rfl rfl rfl rfl (fun _=>qF ha hb hc) ?_
 rintro v U' D hU ⟨rfl,rfl,rfl⟩
 repeat (first|refine Qd ?_|refine Qc fun _=>?_|refine w_al fun _=>?_)
 refine Qm rfl (fun h2=>?_) (fun h2=>?_)
 ·repeat (first|refine Qd ?_|refine Qc fun _=>?_|refine w_al fun _=>?_)
  exact Qp [] sym rfl (.cons (.tmp rfl) .nil) uc sb (.inl rfl) ⟨by rw [if_pos (.inr h2)]; rfl,rfl,rfl⟩
 repeat (first|refine Qd ?_|refine Qc fun _=>?_|refine w_al fun _=>?_)
 exact Qp [] sym rfl (.cons (.tmp rfl) .nil) uc sb (.inl rfl) ⟨by rw [if_neg (by omega)]; rfl,rfl,rfl⟩
end Go.Proofs.YtnjpkncacddplaaGreatDoor

/- Walks of layer 36: Binary, fits, same. -/
namespace Go.Proofs.YtnjpkncacddplaaGreatDoor
open Go.Hp
open Classical
variable {G:World} {U U':UH} {M:MH}
def Ins (N:Nat) (f:Nat→Int):Prop:=∀ k,k < N → -1000≤f k∧f k≤1000
def BinO (a b c:Int) (U':UH) (v:Value):Prop :=
 (chq a b c≠0→v = .tuple #[.agg #[.int .i64 0,.slice none 0 0],.int .i64 (chq a b c)]) ∧
 (chq a b c=0→¬ Ins 4 (fun k=>([2*a,b,b,2*c]:List Int).getD k 0)→v = .tuple #[.agg #[.int .i64 0,.slice none 0 0],.int .i64 7]) ∧
 (chq a b c=0→Ins 4 (fun k=>([2*a,b,b,2*c]:List Int).getD k 0)→∃ s,v = .tuple #[.agg #[.int .i64 2,s],.int .i64 0]∧Ls Vz 1 4 U' [] s (fun k=>([2*a,b,b,2*c]:List Int).getD k 0))
def BinC (a b c:Int) (U':UH) (D:MH) (v:Value):Prop :=
 (chq a b c≠0→v = .tuple #[.agg #[.int .i64 0,.slice none 0 0],.int .i64 (chq a b c)]) ∧
 (chq a b c=0→¬ Ins 4 (fun k=>([2*a,b,b,2*c]:List Int).getD k 0)→v = .tuple #[.agg #[.int .i64 0,.slice none 0 0],.int .i64 7]) ∧
 (chq a b c=0→Ins 4 (fun k=>([2*a,b,b,2*c]:List Int).getD k 0)→∃ s,v = .tuple #[.agg #[.int .i64 2,s],.int .i64 0]∧Lo Vz TInt 1 4 U' D s (fun k=>([2*a,b,b,2*c]:List Int).getD k 0))
end Go.Proofs.YtnjpkncacddplaaGreatDoor
