/- Power of a matrix in the caller's memory, to the first. -/
import Derived.Test.YtahcddpdgpjbnaaB302
import Derived.Test.YtahcddpdgpjbnaaM26
namespace Go.Proofs.Ytahcddpdgpjbnaa
open Go.Hp
variable {G:World} {U U':UH} {M M':MH}
theorem QbD {n:Nat} {va:Value} {A:Nat→Nat→Rat} (ha:Vx M 1 n n U va A) (hn:n≤5) :
  Ct Try.prog 13 [va,.int .i64 1] G U M fun v U' D=>∃ (vP:Value) (B:Nat→Nat→Rat),v = .tuple #[vP,.int .i64 0]∧Vm Vq n n U' vP B∧D=[]:=by
 have hnn:n*n≤5*5:=Nat.mul_le_mul hn hn
 have ha2:=ha
 obtain ⟨_,rfl,pa,cca,as1,rfl,-⟩:=ha
 refine Qf Try.func13 rfl rfl rfl rfl ?_
 repeat (first|refine Qc ?_|refine Qb fun _=>?_|refine w_al fun _=>?_)
 rename_i b2 b4
 refine Qd rfl rfl rfl rfl rfl rfl (fun _=>Yf (r:=(n:Int)) (c:=(n:Int)) (n:=n*n) (p:=pa) (cc:=cca) (by omega)) ?_
 rintro v U' D hU ⟨rfl,rfl,rfl⟩
 repeat (first|refine Qc ?_|refine Qb fun _=>?_|refine w_al fun _=>?_)
 rw [decide_eq_true ⟨Yd (by omega) (by omega),rfl⟩]
 repeat (first|refine Qc ?_|refine Qb fun _=>?_|refine w_al fun _=>?_)
 refine Qw rfl rfl (fun h=>absurd h (by omega)) (fun _=>?_)
 repeat (first|refine Qc ?_|refine Qb fun _=>?_|refine w_al fun _=>?_)
 refine Qk rfl (fun h=>absurd h (by omega)) (fun _=>?_)
 repeat (first|refine Qc ?_|refine Qb fun _=>?_|refine w_al fun _=>?_)
 refine Qd rfl rfl rfl rfl rfl rfl (fun _=>yH (n:=n) (by omega)) ?_
 rintro v1 U1 D1 hU1 ⟨_,rfl,⟨_,rfl,p1,c1,s1,rfl,h1⟩,rfl⟩
 rw [List.nil_append]
 have hI:Vm Vq n n U1 (.agg #[.int .i64 (n:Int),.int .i64 (n:Int),.slice p1 (n*n) c1]) La.idm:=⟨_,rfl,p1,c1,s1,rfl,h1⟩
 repeat (first|refine Qc ?_|refine Qb fun _=>?_|refine w_al fun _=>?_)
 rename_i b6 b8
 refine Qm (fun z E U' M'=>∃ (N':Nat) (po:Option Addr) (co b8:Nat) (B:Nat→Nat→Rat),N'≤1∧Vm Vq n n U' (.agg #[.int .i64 (n:Int),.int .i64 (n:Int),.slice po (n*n) co]) B∧(N'=1→∀ i j,i < n→j < n→Szq (B i j) 1) ∧
   E=[(1,.int .i64 (N':Int)),(6,.pointer (some ⟨b6,0,none⟩)),(8,.pointer (some ⟨b8,0,none⟩)),(4,.pointer (some ⟨b4,0,none⟩))]∧ULe U1 U' ∧
   M'=(b8,.var (.agg #[.int .i64 (n:Int),.int .i64 (n:Int),.slice pa (n*n) cca]),TM)::(b6,.var (.agg #[.int .i64 (n:Int),.int .i64 (n:Int),.slice po (n*n) co]),TM)::(b4,.var (.agg #[.int .i64 0,.int .i64 0,.slice none 0 0]),TM)::(b2,.var (.agg #[.int .i64 (n:Int),.int .i64 (n:Int),.slice pa (n*n) cca]),TM)::M∧z=N') (n0:=1)
  (E0:=[(1,.int .i64 ((1:Nat):Int)),(6,.pointer (some ⟨b6,0,none⟩)),(8,.pointer (some ⟨b8,0,none⟩)),(4,.pointer (some ⟨b4,0,none⟩))]) ⟨rfl,rfl,rfl,rfl,trivial⟩
  ⟨1,p1,c1,b8,La.idm,Nat.le_refl 1,hI,(fun _ i j _ _=>by
   show Szq (if i=j then (1:Rat) else 0) 1
   split
   ·exact Yw
   ·exact Yk),rfl,uc,rfl,rfl⟩ ?_
 rintro N' E U2 M' ⟨_,po,co,b8,B,hN1,hO,hB,rfl,hU2,rfl,rfl⟩
 try refine Qa ?_
 refine Qk rfl (fun h=>?_) (fun h=>?_)
 ·obtain rfl:N'=1:=by omega
  try refine Qa ?_
  refine Yq rfl (fun h1=>?_) (fun h1=>absurd (by decide) h1)
  repeat (first|refine Qc ?_|refine Qb fun _=>?_|refine w_al fun _=>?_)
  refine Qd rfl rfl rfl rfl rfl rfl (fun _=>QaJ (b:=1) (Vx.of (VA jf _ _ _ _ uc (hO.w (hB rfl)))) (ha2.upx uc sb) (by decide) (by omega) (by omega) (by omega) (by omega)) ?_
  rintro v3 U3 D3 hU3 ⟨_,rfl,⟨_,rfl,p3,c3,s3,rfl,h3⟩,rfl⟩
  rw [List.nil_append]
  repeat (first|refine Qc ?_|refine Qb fun _=>?_|refine w_al fun _=>?_)
  refine Qk rfl (fun h2=>absurd h2 (by omega)) (fun _=>?_)
  repeat (first|refine Qc ?_|refine Qb fun _=>?_|refine w_al fun _=>?_)
  rename_i b9
  refine yc (M':=(b9,.var (.agg #[.int .i64 (n:Int),.int .i64 (n:Int),.slice pa (n*n) cca]),TM)::(b6,.var (.agg #[.int .i64 (n:Int),.int .i64 (n:Int),.slice p3 (n*n) c3]),TM)::(b4,.var (.agg #[.int .i64 0,.int .i64 0,.slice none 0 0]),TM)::(b2,.var (.agg #[.int .i64 (n:Int),.int .i64 (n:Int),.slice pa (n*n) cca]),TM)::M) (ULe.refl _) sbk ?_
  exact Qi (E':=[(1,.int .i64 ((0:Nat):Int)),(6,.pointer (some ⟨b6,0,none⟩)),(8,.pointer (some ⟨b9,0,none⟩)),(4,.pointer (some ⟨b4,0,none⟩))]) (m:=0) ⟨rfl,rfl,rfl,rfl,trivial⟩ (by omega)
   ⟨0,p3,c3,b9,_,by omega,⟨_,rfl,p3,c3,s3,rfl,h3⟩,(fun h=>absurd h (by decide)),rfl,uc,rfl,rfl⟩
 ·repeat (first|refine Qc ?_|refine Qb fun _=>?_|refine w_al fun _=>?_)
  exact Qe [] sym rfl (.cons (.cell 2 rfl rfl rfl) (.cons (.tmp rfl) .nil)) uc sb (.inl rfl) ⟨_,B,rfl,VA QA _ _ _ _ uc hO,rfl⟩
end Go.Proofs.Ytahcddpdgpjbnaa
