/- Texts of this seat's own, merged: each begins with its own remark. -/
import Derived.Test.YtnjpkncacddplaaGreatM117
import Derived.Test.YtnjpkncacddplaaGreatM118
import Derived.Test.YtnjpkncacddplaaGreatM119
import Derived.Test.YtnjpkncacddplaaGreatM116
import Derived.Test.YtnjpkncacddplaaGreatM99
import Derived.Test.YtnjpkncacddplaaGreatM134
import Derived.Test.YtnjpkncacddplaaGreatM60
import Derived.Test.YtnjpkncacddplaaGreatM51
import Derived.Test.YtnjpkncacddplaaGreatM115
/- What the runs for the law TopEtaSpace say. No condition. -/
namespace Go.Proofs.YtnjpkncacddplaaGreat
open Go.Hp Go.Gx Go.Et
open Go.Rp (divs)
variable {G:World} {U U':UH} {M:MH}
theorem JJ {p:Nat→Bool} {a k n:Nat} (h:(List.range' a k).all p=true) (h1:a≤n) (h2:n < a+k):p n=true:=List.all_eq_true.1 h n (List.mem_range'_1.2 ⟨h1,h2⟩)
theorem yH:Ct Tryz.prog 11 [] G U M fun v U' _=>U'=U∧v = .bool true:=QeE tb0OK fnOK3 Ym QiG rfl
theorem flatE:∀ (l:List Nat),((l.map fun m:Nat=>Value.int .i64 (m:Int)).flatMap fun v=>v.cells.toList)=(l.map fun m:Nat=>(m:Int)).map (Value.int .i64)
 | []=>rfl
 | a::r=>by
  show (Value.int .i64 (a:Int)).cells.toList++_=Value.int .i64 (a:Int)::_
  rw [show (Value.int .i64 (a:Int)).cells.toList=[Value.int .i64 (a:Int)] from rfl,List.singleton_append]
  exact congrArg _ (flatE r)
theorem QhE {n:Nat} (h1:1≤n) (h2:n≤600) :
  Ct Tryz.prog 44 [.int .i64 (n:Int)] G U M fun v U' D=>∃ p c,v = .tuple #[.slice p (divs 600 n).length c,.int .i64 0]∧(divs 600 n).length≤c∧RowAt U' [] 1 p (divs 600 n).length ((divs 600 n).map fun m:Nat=>Value.int .i64 (m:Int))∧D=[]:=by
 have h:edivR n=true:=by
  rcases show n≤100∨100 < n∧n≤200∨200 < n∧n≤300∨300 < n∧n≤400∨400 < n∧n≤500∨500 < n by omega with h | h | h | h | h | h
  ·exact JJ QeY h1 (by omega)
  ·exact JJ QeQ (by omega) (by omega)
  ·exact JJ Qew (by omega) (by omega)
  ·exact JJ Qem (by omega) (by omega)
  ·exact JJ QeC (by omega) (by omega)
  ·exact JJ Qet (by omega) (by omega)
 unfold edivR at h
 exact Qck tb0OK fnOK3 Ym h rfl (by decide) (by rw [List.length_map]) (fun v hv=>by
  obtain ⟨m,-,rfl⟩:=List.mem_map.1 hv
  rfl) (flatE _) (by rw [List.length_map,Nat.mul_one])
def vPP (f:Nat × Nat):Value := .agg #[.int .i64 (f.1:Int),.int .i64 (f.2:Int)]
theorem Qca:∀ (l:List (Nat × Nat)),((l.map vPP).flatMap fun v=>v.cells.toList)=(flat2 l).map (Value.int .i64)
 | []=>rfl
 | f::r=>by
  show (vPP f).cells.toList++_=Value.int .i64 (f.1:Int)::Value.int .i64 (f.2:Int)::(flat2 r).map (Value.int .i64)
  rw [show (vPP f).cells.toList=[Value.int .i64 (f.1:Int),.int .i64 (f.2:Int)] from rfl]
  have h:=Qca r
  exact congrArg (fun t=>Value.int .i64 (f.1:Int)::Value.int .i64 (f.2:Int)::t) h
theorem Qiw {n:Nat} (h1:1≤n) (h2:n≤600) :
  Ct Tryz.prog 15 [.int .i64 (n:Int)] G U M fun v U' D=>∃ p c,v = .tuple #[.slice p (fac6 n).length c,.int .i64 0]∧(fac6 n).length≤c∧RowAt U' [] 2 p (fac6 n).length ((fac6 n).map vPP)∧D=[]:=by
 have h:efacR n=true:=by
  rcases show n≤200∨200 < n∧n≤400∨400 < n by omega with h | h | h
  ·exact JJ Qel h1 (by omega)
  ·exact JJ Qez (by omega) (by omega)
  ·exact JJ Qeo (by omega) (by omega)
 unfold efacR at h
 by_cases e:n=1
 ·subst e
  have hl:fac6 1=[]:=by decide +kernel
  rw [show Nat.beq 1 1=true from rfl,cond_true] at h
  refine (Qgc tb0OK fnOK3 Ym h rfl).mono ?_
  rintro v U' D - ⟨rfl,rfl⟩
  rw [hl]
  exact ⟨none,0,rfl,Nat.le_refl _,RowAt.nil,rfl⟩
 ·rw [show Nat.beq n 1=false by rw [Bool.eq_false_iff]; exact fun h=>e (Nat.eq_of_beq_eq_true h),cond_false] at h
  exact Qck tb0OK fnOK3 Ym h rfl (by decide) (by rw [List.length_map]) (fun v hv=>by
   obtain ⟨m,-,rfl⟩:=List.mem_map.1 hv
   rfl) (Qca _) (Qam _)
theorem QiE {n:Nat} (h1:1≤n) (h2:n≤120) :
  Ct Tryz.prog 18 [.int .i64 (n:Int)] G U M fun v U' _=>U'=U∧∃ a:Int,v = .tuple #[.int .i64 a,.int .i64 0]∧0≤a∧a≤600:=by
 have h:epsiR n=true:=JJ QfH h1 (by omega)
 exact Qht tb0OK fnOK3 Ym h rfl
theorem QhW {z:Int} (h1 : -120≤z) (h2:z≤120) (hz:fundB z=true) :
  Ct Tryz.prog 17 [.int .i64 z] G U M fun v U' _=>U'=U∧v = .tuple #[.int .i64 z,.int .i64 1,.int .i64 0]:=by
 have h:efunR z=true:=by
  rcases show 1≤z∨z=0∨z ≤ -1 by omega with h | rfl | h
  ·obtain ⟨n,rfl⟩:∃ n:Nat,z=(n:Int):=⟨z.toNat,by omega⟩
   exact JJ (p:=fun n=>efunR (n:Int)) QeU (by omega) (by omega)
  ·exact absurd hz (by decide)
  ·obtain ⟨n,rfl⟩:∃ n:Nat,z = -(n:Int):=⟨z.natAbs,by omega⟩
   exact JJ (p:=fun n=>efunR (-(n:Int))) QeI (by omega) (by omega)
 unfold efunR at h
 rw [hz,cond_true] at h
 exact Qib tb0OK fnOK3 Ym h rfl
theorem QcH {N:Nat} (h1:1≤N) (h2:N≤600):(ps6 N).length≤4∧(∀ p,p ∈ ps6 N→2≤p∧p≤600)∧(N≤120→ps6 N=ps N∧divs 600 N=divs 120 N):=by
 have h:=JJ QhY h1 (by omega)
 unfold chk6 at h
 simp only [Bool.and_eq_true,Bool.or_eq_true] at h
 obtain ⟨a,b,c⟩:=h
 refine ⟨Nat.le_of_ble_eq_true a,fun p hp=>?_,fun hN=>?_⟩
 ·have h:=List.all_eq_true.1 b p hp
  rw [Bool.and_eq_true] at h
  exact ⟨Nat.le_of_ble_eq_true h.1,Nat.le_of_ble_eq_true h.2⟩
 ·rcases c with c | c
  ·have:=Nat.le_of_ble_eq_true c
   omega
  ·exact ⟨QcO c.1,QcO c.2⟩
theorem divs6 {N d:Nat} (h:d ∈ divs 600 N):1≤d∧d≤600:=by
 have h1:=List.mem_range'_1.1 (List.mem_filter.1 h).1
 omega
theorem VV {N:Nat}:(divs 600 N).length≤600:=by
 have h1:=List.length_filter_le (fun m=>Nat.beq (N % m) 0) (List.range' 1 600)
 rw [List.length_range'] at h1
 exact h1
end Go.Proofs.YtnjpkncacddplaaGreat

/- Walks of eta: fits. -/
namespace Go.Proofs.YtnjpkncacddplaaGreat
open Go.Hp
variable {G:World} {U U':UH} {M:MH}
theorem Qhf {n c:Nat} {p:Option Addr} {vs:List Value} {f:Nat→Int} (rw1:RowAt U [] 1 p n vs) (el:El Vz U vs f) (hn:n≤9223372036854775807) :
  Ct Tryz.prog 40 [.slice p n c] G U M fun v U' D=>∃ t:Bool,v = .bool t∧(t=true↔∀ k,k < n → -200≤f k∧f k≤200)∧U=U'∧D=[]:=by
 refine Qg Tryz.func40 rfl rfl rfl rfl ?_
 repeat (first|refine Qb ?_|refine Qa fun _=>?_|refine w_al fun _=>?_)
 try refine JB (M':=M) (ULe.refl _) sbk ?_
 refine Qo (fun z E U' M'=>∃ (i:Nat),i≤n∧(∀ k,k < i → -200≤f k∧f k≤200)∧U=U'∧E=[(7,.int .i64 (i:Int)),(6,.int .i64 (n:Int)),(5,.slice p n c)]∧ULe U U'∧M'=M∧z=n - i) (n0:=n - 0) (E0:=[(7,.int .i64 ((0:Nat):Int)),(6,.int .i64 (n:Int)),(5,.slice p n c)]) ⟨rfl,rfl,rfl,trivial⟩ ⟨0,by omega,(fun k h=>absurd h (Nat.not_lt_zero k)),rfl,rfl,uc,rfl,rfl⟩ ?_
 rintro z E U1 M' ⟨i,hi,hall,rfl,rfl,hU1,hMM,rfl⟩
 obtain rfl:M=M':=hMM.symm
 try refine Qc ?_
 refine Qh rfl (fun h=>?_) (fun h=>?_)
 ·have hin:i < n:=by omega
  obtain ⟨v1,hv1⟩:=rw1.at hin
  obtain ⟨rfl,hz⟩:=el _ _ hv1
  repeat (first|refine Qb ?_|refine Qa fun _=>?_|refine w_al fun _=>?_)
  refine sl_y (Qf sym rfl rfl rfl rfl rfl rfl ((rw1.up uc sb).lt hv1) ((rw1.up uc sb).get _ _ hv1).1) rfl rfl rfl rfl ?_; refine sl_y (Qk sym rfl rfl rfl rfl (rw1.up uc sb) hv1 rfl) rfl rfl rfl rfl ?_
  repeat (first|refine Qb ?_|refine Qa fun _=>?_|refine w_al fun _=>?_)
  refine Qt rfl rfl (fun h1=>?_) (fun h1=>?_)
  ·repeat (first|refine Qb ?_|refine Qa fun _=>?_|refine w_al fun _=>?_)
   exact Qe [] sym rfl (.cons (.tmp rfl) .nil) uc sb (.inl rfl) ⟨false,rfl,⟨(fun h=>by cases h),(fun h=>by have:=h i hin; omega)⟩,rfl,rfl⟩
  repeat (first|refine Qb ?_|refine Qa fun _=>?_|refine w_al fun _=>?_)
  refine Qh rfl (fun h2=>?_) (fun h2=>?_)
  ·repeat (first|refine Qb ?_|refine Qa fun _=>?_|refine w_al fun _=>?_)
   exact Qe [] sym rfl (.cons (.tmp rfl) .nil) uc sb (.inl rfl) ⟨false,rfl,⟨(fun h=>by cases h),(fun h=>by have:=h i hin; omega)⟩,rfl,rfl⟩
  repeat (first|refine Qb ?_|refine Qa fun _=>?_|refine w_al fun _=>?_)
  exact Qj (E':=[(7,.int .i64 ((i:Int)+1)),(6,.int .i64 (n:Int)),(5,.slice p n c)]) (m:=n - (i+1)) ⟨rfl,rfl,rfl,trivial⟩ (by omega) ⟨i+1,by omega,(fun k hk=>by
   rcases Nat.lt_or_eq_of_le (Nat.le_of_lt_succ hk) with h6 | h6
   ·exact hall k h6
   ·rw [h6]; omega),rfl,rfl,uc,rfl,rfl⟩
 obtain rfl:n=i:=by omega
 repeat (first|refine Qb ?_|refine Qa fun _=>?_|refine w_al fun _=>?_)
 exact Qe [] sym rfl (.cons (.tmp rfl) .nil) uc sb (.inl rfl) ⟨true,rfl,⟨fun _=>hall,fun _=>rfl⟩,rfl,rfl⟩
end Go.Proofs.YtnjpkncacddplaaGreat

/- Walks of eta: divisors, Check, sums, modular, Modular, Weight. -/
namespace Go.Proofs.YtnjpkncacddplaaGreat
open Go.Hp Go.Et
open Go.Rp (divs)
variable {G:World} {U U':UH} {M:MH}
theorem Vp {n:Nat} (h1:1≤n) (h2:n≤600) :
  Ct Tryz.prog 16 [.int .i64 (n:Int)] G U M fun v U' D=>∃ p c,v = .slice p (divs 600 n).length c∧(divs 600 n).length≤c∧RowAt U' [] 1 p (divs 600 n).length ((divs 600 n).map fun m:Nat=>Value.int .i64 (m:Int))∧D=[]:=by
 refine Qg Tryz.func16 rfl rfl rfl rfl ?_
 repeat (first|refine Qb ?_|refine Qa fun _=>?_|refine w_al fun _=>?_)
 refine Qd rfl rfl rfl rfl rfl rfl (fun _=>QhE h1 h2) ?_
 rintro v1 U1 D1 hU1 ⟨p,c,rfl,hc,rw1,rfl⟩
 rw [List.nil_append]
 repeat (first|refine Qb ?_|refine Qa fun _=>?_|refine w_al fun _=>?_)
 exact Qe [] sym rfl (.cons (.tmp rfl) .nil) uc sb (.inl rfl) ⟨p,c,rfl,hc,rw1.up uc sb,rfl⟩
def EOk (r:Int) (n:Nat) (f:Nat→Int):Prop:=1≤r∧r≤600∧n=(divs 600 r.toNat).length∧∀ k,k < n → -200≤f k∧f k≤200
theorem jw {r:Int} {n c:Nat} {p:Option Addr} {vs:List Value} {f:Nat→Int} (hn:n≤9223372036854775807) (rw1:RowAt U [] 1 p n vs) (el:El Vz U vs f) :
  Ct Tryz.prog 12 [.agg #[.int .i64 r,.slice p n c]] G U M fun v U' D=>∃ x:Int,v = .int .i64 x∧(x=0↔EOk r n f)∧D=[]:=by
 refine Qg Tryz.func12 rfl rfl rfl rfl ?_
 repeat (first|refine Qb ?_|refine Qa fun _=>?_|refine w_al fun _=>?_)
 rename_i b1
 refine Qt rfl rfl (fun h1=>?_) (fun h1=>?_)
 ·repeat (first|refine Qb ?_|refine Qa fun _=>?_|refine w_al fun _=>?_)
  exact Qe [] sym rfl (.cons (.tmp rfl) .nil) uc sb (.inl rfl) ⟨2,rfl,⟨(fun h=>by cases h),fun h=>by have:=h.1; omega⟩,rfl⟩
 repeat (first|refine Qb ?_|refine Qa fun _=>?_|refine w_al fun _=>?_)
 refine Qh rfl (fun h2=>?_) (fun h2=>?_)
 ·repeat (first|refine Qb ?_|refine Qa fun _=>?_|refine w_al fun _=>?_)
  exact Qe [] sym rfl (.cons (.tmp rfl) .nil) uc sb (.inl rfl) ⟨2,rfl,⟨(fun h=>by cases h),fun h=>by have:=h.2.1; omega⟩,rfl⟩
 obtain ⟨N,rfl⟩:∃ N:Nat,r=(N:Int):=⟨r.toNat,by omega⟩
 repeat (first|refine Qb ?_|refine Qa fun _=>?_|refine w_al fun _=>?_)
 refine QK [] [0,1,2,3,4,5,6,7] sym (by kernel_rfl) ?_
 repeat (first|refine Qb ?_|refine Qa fun _=>?_|refine w_al fun _=>?_)
 refine Qd rfl rfl rfl rfl rfl rfl (fun _=>Vp (n:=N) (by omega) (by omega)) ?_
 rintro v1 U1 D1 hU1 ⟨p2,c2,rfl,hc2,rw2,rfl⟩
 rw [List.nil_append]
 repeat (first|refine Qb ?_|refine Qa fun _=>?_|refine w_al fun _=>?_)
 refine Qh rfl (fun h3=>?_) (fun h3=>?_)
 ·repeat (first|refine Qb ?_|refine Qa fun _=>?_|refine w_al fun _=>?_)
  exact Qe [] sym rfl (.cons (.tmp rfl) .nil) uc sb (.inl rfl) ⟨4,rfl,⟨(fun h=>by cases h),fun h=>by have:=h.2.2.1; rw [Int.toNat_natCast] at this; omega⟩,rfl⟩
 repeat (first|refine Qb ?_|refine Qa fun _=>?_|refine w_al fun _=>?_)
 refine Qd rfl rfl rfl rfl rfl rfl (fun _=>Qhf (rw1.up uc (List.nil_sublist _)) (el.up KeptC.out uc) hn) ?_
 rintro v3 U3 D3 hU3 ⟨t,rfl,ht,rfl,rfl⟩
 rw [List.nil_append]
 repeat (first|refine Qb ?_|refine Qa fun _=>?_|refine w_al fun _=>?_)
 cases t
 ·repeat (first|refine Qb ?_|refine Qa fun _=>?_|refine w_al fun _=>?_)
  exact Qe [] sym rfl (.cons (.tmp rfl) .nil) uc sb (.inl rfl) ⟨2,rfl,⟨(fun h=>by cases h),fun h=>absurd (ht.2 h.2.2.2) (by decide)⟩,rfl⟩
 ·repeat (first|refine Qb ?_|refine Qa fun _=>?_|refine w_al fun _=>?_)
  exact Qe [] sym rfl (.cons (.tmp rfl) .nil) uc sb (.inl rfl) ⟨0,rfl,⟨fun _=>⟨by omega,by omega,by rw [Int.toNat_natCast]; omega,ht.1 rfl⟩,fun _=>rfl⟩,rfl⟩
end Go.Proofs.YtnjpkncacddplaaGreat

/- Walks of eta: sums, modular, Modular, Weight. -/
namespace Go.Proofs.YtnjpkncacddplaaGreat
open Go.Hp Go.Et
open Go.Rp (divs)
variable {G:World} {U U':UH} {M:MH}
def pw (N:Nat) (f:Nat→Int):List (Nat × Int):=prs f 0 (divs 600 N)
theorem Qdk {N n:Nat} {f:Nat→Int} (h2:N≤600) (hn:n=(divs 600 N).length) (hk:∀ k,k < n → -200≤f k∧f k≤200):(-120000≤S one (pw N f)∧S one (pw N f)≤120000)∧(-72000000≤S idz (pw N f)∧S idz (pw N f)≤72000000)∧(-72000000≤S (co N) (pw N f)∧S (co N) (pw N f)≤72000000):=by
 have h:=QdW (N:=N) (n:=n) (i:=n) (f:=f) (l:=divs 600 N) h2 (fun d hd=>(divs6 hd).2) hk hn.symm (by have:=VV (N:=N); omega)
 rw [hn,List.take_length] at h
 exact h
set_option maxHeartbeats 1000000 in
theorem yS {N n c:Nat} {p:Option Addr} {vs:List Value} {f:Nat→Int} (h1:1≤N) (h2:N≤600) (hn:n=(divs 600 N).length) (hk:∀ k,k < n → -200≤f k∧f k≤200) (rw1:RowAt U [] 1 p n vs) (el:El Vz U vs f) :
  Ct Tryz.prog 14 [.agg #[.int .i64 (N:Int),.slice p n c]] G U M fun v U' D=>v = .tuple #[.int .i64 (S one (pw N f)),.int .i64 (S idz (pw N f)),.int .i64 (S (co N) (pw N f))]∧D=[]:=by
 have hn6:n≤600:=by have:=VV (N:=N); omega
 refine Qg Tryz.func14 rfl rfl rfl rfl ?_
 repeat (first|refine Qb ?_|refine Qa fun _=>?_|refine w_al fun _=>?_)
 rename_i b1
 refine Qd rfl rfl rfl rfl rfl rfl (fun _=>Vp h1 h2) ?_
 rintro v1 U1 D1 hU1 ⟨p2,c2,rfl,hc2,rw2,rfl⟩
 rw [List.nil_append]
 rw [← hn] at hc2 rw2 ⊢
 repeat (first|refine Qb ?_|refine Qa fun _=>?_|refine w_al fun _=>?_)
 try refine JB (M':=(b1,.var (.agg #[.int .i64 (N:Int),.slice p n c]),24)::M) (ULe.refl _) sbk ?_
 refine Qo (fun z E U' M'=>∃ (i:Nat) (sx sy sw:Int),i≤n∧sx=S one (prs f 0 ((divs 600 N).take i))∧sy=S idz (prs f 0 ((divs 600 N).take i))∧sw=S (co N) (prs f 0 ((divs 600 N).take i))∧U1=U'∧E=[(11,.int .i64 (i:Int)),(10,.int .i64 (n:Int)),(9,.slice p2 n c2),(4,.int .i64 sw),(3,.int .i64 sy),(2,.int .i64 sx),(1,.pointer (some ⟨b1,0,none⟩))]∧ULe U1 U'∧M'=(b1,.var (.agg #[.int .i64 (N:Int),.slice p n c]),24)::M∧z=n - i) (n0:=n - 0) (E0:=[(11,.int .i64 ((0:Nat):Int)),(10,.int .i64 (n:Int)),(9,.slice p2 n c2),(4,.int .i64 0),(3,.int .i64 0),(2,.int .i64 0),(1,.pointer (some ⟨b1,0,none⟩))]) ⟨rfl,rfl,rfl,rfl,rfl,rfl,rfl,trivial⟩ ⟨0,0,0,0,by omega,rfl,rfl,rfl,rfl,rfl,uc,rfl,rfl⟩ ?_
 rintro z E U1 M' ⟨i,sx,sy,sw,hi,hx,hy,hz,rfl,rfl,hU1,rfl,rfl⟩
 try refine Qc ?_
 refine Qh rfl (fun h=>?_) (fun h=>?_)
 ·have hin:i < n:=by omega
  obtain ⟨d,hd⟩:∃ d,(divs 600 N)[i]?=some d:=⟨_,List.getElem?_eq_getElem (by omega)⟩
  have hdv:((divs 600 N).map fun m:Nat=>Value.int .i64 (m:Int))[i]?=some (.int .i64 (d:Int)):=by rw [List.getElem?_map,hd]; rfl
  obtain ⟨hd1,hd2⟩:=divs6 (List.mem_of_getElem? hd)
  obtain ⟨v1,hv1⟩:=rw1.at hin
  obtain ⟨rfl,hz1⟩:=el _ _ hv1
  have hp:=Qbo (f:=f) hd
  obtain ⟨s1,s2,s3⟩:=QdW (N:=N) (n:=n) (i:=i) (f:=f) (l:=divs 600 N) h2 (fun d hd=>(divs6 hd).2) hk hn.symm hn6
  rw [← hx] at s1
  rw [← hy] at s2
  rw [← hz] at s3
  have k0:=hk i hin
  have k1:=mulb (a:=(d:Int)) (c:=600) (d:=200) (by omega) k0
  obtain ⟨q,hq⟩:∃ q,N / d=q:=⟨_,rfl⟩
  have hq6:q≤600:=by rw [← hq]; exact Nat.le_trans (Nat.div_le_self _ _) h2
  have k2:=mulb (a:=(q:Int)) (c:=600) (d:=200) (by omega) k0
  have e1:S one (prs f 0 ((divs 600 N).take (i+1)))=sx+f i:=by rw [hp,Qar,← hx]; show sx+1*f i=_; rw [Int.one_mul]
  have e2:S idz (prs f 0 ((divs 600 N).take (i+1)))=sy+(d:Int)*f i:=by rw [hp,Qar,← hy]; rfl
  have e3:S (co N) (prs f 0 ((divs 600 N).take (i+1)))=sw+(q:Int)*f i:=by rw [hp,Qar,← hz,← hq]; rfl
  repeat (first|refine Qb ?_|refine Qa fun _=>?_|refine w_al fun _=>?_)
  refine sl_y (Qf sym rfl rfl rfl rfl rfl rfl ((rw2.up uc sb).lt hdv) ((rw2.up uc sb).get _ _ hdv).1) rfl rfl rfl rfl ?_; refine sl_y (Qk sym rfl rfl rfl rfl (rw2.up uc sb) hdv rfl) rfl rfl rfl rfl ?_
  repeat (first|refine Qb ?_|refine Qa fun _=>?_|refine w_al fun _=>?_)
  refine sl_y (Qf sym rfl rfl rfl rfl rfl rfl ((rw1.up uc sb).lt hv1) ((rw1.up uc sb).get _ _ hv1).1) rfl rfl rfl rfl ?_; refine sl_y (Qk sym rfl rfl rfl rfl (rw1.up uc sb) hv1 rfl) rfl rfl rfl rfl ?_
  repeat (first|refine Qb ?_|refine Qa fun _=>?_|refine w_al fun _=>?_)
  refine sl_y (Qf sym rfl rfl rfl rfl rfl rfl ((rw1.up uc sb).lt hv1) ((rw1.up uc sb).get _ _ hv1).1) rfl rfl rfl rfl ?_; refine sl_y (Qk sym rfl rfl rfl rfl (rw1.up uc sb) hv1 rfl) rfl rfl rfl rfl ?_
  repeat (first|refine Qb ?_|refine Qa fun _=>?_|refine w_al fun _=>?_)
  refine QK [12] [0,1,2,3,4,5,6,7,8,9,10,11,12] sym (by kernel_rfl) ?_
  repeat (first|refine Qb ?_|refine Qa fun _=>?_|refine w_al fun _=>?_)
  refine sl_y (Vk (m:=N) (n:=d) (q:=q) rfl rfl rfl rfl rfl (by simp only [kmax]; omega) (by omega) hq) rfl rfl rfl rfl ?_
  repeat (first|refine Qb ?_|refine Qa fun _=>?_|refine w_al fun _=>?_)
  refine sl_y (Qf sym rfl rfl rfl rfl rfl rfl ((rw1.up uc sb).lt hv1) ((rw1.up uc sb).get _ _ hv1).1) rfl rfl rfl rfl ?_; refine sl_y (Qk sym rfl rfl rfl rfl (rw1.up uc sb) hv1 rfl) rfl rfl rfl rfl ?_
  repeat (first|refine Qb ?_|refine Qa fun _=>?_|refine w_al fun _=>?_)
  exact Qj (E':=[(11,.int .i64 ((i:Int)+1)),(10,.int .i64 (n:Int)),(9,.slice p2 n c2),(4,.int .i64 (sw+(q:Int)*f i)),(3,.int .i64 (sy+(d:Int)*f i)),(2,.int .i64 (sx+f i)),(1,.pointer (some ⟨b1,0,none⟩))]) (m:=n - (i+1)) ⟨rfl,rfl,rfl,rfl,rfl,rfl,rfl,trivial⟩ (by omega) ⟨i+1,sx+f i,sy+(d:Int)*f i,sw+(q:Int)*f i,by omega,e1.symm,e2.symm,e3.symm,rfl,rfl,uc,rfl,rfl⟩
 obtain rfl:n=i:=by omega
 rw [hn,List.take_length] at hx hy hz
 repeat (first|refine Qb ?_|refine Qa fun _=>?_|refine w_al fun _=>?_)
 exact Qe [] sym rfl (.cons (.tmp rfl) (.cons (.tmp rfl) (.cons (.tmp rfl) .nil))) uc sb (.inl rfl) ⟨by rw [hx,hy,hz]; rfl,rfl⟩
end Go.Proofs.YtnjpkncacddplaaGreat

/- Walks of eta: modular, Modular, Weight. -/
namespace Go.Proofs.YtnjpkncacddplaaGreat
open Go.Hp Go.Et
open Go.Rp (divs)
variable {G:World} {U U':UH} {M:MH}
def EMod (N:Nat) (f:Nat→Int):Prop:=S one (pw N f) % 2=0∧S idz (pw N f) % 24=0∧S (co N) (pw N f) % 24=0
theorem tm0 {x m:Int}:x.tmod m=0↔x % m=0:=by
 rw [← Int.dvd_iff_emod_eq_zero,Int.dvd_iff_tmod_eq_zero]
theorem jT {N n c:Nat} {p:Option Addr} {vs:List Value} {f:Nat→Int} (h1:1≤N) (h2:N≤600) (hn:n=(divs 600 N).length) (hk:∀ k,k < n → -200≤f k∧f k≤200) (rw1:RowAt U [] 1 p n vs) (el:El Vz U vs f) :
  Ct Tryz.prog 13 [.agg #[.int .i64 (N:Int),.slice p n c]] G U M fun v U' D=>∃ t:Bool,v = .bool t∧(t=true↔EMod N f)∧D=[]:=by
 refine Qg Tryz.func13 rfl rfl rfl rfl ?_
 repeat (first|refine Qb ?_|refine Qa fun _=>?_|refine w_al fun _=>?_)
 rename_i b1
 refine Qd rfl rfl rfl rfl rfl rfl (fun _=>yS h1 h2 hn hk (rw1.up uc (List.nil_sublist _)) (el.up KeptC.out uc)) ?_
 rintro v1 U1 D1 hU1 ⟨rfl,rfl⟩
 rw [List.nil_append]
 have e1:=tm0 (x:=S one (pw N f)) (m:=2)
 have e2:=tm0 (x:=S idz (pw N f)) (m:=24)
 have e3:=tm0 (x:=S (co N) (pw N f)) (m:=24)
 obtain ⟨s1,s2,s3⟩:=Qdk (f:=f) h2 hn hk
 unfold EMod
 rw [← e1,← e2,← e3]
 generalize S one (pw N f)=x at *
 generalize S idz (pw N f)=y at *
 generalize S (co N) (pw N f)=z at *
 repeat (first|refine Qb ?_|refine Qa fun _=>?_|refine w_al fun _=>?_)
 refine Qt rfl rfl (fun h3=>?_) (fun h3=>?_)
 ·repeat (first|refine Qb ?_|refine Qa fun _=>?_|refine w_al fun _=>?_)
  refine Qt rfl rfl (fun h4=>?_) (fun h4=>?_)
  ·repeat (first|refine Qb ?_|refine Qa fun _=>?_|refine w_al fun _=>?_)
   by_cases h5:z.tmod 24=0
   ·exact Qe [] sym rfl (.cons (.tmp rfl) .nil) uc sb (.inl rfl) ⟨_,rfl,⟨fun _=>⟨h3,h4,h5⟩,fun _=>Qhi h5⟩,rfl⟩
   ·exact Qe [] sym rfl (.cons (.tmp rfl) .nil) uc sb (.inl rfl) ⟨_,rfl,⟨(fun h=>by rw [QeS h5] at h; cases h),(fun h=>absurd h.2.2 h5)⟩,rfl⟩
  ·repeat (first|refine Qb ?_|refine Qa fun _=>?_|refine w_al fun _=>?_)
   exact Qe [] sym rfl (.cons (.tmp rfl) .nil) uc sb (.inl rfl) ⟨_,rfl,⟨(fun h=>by cases h),fun h=>absurd h.2.1 h4⟩,rfl⟩
 ·repeat (first|refine Qb ?_|refine Qa fun _=>?_|refine w_al fun _=>?_)
  exact Qe [] sym rfl (.cons (.tmp rfl) .nil) uc sb (.inl rfl) ⟨_,rfl,⟨(fun h=>by cases h),fun h=>absurd h.1 h3⟩,rfl⟩
theorem Qbr {r:Int} {n c:Nat} {p:Option Addr} {vs:List Value} {f:Nat→Int} (hn:n≤9223372036854775807) (rw1:RowAt U [] 1 p n vs) (el:El Vz U vs f) :
  Ct Tryz.prog 4 [.agg #[.int .i64 r,.slice p n c]] G U M fun v U' D=>∃ (t:Bool) (x:Int),v = .tuple #[.bool t,.int .i64 x]∧(x=0→EOk r n f∧(t=true→EMod r.toNat f))∧D=[]:=by
 refine Qg Tryz.func4 rfl rfl rfl rfl ?_
 repeat (first|refine Qb ?_|refine Qa fun _=>?_|refine w_al fun _=>?_)
 rename_i b1
 refine Qd rfl rfl rfl rfl rfl rfl (fun _=>jw hn (rw1.up uc (List.nil_sublist _)) (el.up KeptC.out uc)) ?_
 rintro v1 U1 D1 hU1 ⟨x,rfl,hx,rfl⟩
 rw [List.nil_append]
 repeat (first|refine Qb ?_|refine Qa fun _=>?_|refine w_al fun _=>?_)
 refine JM rfl (fun h=>?_) (fun h=>?_)
 ·repeat (first|refine Qb ?_|refine Qa fun _=>?_|refine w_al fun _=>?_)
  exact Qe [] sym rfl (.cons (.tmp rfl) (.cons (.tmp rfl) .nil)) uc sb (.inl rfl) ⟨false,x,rfl,fun h0=>absurd h0 h,rfl⟩
 have hE:=hx.1 h
 obtain ⟨g1,g2,g3,g4⟩:=hE
 obtain ⟨N,rfl⟩:∃ N:Nat,r=(N:Int):=⟨r.toNat,by omega⟩
 rw [Int.toNat_natCast] at g3
 repeat (first|refine Qb ?_|refine Qa fun _=>?_|refine w_al fun _=>?_)
 refine Qd rfl rfl rfl rfl rfl rfl (fun _=>jT (by omega) (by omega) g3 g4 (rw1.up uc (List.nil_sublist _)) (el.up KeptC.out uc)) ?_
 rintro v2 U2 D2 hU2 ⟨t,rfl,ht,rfl⟩
 rw [List.nil_append]
 repeat (first|refine Qb ?_|refine Qa fun _=>?_|refine w_al fun _=>?_)
 exact Qe [] sym rfl (.cons (.tmp rfl) (.cons (.tmp rfl) .nil)) uc sb (.inl rfl) ⟨t,0,rfl,fun _=>⟨hx.1 h,fun h=>by rw [Int.toNat_natCast]; exact ht.1 h⟩,rfl⟩
theorem QcE {N n c:Nat} {p:Option Addr} {vs:List Value} {f:Nat→Int} (hE:EOk (N:Int) n f) (hm:EMod N f) (rw1:RowAt U [] 1 p n vs) (el:El Vz U vs f) :
  Ct Tryz.prog 5 [.agg #[.int .i64 (N:Int),.slice p n c]] G U M fun v U' D=>v = .tuple #[.int .i64 (S one (pw N f) / 2),.int .i64 0]∧D=[]:=by
 obtain ⟨g1,g2,g3,g4⟩:=id hE
 rw [Int.toNat_natCast] at g3
 have hn6:=VV (N:=N)
 refine Qg Tryz.func5 rfl rfl rfl rfl ?_
 repeat (first|refine Qb ?_|refine Qa fun _=>?_|refine w_al fun _=>?_)
 rename_i b1
 refine Qd rfl rfl rfl rfl rfl rfl (fun _=>jw (by omega) (rw1.up uc (List.nil_sublist _)) (el.up KeptC.out uc)) ?_
 rintro v1 U1 D1 hU1 ⟨x,rfl,hx,rfl⟩
 rw [List.nil_append]
 obtain rfl:=hx.2 hE
 repeat (first|refine Qb ?_|refine Qa fun _=>?_|refine w_al fun _=>?_)
 refine JM rfl (fun h=>absurd rfl h) (fun _=>?_)
 repeat (first|refine Qb ?_|refine Qa fun _=>?_|refine w_al fun _=>?_)
 refine Qd rfl rfl rfl rfl rfl rfl (fun _=>yS (by omega) (by omega) g3 g4 (rw1.up uc (List.nil_sublist _)) (el.up KeptC.out uc)) ?_
 rintro v2 U2 D2 hU2 ⟨rfl,rfl⟩
 rw [List.nil_append]
 obtain ⟨s1,-,-⟩:=Qdk (f:=f) (show N≤600 by omega) g3 g4
 have e1:=tm0.2 hm.1
 obtain ⟨k,hk2⟩:∃ k,S one (pw N f)=2*k:=⟨S one (pw N f) / 2,by have:=hm.1; omega⟩
 have e2:(S one (pw N f)).tdiv 2=S one (pw N f) / 2:=by
  rw [hk2,Int.mul_tdiv_cancel_left _ (by decide),Int.mul_ediv_cancel_left _ (by decide)]
 repeat (first|refine Qb ?_|refine Qa fun _=>?_|refine w_al fun _=>?_)
 refine Qh rfl (fun h=>absurd e1 h) (fun _=>?_)
 repeat (first|refine Qb ?_|refine Qa fun _=>?_|refine w_al fun _=>?_)
 rw [e2,IntWalk.i64_in _ (by omega)]
 exact Qe [] sym rfl (.cons (.tmp rfl) (.cons (.tmp rfl) .nil)) uc sb (.inl rfl) ⟨rfl,rfl⟩
end Go.Proofs.YtnjpkncacddplaaGreat

/- Walks of eta: Disc. -/
namespace Go.Proofs.YtnjpkncacddplaaGreat
open Go.Hp Go.Et
open Go.Rp (divs)
variable {G:World} {U U':UH} {M:MH}
theorem tm44 {x:Int}:((x.tmod 4+4).tmod 4=1)↔x % 4=1:=by
 obtain ⟨⟨k,h1⟩,h2,h3⟩:=tmodZ x 4 (by decide)
 rw [Int.tmod_eq_emod_of_nonneg (by omega)]
 omega
def edis (N:Nat) (f:Nat→Int):Int:=dsc ((if S one (pw N f) % 4=0 then 1 else -1)*prd (odds (pw N f) (ps6 N)))
theorem qR {l:List (Nat × Int)} {N i:Nat} (h1:1≤N) (h2:N≤600):1≤prd (odds l ((ps6 N).take i))∧prd (odds l ((ps6 N).take i))≤129600000000:=by
 obtain ⟨h3,h4,-⟩:=QcH h1 h2
 refine QfA (fun p hp=>h4 p (List.mem_of_mem_take (yE hp))) (Nat.le_trans QbT ?_)
 rw [List.length_take]; omega
set_option maxHeartbeats 4000000 in
theorem Qfv {N n c:Nat} {p:Option Addr} {vs:List Value} {f:Nat→Int} (hE:EOk (N:Int) n f) (hm:EMod N f) (rw1:RowAt U [] 1 p n vs) (el:El Vz U vs f) :
  Ct Tryz.prog 6 [.agg #[.int .i64 (N:Int),.slice p n c]] G U M fun v U' D=>v = .tuple #[.int .i64 (edis N f),.int .i64 0]∧D=[]:=by
 obtain ⟨g1,g2,g3,g4⟩:=id hE
 rw [Int.toNat_natCast] at g3
 have hn6:=VV (N:=N)
 have h1:1≤N:=by omega
 have h2:N≤600:=by omega
 obtain ⟨q3,q4,-⟩:=QcH h1 h2
 refine Qg Tryz.func6 rfl rfl rfl rfl ?_
 repeat (first|refine Qb ?_|refine Qa fun _=>?_|refine w_al fun _=>?_)
 rename_i b1
 refine Qd rfl rfl rfl rfl rfl rfl (fun _=>jw (by omega) (rw1.up uc (List.nil_sublist _)) (el.up KeptC.out uc)) ?_
 rintro v1 U1 D1 hU1 ⟨x,rfl,hx,rfl⟩
 rw [List.nil_append]
 obtain rfl:=hx.2 hE
 repeat (first|refine Qb ?_|refine Qa fun _=>?_|refine w_al fun _=>?_)
 refine JM rfl (fun h=>absurd rfl h) (fun _=>?_)
 repeat (first|refine Qb ?_|refine Qa fun _=>?_|refine w_al fun _=>?_)
 refine Qd rfl rfl rfl rfl rfl rfl (fun _=>jT h1 h2 g3 g4 (rw1.up uc (List.nil_sublist _)) (el.up KeptC.out uc)) ?_
 rintro v2 U2 D2 hU2 ⟨t,rfl,ht,rfl⟩
 rw [List.nil_append]
 obtain rfl:=ht.2 hm
 repeat (first|refine Qb ?_|refine Qa fun _=>?_|refine w_al fun _=>?_)
 refine Qd rfl rfl rfl rfl rfl rfl (fun _=>yS h1 h2 g3 g4 (rw1.up uc (List.nil_sublist _)) (el.up KeptC.out uc)) ?_
 rintro v3 U3 D3 hU3 ⟨rfl,rfl⟩
 rw [List.nil_append]
 obtain ⟨s1,-,-⟩:=Qdk (f:=f) h2 g3 g4
 obtain ⟨g0,hg0⟩:∃ g0,g0=if S one (pw N f) % 4=0 then (1:Int) else -1:=⟨_,rfl⟩
 have hg1 : -1≤g0∧g0≤1:=by rw [hg0]; split<;>omega
 have e4:=tm0 (x:=S one (pw N f)) (m:=4)
 repeat (first|refine YU ?_|refine Qa fun _=>?_|refine w_al fun _=>?_)
 refine Ja ?_
 repeat (first|refine YU ?_|refine Qa fun _=>?_|refine w_al fun _=>?_)
 refine Qs (fun E U' M'=>U3=U'∧E=[(8,.int .i64 g0),(1,.pointer (some ⟨b1,0,none⟩))]∧ULe U3 U'∧M'=(b1,.var (.agg #[.int .i64 (N:Int),.slice p n c]),24)::M) ?_ ?_
 ·repeat (first|refine Qb ?_|refine Qa fun _=>?_|refine w_al fun _=>?_)
  refine Qh rfl (fun h=>?_) (fun h=>?_)
  ·obtain rfl:g0 = -1:=by rw [hg0,if_neg (fun h5=>h (e4.2 h5))]
   repeat (first|refine Qb ?_|refine Qa fun _=>?_|refine w_al fun _=>?_)
   exact Qr (E':=[(8,.int .i64 ((-1))),(1,.pointer (some ⟨b1,0,none⟩))]) ⟨rfl,rfl,trivial⟩ ⟨rfl,rfl,uc,rfl⟩
  ·obtain rfl:g0=1:=by rw [hg0,if_pos (e4.1 (Decidable.not_not.1 h))]
   repeat (first|refine Qb ?_|refine Qa fun _=>?_|refine w_al fun _=>?_)
   exact Qr (E':=[(8,.int .i64 1),(1,.pointer (some ⟨b1,0,none⟩))]) ⟨rfl,rfl,trivial⟩ ⟨rfl,rfl,uc,rfl⟩
 rintro E U1 M' ⟨rfl,rfl,hU1,rfl⟩
 repeat (first|refine Qb ?_|refine Qa fun _=>?_|refine w_al fun _=>?_)
 refine Qd rfl rfl rfl rfl rfl rfl (fun _=>Qiw h1 h2) ?_
 rintro v5 U5 D5 hU5 ⟨p3,c3,rfl,hc3,rw3,rfl⟩
 rw [List.nil_append]
 have hfl:(fac6 N).length=(ps6 N).length:=List.length_map ..
 rw [hfl] at hc3 rw3 ⊢
 repeat (first|refine Qb ?_|refine Qa fun _=>?_|refine w_al fun _=>?_)
 try refine JB (M':=(b1,.var (.agg #[.int .i64 (N:Int),.slice p n c]),24)::M) (ULe.refl _) sbk ?_
 refine Qo (fun z E U' M'=>∃ (i:Nat) (x:Int),i≤(ps6 N).length∧x=g0*prd (odds (pw N f) ((ps6 N).take i))∧E=[(41,.int .i64 (i:Int)),(40,.int .i64 ((ps6 N).length:Int)),(39,.slice p3 (ps6 N).length c3),(8,.int .i64 x),(1,.pointer (some ⟨b1,0,none⟩))]∧ULe U5 U'∧M'=(b1,.var (.agg #[.int .i64 (N:Int),.slice p n c]),24)::M∧z=(ps6 N).length - i) (n0:=(ps6 N).length - 0) (E0:=[(41,.int .i64 ((0:Nat):Int)),(40,.int .i64 ((ps6 N).length:Int)),(39,.slice p3 (ps6 N).length c3),(8,.int .i64 g0),(1,.pointer (some ⟨b1,0,none⟩))]) ⟨rfl,rfl,rfl,rfl,rfl,trivial⟩ ⟨0,g0,by omega,(Int.mul_one _).symm,rfl,uc,rfl,rfl⟩ ?_
 rintro z E U6 M' ⟨i,x,hi,hx,rfl,hU6,rfl,rfl⟩
 try refine Qc ?_
 refine Qh rfl (fun h=>?_) (fun h=>?_)
 ·have hin:i < (ps6 N).length:=by omega
  obtain ⟨p0,hp0⟩:∃ p0,(ps6 N)[i]?=some p0:=⟨_,List.getElem?_eq_getElem hin⟩
  obtain ⟨hp2,hp6⟩:=q4 p0 (List.mem_of_getElem? hp0)
  have hpv:((fac6 N).map vPP)[i]?=some (.agg #[.int .i64 (p0:Int),.int .i64 (vp p0 10 N:Int)]):=by
   unfold fac6
   rw [List.getElem?_map,List.getElem?_map,hp0]; rfl
  have hod:=qR (l:=pw N f) (i:=i) h1 h2
  repeat (first|refine Qb ?_|refine Qa fun _=>?_|refine w_al fun _=>?_)
  refine sl_y (Qf sym rfl rfl rfl rfl rfl rfl ((rw3.up uc sb).lt hpv) ((rw3.up uc sb).get _ _ hpv).1) rfl rfl rfl rfl ?_; refine sl_y (Qx sym rfl rfl rfl rfl rfl (rw3.up uc sb) hpv) rfl rfl rfl rfl ?_
  repeat (first|refine Qb ?_|refine Qa fun _=>?_|refine w_al fun _=>?_)
  rename_i b12
  refine Qd rfl rfl rfl rfl rfl rfl (fun _=>Vp h1 h2) ?_
  rintro v7 U7 D7 hU7 ⟨p4,c4,rfl,hc4,rw4,rfl⟩
  rw [List.nil_append]
  rw [← g3] at hc4 rw4 ⊢
  repeat (first|refine Qb ?_|refine Qa fun _=>?_|refine w_al fun _=>?_)
  try refine JB (M':=(b12,.var (.agg #[.int .i64 (p0:Int),.int .i64 (vp p0 10 N:Int)]),47)::(b1,.var (.agg #[.int .i64 (N:Int),.slice p n c]),24)::M) (ULe.refl _) sbk ?_
  refine Qo (fun z E U' M'=>∃ (j y:Nat),j≤n∧y=np p0 (prs f 0 ((divs 600 N).take j))∧E=[(49,.int .i64 (j:Int)),(48,.int .i64 (n:Int)),(47,.slice p4 n c4),(13,.int .i64 (y:Int)),(12,.pointer (some ⟨b12,0,none⟩)),(41,.int .i64 (i:Int)),(40,.int .i64 ((ps6 N).length:Int)),(39,.slice p3 (ps6 N).length c3),(8,.int .i64 x),(1,.pointer (some ⟨b1,0,none⟩))]∧ULe U7 U'∧M'=(b12,.var (.agg #[.int .i64 (p0:Int),.int .i64 (vp p0 10 N:Int)]),47)::(b1,.var (.agg #[.int .i64 (N:Int),.slice p n c]),24)::M∧z=n - j) (n0:=n - 0) (E0:=[(49,.int .i64 ((0:Nat):Int)),(48,.int .i64 (n:Int)),(47,.slice p4 n c4),(13,.int .i64 ((0:Nat):Int)),(12,.pointer (some ⟨b12,0,none⟩)),(41,.int .i64 (i:Int)),(40,.int .i64 ((ps6 N).length:Int)),(39,.slice p3 (ps6 N).length c3),(8,.int .i64 x),(1,.pointer (some ⟨b1,0,none⟩))]) ⟨rfl,rfl,rfl,rfl,rfl,rfl,rfl,rfl,rfl,rfl,trivial⟩ ⟨0,0,by omega,rfl,rfl,uc,rfl,rfl⟩ ?_
  rintro z E U8 M' ⟨j,y,hj,hy,rfl,hU8,rfl,rfl⟩
  try refine Qc ?_
  refine Qh rfl (fun h3=>?_) (fun h3=>?_)
  ·have hjn:j < n:=by omega
   obtain ⟨d,hd⟩:∃ d,(divs 600 N)[j]?=some d:=⟨_,List.getElem?_eq_getElem (by omega)⟩
   have hdv:((divs 600 N).map fun m:Nat=>Value.int .i64 (m:Int))[j]?=some (.int .i64 (d:Int)):=by rw [List.getElem?_map,hd]; rfl
   obtain ⟨hd1,hd2⟩:=divs6 (List.mem_of_getElem? hd)
   obtain ⟨v1,hv1⟩:=rw1.at hjn
   obtain ⟨rfl,hz1⟩:=el _ _ hv1
   have hpt:=Qbo (f:=f) hd
   have hns:=Qdp (p:=p0) (x:=(d,f j)) (l:=prs f 0 ((divs 600 N).take j))
   rw [← hpt,← hy] at hns
   have hyl:y≤10*600:=by
    rw [hy]
    refine Nat.le_trans Qge (Nat.mul_le_mul_left _ ?_)
    rw [yu,List.length_take]; omega
   have e2:=tm0 (x:=f j) (m:=2)
   repeat (first|refine Qb ?_|refine Qa fun _=>?_|refine w_al fun _=>?_)
   refine sl_y (Qf sym rfl rfl rfl rfl rfl rfl ((rw4.up uc sb).lt hdv) ((rw4.up uc sb).get _ _ hdv).1) rfl rfl rfl rfl ?_; refine sl_y (Qk sym rfl rfl rfl rfl (rw4.up uc sb) hdv rfl) rfl rfl rfl rfl ?_
   repeat (first|refine Qb ?_|refine Qa fun _=>?_|refine w_al fun _=>?_)
   refine sl_y (Qf sym rfl rfl rfl rfl rfl rfl ((rw1.up uc sb).lt hv1) ((rw1.up uc sb).get _ _ hv1).1) rfl rfl rfl rfl ?_; refine sl_y (Qk sym rfl rfl rfl rfl (rw1.up uc sb) hv1 rfl) rfl rfl rfl rfl ?_
   repeat (first|refine Qb ?_|refine Qa fun _=>?_|refine w_al fun _=>?_)
   refine Qh rfl (fun h4=>?_) (fun h4=>?_)
   ·have h4':=e2.1 h4
    have hns:np p0 (prs f 0 ((divs 600 N).take (j+1)))=y:=by
     rw [hns,show decide (f j % 2=0)=true from decide_eq_true h4',cond_true,Nat.add_zero]
    repeat (first|refine Qb ?_|refine Qa fun _=>?_|refine w_al fun _=>?_)
    exact Qj (E':=[(49,.int .i64 ((j:Int)+1)),(48,.int .i64 (n:Int)),(47,.slice p4 n c4),(13,.int .i64 (y:Int)),(12,.pointer (some ⟨b12,0,none⟩)),(41,.int .i64 (i:Int)),(40,.int .i64 ((ps6 N).length:Int)),(39,.slice p3 (ps6 N).length c3),(8,.int .i64 x),(1,.pointer (some ⟨b1,0,none⟩))]) (m:=n - (j+1)) ⟨rfl,rfl,rfl,rfl,rfl,rfl,rfl,rfl,rfl,rfl,trivial⟩ (by omega) ⟨j+1,y,by omega,hns.symm,rfl,uc,rfl,rfl⟩
   ·have h4':¬ f j % 2=0:=fun h5=>h4 (e2.2 h5)
    have hns:np p0 (prs f 0 ((divs 600 N).take (j+1)))=y+vp p0 10 d:=by
     rw [hns,show decide (f j % 2=0)=false from decide_eq_false h4',cond_false]
    have hvl:=Qgd (p:=p0) (k:=10) (d:=d)
    repeat (first|refine Qb ?_|refine Qa fun _=>?_|refine w_al fun _=>?_)
    try refine JB (M':=(b12,.var (.agg #[.int .i64 (p0:Int),.int .i64 (vp p0 10 N:Int)]),47)::(b1,.var (.agg #[.int .i64 (N:Int),.slice p n c]),24)::M) (ULe.refl _) sbk ?_
    refine Qo (fun z E U' M'=>∃ (e w:Nat),(∃ k,w+vp p0 k e=y+vp p0 10 d∧e < 2 ^ k)∧1≤e∧e≤600∧E=[(15,.int .i64 (e:Int)),(49,.int .i64 (j:Int)),(48,.int .i64 (n:Int)),(47,.slice p4 n c4),(13,.int .i64 (w:Int)),(12,.pointer (some ⟨b12,0,none⟩)),(41,.int .i64 (i:Int)),(40,.int .i64 ((ps6 N).length:Int)),(39,.slice p3 (ps6 N).length c3),(8,.int .i64 x),(1,.pointer (some ⟨b1,0,none⟩))]∧ULe U8 U'∧M'=(b12,.var (.agg #[.int .i64 (p0:Int),.int .i64 (vp p0 10 N:Int)]),47)::(b1,.var (.agg #[.int .i64 (N:Int),.slice p n c]),24)::M∧z=e) (n0:=d) (E0:=[(15,.int .i64 ((d:Nat):Int)),(49,.int .i64 (j:Int)),(48,.int .i64 (n:Int)),(47,.slice p4 n c4),(13,.int .i64 ((y:Nat):Int)),(12,.pointer (some ⟨b12,0,none⟩)),(41,.int .i64 (i:Int)),(40,.int .i64 ((ps6 N).length:Int)),(39,.slice p3 (ps6 N).length c3),(8,.int .i64 x),(1,.pointer (some ⟨b1,0,none⟩))]) ⟨rfl,rfl,rfl,rfl,rfl,rfl,rfl,rfl,rfl,rfl,rfl,trivial⟩ ⟨d,y,⟨10,rfl,by omega⟩,by omega,by omega,rfl,uc,rfl,rfl⟩ ?_
    rintro z E U9 M' ⟨e,w,hk,he1,he6,rfl,hU9,rfl,hzW⟩
    try refine Qc ?_
    obtain ⟨k,hk1,hk2⟩:=hk
    have hwl:w≤6010:=by omega
    repeat (first|refine Qb ?_|refine Qa fun _=>?_|refine w_al fun _=>?_)
    refine sl_y (qt (m:=e) (n:=p0) (q:=Nat.mod e p0) rfl rfl rfl rfl rfl (by simp only [kmax]; omega) (by omega) rfl) rfl rfl rfl rfl ?_
    repeat (first|refine Qb ?_|refine Qa fun _=>?_|refine w_al fun _=>?_)
    refine Qh rfl (fun h5=>?_) (fun h5=>?_)
    ·have h5':e % p0=0:=by
      have h5:((e % p0:Nat):Int)=0:=h5
      omega
     obtain ⟨k,rfl⟩:∃ k',k=k'+1:=by
      cases k with
      | zero=>exact absurd hk2 (by omega)
      | succ k=>exact ⟨k,rfl⟩
     rw [QhF h5'] at hk1
     have hpe:p0≤e:=Nat.le_of_dvd (by omega) (Nat.dvd_of_mod_eq_zero h5')
     have hq1:1≤e / p0:=(Nat.one_le_div_iff (by omega)).2 hpe
     have hq2:e / p0≤e / 2:=Nat.div_le_div_left hp2 (by decide)
     obtain ⟨q,hq⟩:∃ q,e / p0=q:=⟨_,rfl⟩
     rw [hq] at hk1 hq1 hq2
     repeat (first|refine Qb ?_|refine Qa fun _=>?_|refine w_al fun _=>?_)
     refine sl_y (Vk (m:=e) (n:=p0) (q:=q) rfl rfl rfl rfl rfl (by simp only [kmax]; omega) (by omega) hq) rfl rfl rfl rfl ?_
     repeat (first|refine Qb ?_|refine Qa fun _=>?_|refine w_al fun _=>?_)
     exact Qj (E':=[(15,.int .i64 ((q:Nat):Int)),(49,.int .i64 (j:Int)),(48,.int .i64 (n:Int)),(47,.slice p4 n c4),(13,.int .i64 ((w:Int)+1)),(12,.pointer (some ⟨b12,0,none⟩)),(41,.int .i64 (i:Int)),(40,.int .i64 ((ps6 N).length:Int)),(39,.slice p3 (ps6 N).length c3),(8,.int .i64 x),(1,.pointer (some ⟨b1,0,none⟩))]) (m:=q) ⟨rfl,rfl,rfl,rfl,rfl,rfl,rfl,rfl,rfl,rfl,rfl,trivial⟩ (by omega) ⟨q,w+1,⟨k,by omega,by rw [Nat.pow_succ] at hk2; omega⟩,by omega,by omega,rfl,uc,rfl,rfl⟩
    ·have h5':e % p0≠0:=fun h6=>h5 (by
      show ((e % p0:Nat):Int)=0
      omega)
     rw [QiC h5',Nat.add_zero] at hk1
     repeat (first|refine Qb ?_|refine Qa fun _=>?_|refine w_al fun _=>?_)
     exact Qj (E':=[(49,.int .i64 ((j:Int)+1)),(48,.int .i64 (n:Int)),(47,.slice p4 n c4),(13,.int .i64 ((w:Nat):Int)),(12,.pointer (some ⟨b12,0,none⟩)),(41,.int .i64 (i:Int)),(40,.int .i64 ((ps6 N).length:Int)),(39,.slice p3 (ps6 N).length c3),(8,.int .i64 x),(1,.pointer (some ⟨b1,0,none⟩))]) (m:=n - (j+1)) ⟨rfl,rfl,rfl,rfl,rfl,rfl,rfl,rfl,rfl,rfl,trivial⟩ (by omega) ⟨j+1,w,by omega,by rw [hns,hk1],rfl,uc,rfl,rfl⟩
  obtain rfl:n=j:=by omega
  rw [g3,List.take_length] at hy
  have hos:=ju (l:=pw N f) (p:=p0) (r:=(ps6 N).take i)
  rw [show (ps6 N).take i++[p0]=(ps6 N).take (i+1) by rw [List.take_add_one,hp0]; rfl,← (show y=np p0 (pw N f) from hy)] at hos
  have hod2:=qR (l:=pw N f) (i:=i+1) h1 h2
  have hyl:y≤10*600:=by
   rw [hy]
   refine Nat.le_trans Qge (Nat.mul_le_mul_left _ ?_)
   rw [yu]; omega
  have hxb : -129600000000≤x∧x≤129600000000:=by
   have:=mulb hg1 (show -129600000000≤prd (odds (pw N f) ((ps6 N).take i))∧prd (odds (pw N f) ((ps6 N).take i))≤129600000000 by omega)
   rw [hx]; omega
  have hxb2:=mulb hxb (show -600≤(p0:Int)∧(p0:Int)≤600 by omega)
  repeat (first|refine Qb ?_|refine Qa fun _=>?_|refine w_al fun _=>?_)
  refine Qh rfl (fun h6=>?_) (fun h6=>?_)
  ·have h6':Nat.beq (y % 2) 0=false:=by
    rw [Bool.eq_false_iff]
    intro h7
    have h7:=Nat.eq_of_beq_eq_true h7
    refine h6 ?_
    show ((y % 2:Nat):Int)=0
    omega
   rw [h6',cond_false] at hos
   have hos:prd (odds (pw N f) ((ps6 N).take (i+1)))=prd (odds (pw N f) ((ps6 N).take i))*p0:=by rw [hos,QbE]
   repeat (first|refine Qb ?_|refine Qa fun _=>?_|refine w_al fun _=>?_)
   refine YR (M':=(b1,.var (.agg #[.int .i64 (N:Int),.slice p n c]),24)::M) (ULe.refl _) sbk ?_
   exact Qj (E':=[(41,.int .i64 ((i:Int)+1)),(40,.int .i64 ((ps6 N).length:Int)),(39,.slice p3 (ps6 N).length c3),(8,.int .i64 (x*(p0:Int))),(1,.pointer (some ⟨b1,0,none⟩))]) (m:=(ps6 N).length - (i+1)) ⟨rfl,rfl,rfl,rfl,rfl,trivial⟩ (by omega) ⟨i+1,x*(p0:Int),by omega,by rw [hos,hx,Int.mul_assoc],rfl,uc,rfl,rfl⟩
  ·have h6':Nat.beq (y % 2) 0=true:=by
    have h6:((y % 2:Nat):Int)=0:=Decidable.not_not.1 h6
    rw [show y % 2=0 by omega]; rfl
   rw [h6',cond_true,List.append_nil] at hos
   repeat (first|refine Qb ?_|refine Qa fun _=>?_|refine w_al fun _=>?_)
   refine YR (M':=(b1,.var (.agg #[.int .i64 (N:Int),.slice p n c]),24)::M) (ULe.refl _) sbk ?_
   exact Qj (E':=[(41,.int .i64 ((i:Int)+1)),(40,.int .i64 ((ps6 N).length:Int)),(39,.slice p3 (ps6 N).length c3),(8,.int .i64 x),(1,.pointer (some ⟨b1,0,none⟩))]) (m:=(ps6 N).length - (i+1)) ⟨rfl,rfl,rfl,rfl,rfl,trivial⟩ (by omega) ⟨i+1,x,by omega,by rw [hos,hx],rfl,uc,rfl,rfl⟩
 obtain rfl:(ps6 N).length=i:=by omega
 have hod:=qR (l:=pw N f) (i:=(ps6 N).length) h1 h2
 rw [List.take_length] at hx hod
 have hxb : -129600000000≤x∧x≤129600000000:=by
  have:=mulb hg1 (show -129600000000≤prd (odds (pw N f) (ps6 N))∧prd (odds (pw N f) (ps6 N))≤129600000000 by omega)
  rw [hx]; omega
 have hfin:edis N f=dsc x:=by rw [hx,hg0]; rfl
 rw [hfin]
 obtain ⟨-,m1,m2⟩:=tmodZ x 4 (by decide)
 have e5:=tm44 (x:=x)
 repeat (first|refine Qb ?_|refine Qa fun _=>?_|refine w_al fun _=>?_)
 refine Qh rfl (fun h7=>?_) (fun h7=>?_)
 ·have:dsc x=x*4:=by unfold dsc; rw [show decide (x % 4=1)=false from decide_eq_false fun h8=>h7 (e5.2 h8),cond_false]
  rw [this]
  repeat (first|refine Qb ?_|refine Qa fun _=>?_|refine w_al fun _=>?_)
  exact Qe [] sym rfl (.cons (.tmp rfl) (.cons (.tmp rfl) .nil)) uc sb (.inl rfl) ⟨rfl,rfl⟩
 ·have:dsc x=x:=by unfold dsc; rw [show decide (x % 4=1)=true from decide_eq_true (e5.1 (Decidable.not_not.1 h7)),cond_true]
  rw [this]
  repeat (first|refine Qb ?_|refine Qa fun _=>?_|refine w_al fun _=>?_)
  exact Qe [] sym rfl (.cons (.tmp rfl) (.cons (.tmp rfl) .nil)) uc sb (.inl rfl) ⟨rfl,rfl⟩
end Go.Proofs.YtnjpkncacddplaaGreat

/- Walks of dimension: Check. -/
namespace Go.Proofs.YtnjpkncacddplaaGreat
open Go.Hp Go.Et
variable {G:World} {U U':UH} {M:MH}
theorem QhS {P:Program} {N:Nat} {E:Env} {o:Oper} {ty yt:Nat} {x y:Operand} {k:IntKind} {a b:Int} (ho:o.op = .binOp .rem ty x y yt) (hx:ev E x=some (.int k a)) (hy:ev E y=some (.int k b))
  (h:b≠0):Yl P N G o E U M (.int k (a.tmod b)):=by
 refine Va ho hx hy (funext fun w=>?_)
 simp [binOp,Op.intDiv,h]
set_option maxHeartbeats 1000000 in
theorem vW {N k d:Int} (hN : -9223372036854775808≤N∧N≤9223372036854775807) (hk : -9223372036854775808≤k∧k≤9223372036854775807) (hd : -9223372036854775808≤d∧d≤9223372036854775807)
  (hF:1≤N→N≤120 → -120≤d→d≤120→2≤k→fundB d=true∧N % d=0∧(d < 0↔k % 2=1)) :
  Ct Tryz.prog 7 [.agg #[.int .i64 N,.int .i64 k,.int .i64 d]] G U M fun v U' D=>∃ x:Int,v = .int .i64 x∧x≠15∧x≠14∧x≠16∧U'=U:=by
 refine Qg Tryz.func7 rfl rfl rfl rfl ?_
 repeat (first|refine Qb ?_|refine Qa fun _=>?_|refine w_al fun _=>?_)
 rename_i b1
 refine Qt rfl rfl (fun h1=>?_) (fun h1=>?_)
 ·repeat (first|refine Qb ?_|refine Qa fun _=>?_|refine w_al fun _=>?_)
  exact Qe [] sym rfl (.cons (.tmp rfl) .nil) uc sb (.inl rfl) ⟨2,rfl,by decide,by decide,by decide,rfl⟩
 repeat (first|refine Qb ?_|refine Qa fun _=>?_|refine w_al fun _=>?_)
 refine Qt rfl rfl (fun h2=>?_) (fun h2=>?_)
 ·repeat (first|refine Qb ?_|refine Qa fun _=>?_|refine w_al fun _=>?_)
  exact Qe [] sym rfl (.cons (.tmp rfl) .nil) uc sb (.inl rfl) ⟨2,rfl,by decide,by decide,by decide,rfl⟩
 repeat (first|refine Qb ?_|refine Qa fun _=>?_|refine w_al fun _=>?_)
 refine Qt rfl rfl (fun h3=>?_) (fun h3=>?_)
 ·repeat (first|refine Qb ?_|refine Qa fun _=>?_|refine w_al fun _=>?_)
  exact Qe [] sym rfl (.cons (.tmp rfl) .nil) uc sb (.inl rfl) ⟨2,rfl,by decide,by decide,by decide,rfl⟩
 repeat (first|refine Qb ?_|refine Qa fun _=>?_|refine w_al fun _=>?_)
 refine Qt rfl rfl (fun h4=>?_) (fun h4=>?_)
 ·repeat (first|refine Qb ?_|refine Qa fun _=>?_|refine w_al fun _=>?_)
  exact Qe [] sym rfl (.cons (.tmp rfl) .nil) uc sb (.inl rfl) ⟨2,rfl,by decide,by decide,by decide,rfl⟩
 repeat (first|refine Qb ?_|refine Qa fun _=>?_|refine w_al fun _=>?_)
 refine Qt rfl rfl (fun h5=>?_) (fun h5=>?_)
 ·repeat (first|refine Qb ?_|refine Qa fun _=>?_|refine w_al fun _=>?_)
  exact Qe [] sym rfl (.cons (.tmp rfl) .nil) uc sb (.inl rfl) ⟨2,rfl,by decide,by decide,by decide,rfl⟩
 repeat (first|refine Qb ?_|refine Qa fun _=>?_|refine w_al fun _=>?_)
 refine Qh rfl (fun h6=>?_) (fun h6=>?_)
 ·repeat (first|refine Qb ?_|refine Qa fun _=>?_|refine w_al fun _=>?_)
  exact Qe [] sym rfl (.cons (.tmp rfl) .nil) uc sb (.inl rfl) ⟨2,rfl,by decide,by decide,by decide,rfl⟩
 obtain ⟨f1,f2,f3⟩:=hF (by omega) (by omega) (by omega) (by omega) (by omega)
 obtain ⟨Nn,rfl⟩:∃ Nn:Nat,N=(Nn:Int):=⟨N.toNat,by omega⟩
 have hd0:d≠0:=fun e=>by subst e; exact absurd f1 (by decide)
 repeat (first|refine Qb ?_|refine Qa fun _=>?_|refine w_al fun _=>?_)
 refine Qd rfl rfl rfl rfl rfl rfl (fun _=>QhW (by omega) (by omega) f1) ?_
 rintro v1 U1 D1 hU1 ⟨rfl,rfl⟩
 refine JY (List.sublist_append_right D1 _) ?_
 repeat (first|refine Qb ?_|refine Qa fun _=>?_|refine w_al fun _=>?_)
 refine Qt rfl rfl (fun h=>absurd rfl h) (fun _=>?_)
 repeat (first|refine Qb ?_|refine Qa fun _=>?_|refine w_al fun _=>?_)
 refine Qh rfl (fun h=>absurd rfl h) (fun _=>?_)
 repeat (first|refine Qb ?_|refine Qa fun _=>?_|refine w_al fun _=>?_)
 refine Qd rfl rfl rfl rfl rfl rfl (fun _=>QiE (n:=Nn) (by omega) (by omega)) ?_
 rintro v2 U2 D2 hU2 ⟨rfl,a,rfl,a1,a2⟩
 refine JY (List.sublist_append_right D2 _) ?_
 have hw:(Nn:Int).tmod d=0:=tm0.2 f2
 repeat (first|refine Qb ?_|refine Qa fun _=>?_|refine w_al fun _=>?_)
 refine sl_y (QhS (a:=(Nn:Int)) (b:=d) rfl rfl rfl hd0) rfl rfl rfl rfl ?_
 rw [hw]
 repeat (first|refine Qb ?_|refine Qa fun _=>?_|refine w_al fun _=>?_)
 refine Qh rfl (fun h=>absurd rfl h) (fun _=>?_)
 have hk2:k.tmod 2=k % 2:=Int.tmod_eq_emod_of_nonneg (by omega)
 have hm:=mulb (a:=a) (b:=k - 1) (c:=600) (d:=24) (by omega) (by omega)
 have he:dec (d < 0)=dec (k.tmod 2=1):=by rw [Jh,Jh]; exact decide_eq_decide.2 (by omega)
 repeat (first|refine Qb ?_|refine Qa fun _=>?_|refine w_al fun _=>?_)
 refine Qbe rfl (fun h=>by simp [he] at h) (fun _=>?_)
 repeat (first|refine Qb ?_|refine Qa fun _=>?_|refine w_al fun _=>?_)
 refine Qh rfl (fun h=>?_) (fun h=>?_)
 ·repeat (first|refine Qb ?_|refine Qa fun _=>?_|refine w_al fun _=>?_)
  exact Qe [] sym rfl (.cons (.tmp rfl) .nil) uc sb (.inl rfl) ⟨7,rfl,by decide,by decide,by decide,rfl⟩
 ·repeat (first|refine Qb ?_|refine Qa fun _=>?_|refine w_al fun _=>?_)
  exact Qe [] sym rfl (.cons (.tmp rfl) .nil) uc sb (.inl rfl) ⟨0,rfl,by decide,by decide,by decide,rfl⟩
end Go.Proofs.YtnjpkncacddplaaGreat

/- The discriminant of an even form divides its level; it is fundamental. -/
namespace Go.Proofs.YtnjpkncacddplaaGreat
open Go.Hp
open Go.Et (fundB sqfB)
theorem Inv.symm {n:Nat} {f:Nat→Int} {X:Nat→Nat→Rat} (hb:∀ k,k < n*n → -1000≤f k∧f k≤1000) (he:Evn n f) (hp:Pdm n f) (h1n:1≤n) (hn:n≤8) (h:Inv n f X) {i j:Nat} (hi:i < n) (hj:j < n):X i j=X j i:=by
 have hs:=(VT he hp).1
 have h2:Inv n f fun i j=>X j i:=Qdh hb he hp h1n hn fun i j hi hj=>by
  have h3:=h.right j i hj hi
  have h4:(La.idm j i:Rat)=La.idm i j:=by
   show (if j=i then (1:Rat) else 0)=if i=j then 1 else 0
   by_cases e:i=j
   ·rw [if_pos e,if_pos e.symm]
   ·rw [if_neg e,if_neg (Ne.symm e)]
  rw [← h4,← h3]
  show (La.sm n fun k=>X k i*gq n f k j)=La.sm n fun k=>gq n f j k*X k i
  exact La.sm_congr fun k hk=>by rw [hs k j hk hj,Rat.mul_comm]
 exact h.uniq h2 hi hj
theorem Qdt {x:Rat} {N:Nat} (h:x.den ∣ N):∃ z:Int,((N:Int):Rat)*x=(z:Rat):=by
 have h1:=(Fq.den_one (x:=x) (n:=(N:Int))).2 (Int.natCast_dvd_natCast.2 h)
 exact ⟨_,Rat.ext (Rat.num_intCast _).symm (h1.trans (Rat.den_intCast _).symm)⟩
theorem QjW {m:Nat} (h1:1≤m) (h4:m≤4):((sgd (2*m):Int):Rat)=Tw.sg m:=by
 rcases show m=1∨m=2∨m=3∨m=4 by omega with rfl | rfl | rfl | rfl
 ·show ((-1:Int):Rat) = -1; rfl
 ·show ((1:Int):Rat) = -(-1); rfl
 ·show ((-1:Int):Rat) = -(-(-1)); rfl
 ·show ((1:Int):Rat) = -(-(-(-1))); rfl
theorem QcK {n d:Nat} {f:Nat→Int} {X:Nat→Nat→Rat} (hb:∀ k,k < n*n → -1000≤f k∧f k≤1000) (he:Evn n f) (hp:Pdm n f) (h1n:1≤n) (hn:n≤8) (h2:n % 2=0)
  (hX:∀ i j,i < n→j < n→La.mm n X (fun i j=>((f (i*n+j):Int):Rat)) i j=La.idm i j) (h:Fq.Cnd (dtn n f) (sgd n) (sgd n) d):d ∣ Fq.lv (dlv n X) (n*n):=by
 have hI:Inv n f X:=Qdh hb he hp h1n hn hX
 obtain ⟨hs,-,hd⟩:=VT he hp
 have hd:=hd h1n
 obtain ⟨m,rfl⟩:∃ m,n=2*m:=⟨n / 2,by omega⟩
 have hlv:=(Fq.lv_dvd (d:=dlv (2*m) X) (n:=Fq.lv (dlv (2*m) X) (2*m*(2*m))) (2*m*(2*m))).1 (Nat.dvd_refl _)
 have hk:∀ i j,i < 2*m→j < 2*m→dlv (2*m) X (i*(2*m)+j)=(if i=j then X i j*((1:Rat) / 2) else X i j).den:=fun i j hi hj=>by
  obtain ⟨e1,e2⟩:(i*(2*m)+j) / (2*m)=i∧(i*(2*m)+j) % (2*m)=j:=by
   rw [Nat.mul_comm,Nat.mul_add_div (by omega),Nat.mul_add_mod,Nat.div_eq_of_lt hj,Nat.mod_eq_of_lt hj]
   exact ⟨rfl,rfl⟩
  unfold dlv
  rw [Qdm hj,e1,e2]
 have hXe:∀ i,i < 2*m→∃ z:Int,((Fq.lv (dlv (2*m) X) (2*m*(2*m)):Int):Rat)*X i i=2*(z:Rat):=fun i hi=>by
  have h3:=hlv _ (Vy hi hi)
  rw [hk i i hi hi,if_pos rfl] at h3
  obtain ⟨z,hz⟩:=Qdt h3
  refine ⟨z,?_⟩
  have h4:X i i*((1:Rat) / 2)*2=X i i:=by rw [Rat.mul_assoc,show (1:Rat) / 2*2=1 by decide +kernel,Rat.mul_one]
  rw [← hz,Rat.mul_comm (2:Rat),Rat.mul_assoc,h4]
 refine Tw.lev_disc (A:=gq (2*m) f) (X:=X) (D:=dtn (2*m) f) (s:=sgd (2*m)) rfl (QjW (by omega) (by omega)) (vt _) hs (fun i j hi hj=>hI.symm hb he hp h1n hn hi hj) (fun i j hi hj=>⟨_,rfl⟩) (fun i hi=>?_) hI.right (fun i j hi hj=>?_) hXe ?_ ?_ h
 ·have h3:=(he i hi).2
  obtain ⟨z,hz⟩:=Int.dvd_of_tmod_eq_zero h3
  refine ⟨z,?_⟩
  show ((f (i*(2*m)+i):Int):Rat)=_
  rw [hz,Rat.intCast_mul]; rfl
 ·by_cases e:i=j
  ·subst e
   obtain ⟨z,hz⟩:=hXe i hi
   exact ⟨2*z,by rw [hz,Rat.intCast_mul]; rfl⟩
  ·have h3:=hlv _ (Vy hi hj)
   rw [hk i j hi hj,if_neg e] at h3
   exact Qdt h3
 ·rw [QfB]
  unfold dtn
  rw [Int.natAbs_of_nonneg (by omega)]
 ·unfold dtn
  omega
theorem Qjl {a:Nat} (h:Fq.Sqf a):sqfB a=true:=by
 unfold sqfB
 refine List.all_eq_true.2 fun k hk=>?_
 have h1:=(List.mem_range'_1.1 hk).1
 cases e:Nat.beq (a % (k*k)) 0
 ·rfl
 ·have h2:=h.2 k (Nat.dvd_of_mod_eq_zero (Nat.eq_of_beq_eq_true e))
  omega
theorem QfO {D d:Nat} {s:Int} (hs:s=1∨s = -1) (h:Fq.Cnd D s s d):fundB (s*d)=true:=by
 have e1:(s*(d:Int)).natAbs=d:=by rcases hs with rfl | rfl<;>omega
 unfold fundB
 rcases h.1 with ⟨h1,h2⟩ | ⟨h1,h2,h3⟩
 ·rw [decide_eq_true h1,e1,Qjl h2]; rfl
 ·have e2:(s*(d:Int) / 4).natAbs=d / 4:=by rcases hs with rfl | rfl<;>omega
  rw [decide_eq_true h1,e2,Qjl h3,decide_eq_true (show (s*(d:Int) / 4) % 4=2∨(s*(d:Int) / 4) % 4=3 by omega),Bool.and_self,Bool.and_self,Bool.or_true]
end Go.Proofs.YtnjpkncacddplaaGreat

/- The law TopEtaSpace: the walk. -/
namespace Go.Proofs.YtnjpkncacddplaaGreat
open Go.Hp Go.Et
open Go.Rp (divs)
variable {G:World} {U U':UH} {M:MH}
theorem Qei {N:Nat} {f:Nat→Int} (hm:EMod N f) (h1:1≤N) (h2:N≤120) :
  (-120≤edis N f→edis N f≤120→fundB (edis N f)=true)∧(N:Int) % edis N f=0∧(edis N f < 0↔(S one (pw N f) / 2) % 2=1):=by
 obtain ⟨q3,q4,q5⟩:=QcH h1 (show N≤600 by omega)
 obtain ⟨q6,q7⟩:=q5 h2
 have hp:=qR (l:=pw N f) (i:=(ps6 N).length) h1 (show N≤600 by omega)
 rw [List.take_length] at hp
 obtain ⟨m1,m2,m3⟩:=hm
 obtain ⟨a,b,c⟩:=Qig h1 h2 (l:=pw N f) (fun p hp=>by
  rw [← q7]; exact Qax hp) m1 m2 m3 (fr:=(if S one (pw N f) % 4=0 then 1 else -1)*prd (odds (pw N f) (ps6 N))) (by rw [q6]) (by rw [← q6]; exact hp.1)
 have e:edis N f=dsc ((if S one (pw N f) % 4=0 then 1 else -1)*prd (odds (pw N f) (ps6 N))):=rfl
 rw [← e] at a b c
 refine ⟨fun h3 h4=>a (by omega),b,?_⟩
 rw [c]
 omega
theorem Qir {N:Nat} {f:Nat→Int} (h1:1≤N) (h2:N≤600) : -518400000000≤edis N f∧edis N f≤518400000000:=by
 have hp:=qR (l:=pw N f) (i:=(ps6 N).length) h1 h2
 rw [List.take_length] at hp
 have h3:=mulb (a:=if S one (pw N f) % 4=0 then (1:Int) else -1) (c:=1) (show _∧_ by split<;>omega) (show -129600000000≤prd (odds (pw N f) (ps6 N))∧prd (odds (pw N f) (ps6 N))≤129600000000 by omega)
 unfold edis dsc
 generalize (if S one (pw N f) % 4=0 then (1:Int) else -1)*prd (odds (pw N f) (ps6 N))=x at h3 ⊢
 cases decide (x % 4=1)
 ·rw [cond_false]; omega
 ·rw [cond_true]; omega
set_option maxHeartbeats 4000000 in
theorem vC {va vb:Value} {r R:Int} {n m:Nat} {f g:Nat→Int} (ha:RawG U va r n f) (hb:RawG U vb R m g) :
  Ct Tryz.prog 3 [va,vb] G U M fun v _ _=>v = .bool true:=by
 obtain ⟨hr,hn,_,rfl,p1,c1,vs1,rfl,hc1,rw1,el1⟩:=ha
 obtain ⟨hR,hm,_,rfl,p2,c2,vs2,rfl,hc2,rw2,el2⟩:=hb
 refine Qg Tryz.func3 rfl rfl rfl rfl ?_
 refine Ja ?_
 repeat (first|refine YU ?_|refine Qa fun _=>?_|refine w_al fun _=>?_)
 rename_i b2 b3
 refine Qs (fun E U' M'=>True∧E=[(3,.pointer (some ⟨b3,0,none⟩)),(2,.pointer (some ⟨b2,0,none⟩))]∧ULe U U'∧M'=(b3,.var (.agg #[.int .i64 R,.slice p2 m c2]),26)::(b2,.var (.agg #[.int .i64 r,.slice p1 n c1]),24)::M) ?_ ?_
 ·repeat (first|refine Qb ?_|refine Qa fun _=>?_|refine w_al fun _=>?_)
  refine Qd rfl rfl rfl rfl rfl rfl (fun _=>Qbr hn (rw1.up uc (List.nil_sublist _)) (el1.up KeptC.out uc)) ?_
  rintro v1 U1 D1 hU1 ⟨t,x,rfl,hx,rfl⟩
  rw [List.nil_append]
  repeat (first|refine Qb ?_|refine Qa fun _=>?_|refine w_al fun _=>?_)
  refine Qt rfl rfl (fun h1=>?_) (fun h1=>?_)
  ·obtain ⟨hE,hM⟩:=hx h1
   cases t
   ·repeat (first|refine Qb ?_|refine Qa fun _=>?_|refine w_al fun _=>?_)
    exact Qr (E':=[(3,.pointer (some ⟨b3,0,none⟩)),(2,.pointer (some ⟨b2,0,none⟩))]) ⟨rfl,rfl,trivial⟩ ⟨trivial,rfl,uc,rfl⟩
   obtain ⟨N,rfl⟩:∃ N:Nat,r=(N:Int):=⟨r.toNat,by have:=hE.1; omega⟩
   have hM:=hM rfl
   rw [Int.toNat_natCast] at hM
   obtain ⟨g1,g2,g3,g4⟩:=id hE
   rw [Int.toNat_natCast] at g3
   repeat (first|refine Qb ?_|refine Qa fun _=>?_|refine w_al fun _=>?_)
   refine Qd rfl rfl rfl rfl rfl rfl (fun _=>QcE hE hM (rw1.up uc (List.nil_sublist _)) (el1.up KeptC.out uc)) ?_
   rintro v2 U2 D2 hU2 ⟨rfl,rfl⟩
   rw [List.nil_append]
   repeat (first|refine Qb ?_|refine Qa fun _=>?_|refine w_al fun _=>?_)
   refine Qd rfl rfl rfl rfl rfl rfl (fun _=>Qfv hE hM (rw1.up uc (List.nil_sublist _)) (el1.up KeptC.out uc)) ?_
   rintro v3 U3 D3 hU3 ⟨rfl,rfl⟩
   rw [List.nil_append]
   repeat (first|refine Qb ?_|refine Qa fun _=>?_|refine w_al fun _=>?_)
   refine Qt rfl rfl (fun h=>absurd rfl h) (fun _=>?_)
   repeat (first|refine Qb ?_|refine Qa fun _=>?_|refine w_al fun _=>?_)
   refine Qh rfl (fun h=>absurd rfl h) (fun _=>?_)
   obtain ⟨s1,-,-⟩:=Qdk (f:=f) (show N≤600 by omega) g3 g4
   have hd:=Qir (N:=N) (f:=f) (by omega) (by omega)
   have hF:1≤(N:Int)→(N:Int)≤120 → -120≤edis N f→edis N f≤120→2≤S one (pw N f) / 2→fundB (edis N f)=true∧(N:Int) % edis N f=0∧(edis N f < 0↔(S one (pw N f) / 2) % 2=1):=fun k1 k2 k3 k4 _=>by
    obtain ⟨a,b,c⟩:=Qei (f:=f) (N:=N) hM (by omega) (by omega)
    exact ⟨a k3 k4,b,c⟩
   repeat (first|refine Qb ?_|refine Qa fun _=>?_|refine w_al fun _=>?_)
   refine Qd rfl rfl rfl rfl rfl rfl (fun _=>vW (N:=(N:Int)) (k:=S one (pw N f) / 2) (d:=edis N f) (by omega) (by omega) (by omega) hF) ?_
   rintro v4 U4 D4 hU4 ⟨y,rfl,y1,y2,y3,rfl⟩
   refine JY (List.sublist_append_right D4 _) ?_
   repeat (first|refine Qb ?_|refine Qa fun _=>?_|refine w_al fun _=>?_)
   refine Qt rfl rfl (fun h=>absurd h y1) (fun _=>?_)
   repeat (first|refine Qb ?_|refine Qa fun _=>?_|refine w_al fun _=>?_)
   refine Qt rfl rfl (fun h=>absurd h y2) (fun _=>?_)
   repeat (first|refine Qb ?_|refine Qa fun _=>?_|refine w_al fun _=>?_)
   refine Qh rfl (fun h=>absurd h y3) (fun _=>?_)
   repeat (first|refine Qb ?_|refine Qa fun _=>?_|refine w_al fun _=>?_)
   exact Qr (E':=[(3,.pointer (some ⟨b3,0,none⟩)),(2,.pointer (some ⟨b2,0,none⟩))]) ⟨rfl,rfl,trivial⟩ ⟨trivial,rfl,uc,rfl⟩
  ·repeat (first|refine Qb ?_|refine Qa fun _=>?_|refine w_al fun _=>?_)
   exact Qr (E':=[(3,.pointer (some ⟨b3,0,none⟩)),(2,.pointer (some ⟨b2,0,none⟩))]) ⟨rfl,rfl,trivial⟩ ⟨trivial,rfl,uc,rfl⟩
 rintro E U1 M' ⟨-,rfl,hU1,rfl⟩
 repeat (first|refine Qb ?_|refine Qa fun _=>?_|refine w_al fun _=>?_)
 refine Qd rfl rfl rfl rfl rfl rfl (fun _=>jx (rw2.up uc (List.nil_sublist _)) (el2.up KeptC.out uc) hm) ?_
 rintro v5 U5 D5 hU5 ⟨rfl,-,rfl⟩
 rw [List.nil_append]
 repeat (first|refine Qb ?_|refine Qa fun _=>?_|refine w_al fun _=>?_)
 refine Qt rfl rfl (fun h1=>?_) (fun h1=>?_)
 ·obtain ⟨q,rfl,hq1,hq8,rfl,hb,he,hp⟩:=vy h1
  repeat (first|refine Qb ?_|refine Qa fun _=>?_|refine w_al fun _=>?_)
  refine Qh rfl (fun h2=>?_) (fun h2=>?_)
  ·have h2':q % 2=0:=by
    have h2:((q % 2:Nat):Int)=0:=h2
    omega
   repeat (first|refine Qb ?_|refine Qa fun _=>?_|refine w_al fun _=>?_)
   refine Qd rfl rfl rfl rfl rfl rfl (fun _=>Qes (rw2.up uc (List.nil_sublist _)) (el2.up KeptC.out uc) hm) ?_
   rintro v6 U6 D6 hU6 ⟨-,hL,rfl⟩
   rw [List.nil_append]
   obtain ⟨X,hX,rfl⟩:=hL q rfl h1
   by_cases h600:Fq.lv (dlv q X) (q*q)≤600
   ·rw [if_pos h600]
    repeat (first|refine Qb ?_|refine Qa fun _=>?_|refine w_al fun _=>?_)
    refine Qd rfl rfl rfl rfl rfl rfl (fun _=>Qcq (rw2.up uc (List.nil_sublist _)) (el2.up KeptC.out uc) hm) ?_
    rintro v7 U7 D7 hU7 ⟨-,hD,rfl⟩
    rw [List.nil_append]
    rcases (hD q rfl h1).2 h2' with ⟨d,hd1,hd6,hd,rfl⟩ | ⟨-,rfl⟩
    ·have hc:=(hd d hd6).2 rfl
     have hdv:=QcK hb he hp hq1 hq8 h2' hX hc
     have hfu:=QfO (vt q) hc
     have hs1:=vt q
     obtain ⟨lv0,hlv0⟩:∃ lv0,lv0=Fq.lv (dlv q X) (q*q):=⟨_,rfl⟩
     rw [← hlv0] at hdv h600 ⊢
     have e2:((q:Int)).tdiv 2=((q / 2:Nat):Int):=rfl
     have hF:1≤(lv0:Int)→(lv0:Int)≤120 → -120≤sgd q*(d:Int)→sgd q*(d:Int)≤120→2≤((q / 2:Nat):Int)→fundB (sgd q*(d:Int))=true∧(lv0:Int) % (sgd q*(d:Int))=0∧(sgd q*(d:Int) < 0↔((q / 2:Nat):Int) % 2=1):=fun _ _ _ _ _=>by
      refine ⟨hfu,?_,?_⟩
      ·obtain ⟨k,rfl⟩:=hdv
       rw [Int.natCast_mul]
       rcases hs1 with e | e<;>rw [e]
       ·rw [Int.one_mul]; exact Int.mul_emod_right _ _
       ·rw [show -1*(d:Int) = -(d:Int) by omega,Int.emod_neg]; exact Int.mul_emod_right _ _
      ·unfold sgd at hs1 ⊢
       by_cases h4:q % 4=0
       ·rw [if_pos h4]; omega
       ·rw [if_neg h4]; omega
     have hsd : -600≤sgd q*(d:Int)∧sgd q*(d:Int)≤600:=by rcases hs1 with e | e<;>rw [e]<;>omega
     generalize sgd q*(d:Int)=sd at hF hsd ⊢
     repeat (first|refine Qb ?_|refine Qa fun _=>?_|refine w_al fun _=>?_)
     refine Qt rfl rfl (fun h=>absurd rfl h) (fun _=>?_)
     repeat (first|refine Qb ?_|refine Qa fun _=>?_|refine w_al fun _=>?_)
     refine Qh rfl (fun h=>absurd rfl h) (fun _=>?_)
     repeat (first|refine Qb ?_|refine Qa fun _=>?_|refine w_al fun _=>?_)
     rw [e2,IntWalk.i64_in _ (by omega)]
     repeat (first|refine Qb ?_|refine Qa fun _=>?_|refine w_al fun _=>?_)
     refine Qd rfl rfl rfl rfl rfl rfl (fun _=>vW (N:=(lv0:Int)) (k:=((q / 2:Nat):Int)) (d:=sd) (by omega) (by omega) (by omega) hF) ?_
     rintro v8 U8 D8 hU8 ⟨y,rfl,y1,y2,y3,rfl⟩
     refine JY (List.sublist_append_right D8 _) ?_
     repeat (first|refine Qb ?_|refine Qa fun _=>?_|refine w_al fun _=>?_)
     refine Qt rfl rfl (fun h=>absurd h y1) (fun _=>?_)
     repeat (first|refine Qb ?_|refine Qa fun _=>?_|refine w_al fun _=>?_)
     refine Qt rfl rfl (fun h=>absurd h y2) (fun _=>?_)
     repeat (first|refine Qb ?_|refine Qa fun _=>?_|refine w_al fun _=>?_)
     refine Qh rfl (fun h=>absurd h y3) (fun _=>?_)
     repeat (first|refine Qb ?_|refine Qa fun _=>?_|refine w_al fun _=>?_)
     refine Qd rfl rfl rfl rfl rfl rfl (fun _=>yH) ?_
     rintro v9 U9 D9 hU9 ⟨rfl,rfl⟩
     refine JY (List.sublist_append_right D9 _) ?_
     repeat (first|refine Qb ?_|refine Qa fun _=>?_|refine w_al fun _=>?_)
     exact Qe [] sym rfl (.cons (.tmp rfl) .nil) uc sb (.inl rfl) rfl
    ·repeat (first|refine Qb ?_|refine Qa fun _=>?_|refine w_al fun _=>?_)
     refine Qt rfl rfl (fun h=>absurd rfl h) (fun _=>?_)
     repeat (first|refine Qb ?_|refine Qa fun _=>?_|refine w_al fun _=>?_)
     refine Qh rfl (fun _=>?_) (fun h=>absurd (by decide) h)
     repeat (first|refine Qb ?_|refine Qa fun _=>?_|refine w_al fun _=>?_)
     refine Qt rfl rfl (fun h=>absurd h (by decide)) (fun _=>?_)
     repeat (first|refine Qb ?_|refine Qa fun _=>?_|refine w_al fun _=>?_)
     refine Qt rfl rfl (fun _=>?_) (fun h=>absurd rfl h)
     repeat (first|refine Qb ?_|refine Qa fun _=>?_|refine w_al fun _=>?_)
     refine Qd rfl rfl rfl rfl rfl rfl (fun _=>yH) ?_
     rintro v9 U9 D9 hU9 ⟨rfl,rfl⟩
     refine JY (List.sublist_append_right D9 _) ?_
     repeat (first|refine Qb ?_|refine Qa fun _=>?_|refine w_al fun _=>?_)
     exact Qe [] sym rfl (.cons (.tmp rfl) .nil) uc sb (.inl rfl) rfl
   ·rw [if_neg h600]
    repeat (first|refine Qb ?_|refine Qa fun _=>?_|refine w_al fun _=>?_)
    refine Qd rfl rfl rfl rfl rfl rfl (fun _=>Qcq (rw2.up uc (List.nil_sublist _)) (el2.up KeptC.out uc) hm) ?_
    rintro v7 U7 D7 hU7 ⟨-,hD,rfl⟩
    rw [List.nil_append]
    obtain ⟨a,b,rfl⟩:∃ a b:Int,v7 = .tuple #[.int .i64 a,.int .i64 b]:=by
     rcases (hD q rfl h1).2 h2' with ⟨d,-,-,-,rfl⟩ | ⟨-,rfl⟩<;>exact ⟨_,_,rfl⟩
    repeat (first|refine Qb ?_|refine Qa fun _=>?_|refine w_al fun _=>?_)
    refine Qt rfl rfl (fun _=>?_) (fun h=>absurd (by decide) h)
    repeat (first|refine Qb ?_|refine Qa fun _=>?_|refine w_al fun _=>?_)
    refine Qt rfl rfl (fun _=>?_) (fun h=>absurd rfl h)
    repeat (first|refine Qb ?_|refine Qa fun _=>?_|refine w_al fun _=>?_)
    refine Qd rfl rfl rfl rfl rfl rfl (fun _=>yH) ?_
    rintro v9 U9 D9 hU9 ⟨rfl,rfl⟩
    refine JY (List.sublist_append_right D9 _) ?_
    repeat (first|refine Qb ?_|refine Qa fun _=>?_|refine w_al fun _=>?_)
    exact Qe [] sym rfl (.cons (.tmp rfl) .nil) uc sb (.inl rfl) rfl
  ·repeat (first|refine Qb ?_|refine Qa fun _=>?_|refine w_al fun _=>?_)
   refine Qd rfl rfl rfl rfl rfl rfl (fun _=>yH) ?_
   rintro v9 U9 D9 hU9 ⟨rfl,rfl⟩
   refine JY (List.sublist_append_right D9 _) ?_
   repeat (first|refine Qb ?_|refine Qa fun _=>?_|refine w_al fun _=>?_)
   exact Qe [] sym rfl (.cons (.tmp rfl) .nil) uc sb (.inl rfl) rfl
 ·repeat (first|refine Qb ?_|refine Qa fun _=>?_|refine w_al fun _=>?_)
  refine Qd rfl rfl rfl rfl rfl rfl (fun _=>yH) ?_
  rintro v9 U9 D9 hU9 ⟨rfl,rfl⟩
  refine JY (List.sublist_append_right D9 _) ?_
  repeat (first|refine Qb ?_|refine Qa fun _=>?_|refine w_al fun _=>?_)
  exact Qe [] sym rfl (.cons (.tmp rfl) .nil) uc sb (.inl rfl) rfl
end Go.Proofs.YtnjpkncacddplaaGreat
