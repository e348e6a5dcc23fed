/- Texts of this seat's own, merged: each begins with its own remark. -/
import Derived.Test.YtnjpkncacddplaaGreatDoorM112
import Derived.Test.YtnjpkncacddplaaGreatDoorM106
import Derived.Test.YtnjpkncacddplaaGreatDoorM107
import Derived.Test.YtnjpkncacddplaaGreatDoorM108
import Derived.Test.YtnjpkncacddplaaGreatDoorM53
import Derived.Test.YtnjpkncacddplaaGreatDoorM41
/- The law of representations, plain. -/
namespace Go.Rp
theorem vX {D:Nat} (h:D ∈ fds):chkd D=true:=by
 unfold fds at h
 rcases List.mem_append.1 h with h | h
 ·exact List.all_eq_true.1 QdZ D h
 ·rcases List.mem_append.1 h with h | h
  ·exact List.all_eq_true.1 QdK D h
  ·exact List.all_eq_true.1 QeG D h
theorem QfW {D n:Nat} (h:D ∈ fds) (h1:1≤n) (h2:n≤400):rps D n (cls D)=wN D*((divs 400 n).map (kr D)).sum:=Qbw (vX h) h1 h2
theorem Qfi {D:Nat} {f:Int × Int × Int} (h:D ∈ fds) (hf:f ∈ cls D):okF D f=true:=by
 have h1:=vX h
 unfold chkd at h1
 simp only [Bool.and_eq_true] at h1
 exact List.all_eq_true.1 h1.1 f hf
end Go.Rp

/- What the runs for the law TopRepresentations say. No condition. -/
namespace Go.Proofs.YtnjpkncacddplaaGreatDoor
open Go.Hp Go.Gx Go.Rp
variable {G:World} {U U':UH} {M:MH}
theorem YK {p:Nat→Bool} {a k n:Nat} (h:(List.range' a k).all p=true) (h1:a≤n) (h2:n < a+k):p n=true:=List.all_eq_true.1 h n (List.mem_range'_1.2 ⟨h1,h2⟩)
theorem vV (hQ:TabOK Tryz.prog tys tb U) {D:Nat} (h1:1≤D) (h2:D≤400) :
  Ct Tryz.prog 14 [.int .i64 (-(D:Int))] G U M fun v U' _=>U'=U∧∃ a b d:Int,v = .tuple #[.int .i64 a,.int .i64 b,.int .i64 d]∧(a = -(D:Int)→b=1→d=0→D ∈ fds):=by
 have h:=YK QdI h1 (by omega)
 unfold fundR at h
 by_cases hm:fds.any (Nat.beq D)=true
 ·rw [hm,cond_true] at h
  obtain ⟨x,hx,he⟩:=List.any_eq_true.1 hm
  have hD:D ∈ fds:=by rw [Nat.eq_of_beq_eq_true he]; exact hx
  refine (Qeq hQ fnOK2 Jg h rfl).mono ?_
  rintro v U' _ _ ⟨rfl,rfl⟩
  exact ⟨rfl,_,_,_,rfl,fun _ _ _=>hD⟩
 ·rw [Bool.not_eq_true] at hm
  rw [hm,cond_false] at h
  refine (QcT hQ fnOK2 Jg h rfl).mono ?_
  rintro v U' _ _ ⟨rfl,a,b,d,rfl,hn⟩
  exact ⟨rfl,a,b,d,rfl,fun e1 e2 e3=>absurd ⟨e1,e2,e3⟩ hn⟩
theorem yD (hQ:TabOK Tryz.prog tys tb U) {a:Nat} (h1:1≤a) (h2:a≤400) :
  Ct Tryz.prog 67 [.int .u64 (a:Int)] G U M fun v U' _=>U'=U∧v = .int .i64 ((tz 9 a:Nat):Int):=by
 have h:=YK QfY h1 (by omega)
 exact yW hQ fnOK2 Jg h rfl
theorem flat1:∀ (l:List Nat),((l.map fun m:Nat=>Value.int .i64 (m:Int)).flatMap fun v=>v.cells.toList)=(l.map fun m:Nat=>(m:Int)).map (Value.int .i64)
 | []=>rfl
 | a::r=>by
  show (Value.int .i64 (a:Int)).cells.toList++_=Value.int .i64 (a:Int)::_
  rw [show (Value.int .i64 (a:Int)).cells.toList=[Value.int .i64 (a:Int)] from rfl,List.singleton_append]
  exact congrArg _ (flat1 r)
theorem Qbu (hQ:TabOK Tryz.prog tys tb U) {n:Nat} (h1:1≤n) (h2:n≤400) :
  Ct Tryz.prog 18 [.int .i64 (n:Int)] G U M fun v U' D=>∃ p c,v = .tuple #[.slice p (divs 400 n).length c,.int .i64 0]∧(divs 400 n).length≤c∧RowAt U' [] 1 p (divs 400 n).length ((divs 400 n).map fun m:Nat=>Value.int .i64 (m:Int))∧D=[]:=by
 have h:divR n=true:=by
  rcases show n≤100∨100 < n∧n≤200∨200 < n∧n≤300∨300 < n by omega with h | h | h | h
  ·exact YK QcX h1 (by omega)
  ·exact YK Qcf (by omega) (by omega)
  ·exact YK Qcj (by omega) (by omega)
  ·exact YK Qcl (by omega) (by omega)
 unfold divR at h
 exact yI hQ fnOK2 Jg h rfl (by decide) (by rw [List.length_map]) (fun v hv=>by
  obtain ⟨m,-,rfl⟩:=List.mem_map.1 hv
  rfl) (flat1 _) (by rw [List.length_map,Nat.mul_one])
def vF (f:Int × Int × Int):Value := .agg #[.int .i64 f.1,.int .i64 f.2.1,.int .i64 f.2.2]
theorem vx:∀ (l:List (Int × Int × Int)),((l.map vF).flatMap fun v=>v.cells.toList)=(flat3 l).map (Value.int .i64)
 | []=>rfl
 | f::r=>by
  show (vF f).cells.toList++_=Value.int .i64 f.1::Value.int .i64 f.2.1::Value.int .i64 f.2.2::_
  rw [show (vF f).cells.toList=[Value.int .i64 f.1,.int .i64 f.2.1,.int .i64 f.2.2] from rfl]
  show Value.int .i64 f.1::Value.int .i64 f.2.1::Value.int .i64 f.2.2::_=_
  have h:=vx r
  exact congrArg (fun t=>Value.int .i64 f.1::Value.int .i64 f.2.1::Value.int .i64 f.2.2::t) h
theorem jD:∀ (l:List (Int × Int × Int)),(flat3 l).length=l.length*3
 | []=>rfl
 | f::r=>by
  show (flat3 r).length+1+1+1=(r.length+1)*3
  rw [jD r]; omega
theorem QbA (hQ:TabOK Tryz.prog tys tb U) {D:Nat} (hD:D ∈ fds) :
  Ct Tryz.prog 15 [.int .i64 (-(D:Int))] G U M fun v U' J=>∃ p c,v = .tuple #[.slice p (cls D).length c,.int .i64 0]∧(cls D).length≤c∧RowAt U' [] 3 p (cls D).length ((cls D).map vF)∧J=[]:=by
 have h:clsR D=true:=by
  unfold fds at hD
  rcases List.mem_append.1 hD with h | h
  ·exact List.all_eq_true.1 QcG D h
  ·rcases List.mem_append.1 h with h | h
   ·exact List.all_eq_true.1 QcI D h
   ·exact List.all_eq_true.1 Qdb D h
 unfold clsR at h
 exact yI hQ fnOK2 Jg h rfl (by decide) (by rw [List.length_map]) (fun v hv=>by
  obtain ⟨m,-,rfl⟩:=List.mem_map.1 hv
  rfl) (vx _) (jD _)
theorem Qbs (hQ:TabOK Tryz.prog tys tb U) {D:Nat} (hD:D ∈ fds):∃ f r,cls D=f::r∧∀ {M:MH},
  Ct Tryz.prog 62 [vF f] G U M fun v U' _=>U'=U∧v = .int .i64 1:=by
 have h:=List.all_eq_true.1 Qef D hD
 unfold conR at h
 split at h
 ·rename_i f r hc
  exact ⟨f,r,hc,yW hQ fnOK2 Jg h rfl⟩
 ·cases h
end Go.Proofs.YtnjpkncacddplaaGreatDoor
