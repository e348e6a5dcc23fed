/- The field of a struct value. -/
import Derived.Test.YthnnlgjlhnmhnaaGreatM19
namespace Go.Proofs.YthnnlgjlhnmhnaaGreat
open Go.Hp
def fldV (T:TT) (s f:Nat) (v:Value):Option Value :=
 match v,lkT T s with
 | .agg c,some ⟨.struct fs,_,_,_⟩=>match fs[f]? with
  | some (ft,off)=>match lkT T ft with
   | some ⟨.struct _,n,_,_⟩=>some (.agg ((c.toList.drop off).take n).toArray)
   | some ⟨.other,_,_,_⟩=>none
   | some _=>nth c.toList off
   | none=>none
  | none=>none
 | _,_=>none
theorem Qgq {s f:Nat} {v r:Value} {T:TT} {P:Program} (hS:Sym P T) (h:fldV T s f v=some r) (w:World):(Instr.field s v f).run P w = .ok r w:=by
 unfold fldV at h
 split at h
 ·rename_i c fs _ _ _ hT
  obtain ⟨d,hd,hk⟩:=(hS.at hT).und
  obtain ⟨g,rfl,hg⟩:=Yv hk
  split at h
  ·rename_i ft off hf
   rw [← hg] at hf
   simp only [List.getElem?_map,Array.getElem?_toList,Option.map_eq_some_iff] at hf
   obtain ⟨fd,hfd,hfe⟩:=hf
   simp only [Prod.mk.injEq] at hfe
   obtain ⟨rfl,rfl⟩:=hfe
   split at h
   ·rename_i fs2 n _ _ hft
    simp only [Option.some.injEq] at h
    subst h
    have h1:=Vu (P:=P) (hS.at hft) rfl w
    have h2:=(hS.at hft).run_size w
    have h3:c.extract fd.offset (fd.offset+n)=((c.toList.drop fd.offset).take n).toArray:=by
     apply Array.toList_inj.1
     simp [Array.toList_extract,List.extract_eq_take_drop]
    simp [Instr.field,Qm hd,hfd,part,h1,h2,asAgg,h3]
   ·cases h
   ·rename_i ti hn1 hn2 hft
    have h1:=Vt (P:=P) (hS.at hft) (by
     obtain ⟨k,sz,bt,z⟩:=ti
     cases k<;>first | rfl | (exact absurd rfl (hn1 _ _ _ _)) | (exact absurd rfl (hn2 _ _ _))) w
    rw [QT] at h
    simp only [Array.getElem?_toList] at h
    simp [Instr.field,Qm hd,hfd,part,h1,asAgg,h]
   ·cases h
  ·cases h
 ·cases h
theorem Qfh {G:World} {U:UH} {M:MH} {K:Kont} {N:Nat} {L:List Oper} {l:List Ent} {E:Env} {f:Bool} {i:Nat} {o:Oper} {d s j:Nat} {x:Operand} {v r:Value} (h:SL Tryz.prog tys L K N G l ((d,r)::E) U M) (ho:o.op = .field s x j:=by exact rfl) (hx:ev E x=some v:=by exact rfl) (hv:fldV tys s j v=some r:=by exact rfl)
  (hk:yB f tys o=true:=by exact rfl) (hd:o.dst=some d:=by exact rfl) (hN:Nat.blt d N=true:=by exact rfl) (hg:gok L E o.guard=some true:=by exact rfl):SL Tryz.prog tys L K N G ((f,i,o)::l) E U M :=
 sl_y ⟨fun a w ha _=>by simp [execOp,ho,ha.eval hx,Qgq sym hv w]⟩ hk hd hN hg h
end Go.Proofs.YthnnlgjlhnmhnaaGreat
