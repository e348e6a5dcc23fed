/- Writing over what is settled. Program in general; no condition. -/
import Derived.Test.YtahcddpdgpjbnaaM19
import Derived.Test.YtahcddpdgpjbnaaM18
namespace Go.Hp
variable {P:Program} {T:TT} {K:Kont} {N:Nat} {G G':World} {E:Env} {U U' U0:UH} {M M':MH} {L:List Oper} {l:List Ent} {f:Bool} {i:Nat} {o:Oper}
theorem vq {c:Code} (h:∀ w,Mem G U M w→Mem G' U' M' w) (h2:St P K N G' c E U' M'):St P K N G c E U M:=⟨fun a w ha hw=>h2.run a w ha (h w hw)⟩
theorem QaZ {c:Code} {Q:Prop} (h:∀ w,Mem G U M w→Q) (h2:Q→St P K N G c E U M):St P K N G c E U M:=⟨fun a w ha hw=>(h2 (h w hw)).run a w ha hw⟩
theorem QaL {w0:World} (hw0:Mem G U M w0) {a:Addr} {v:Value} (h:∀ (G:World) (w:World),Mem G U [] w→w.cell? a=some v):U.cell? a=some v:=by
 obtain ⟨G1,hG1⟩:∃ G1:World,G1={ G with heap := #[] }:=⟨_,rfl⟩
 have hg:G1.heap = #[]:=by rw [hG1]
 have hm:∀ w:World,w.os=w0.os→w.tape=w0.tape→w.output=w0.output→(∀ k o,U k=some o→w.heap[k]?=some o)→Mem G1 U [] w:=fun w h1 h2 h3 h4 =>
  ⟨by rw [h1,hw0.os,hG1],by rw [h2,hw0.tape,hG1],by rw [h3,hw0.output,hG1],fun k o hk=>by rw [hg] at hk; simp at hk,fun k o hk=>⟨by rw [hg]; simp,fun hd=>(hw0.new k o hk).2 (by rw [hG1] at hd; exact hd)⟩,fun _ he=>(by cases he),h4,fun _ he=>(by cases he),List.Pairwise.nil⟩
 have h0:=h G1 w0 (hm w0 rfl rfl rfl hw0.old)
 cases hu:U a.block with
 | none =>
  exfalso
  have hlt:a.block < w0.heap.size:=by
   rcases Nat.lt_or_ge a.block w0.heap.size with hlt | hge
   ·exact hlt
   ·unfold World.cell? at h0
    rw [Array.getElem?_eq_none hge] at h0
    cases h0
  have h1:=h G1 { w0 with heap:=w0.heap.set a.block (.pending #[] 0) hlt } (hm _ rfl rfl rfl fun k o hk=>by
   have hne:a.block≠k:=fun e=>by rw [e,hk] at hu; cases hu
   show (w0.heap.set a.block (.pending #[] 0) hlt)[k]?=some o
   rw [Array.getElem?_set_ne hlt hne]
   exact hw0.old k o hk)
  unfold World.cell? at h1
  simp at h1
 | some o =>
  have h2:=hw0.old _ _ hu
  unfold World.cell? at h0
  unfold UH.cell?
  rw [h2] at h0
  rw [hu]
  exact h0
def isD (U:UH) (a:Addr):Prop:=∃ z:Int,U.cell? a=some (.int .u32 z)
def isB (U:UH) (a:Addr):Prop:=∃ x:Bool,U.cell? a=some (.bool x)
def GS (U:UH) (v:Value):Prop:=∃ p n c,v = .slice p n c∧n≤9223372036854775807∧∀ i,i < n→p.isSome=true∧isD U (elt p i)
def isS (U:UH) (a:Addr):Prop:=∃ v,U.cell? a=some v∧GS U v
structure Elm (U:UH) (a:Addr):Prop where
 b0:isB U (a.add 0)
 s1:isS U (a.add 1)
 b2:isB U (a.add 2)
 s3:isS U (a.add 3)
def Reg (U:UH) (ps:List (Option Addr × Nat)):Prop:=∀ p n,(p,n) ∈ ps→∀ j,j < n→p.isSome=true∧Elm U (elt p (j*4))
def Free (U:UH):Prop:=∀ k o,U k=some o→Thaw o
structure KP (U U':UH):Prop where
 d:∀ a,isD U a→isD U' a
 b:∀ a,isB U a→isB U' a
theorem GS.kp {v:Value} (h:GS U v) (k:KP U U'):GS U' v:=by
 obtain ⟨p,n,c,h1,h2,h3⟩:=h
 exact ⟨p,n,c,h1,h2,fun i hi=>⟨(h3 i hi).1,k.d _ (h3 i hi).2⟩⟩
theorem Reg.kp {ps:List (Option Addr × Nat)} (h:Reg U ps) (k:KP U U') (ks:∀ a,isS U a→isS U' a):Reg U' ps:=fun p n hp j hj =>
 ⟨(h p n hp j hj).1,k.b _ (h p n hp j hj).2.b0,ks _ (h p n hp j hj).2.s1,k.b _ (h p n hp j hj).2.b2,ks _ (h p n hp j hj).2.s3⟩
theorem KP.ule (h:ULe U U'):KP U U':=⟨fun _ ⟨z,hz⟩=>⟨z,h.cell hz⟩,fun _ ⟨x,hx⟩=>⟨x,h.cell hx⟩⟩
theorem Reg.ule {ps:List (Option Addr × Nat)} (h:Reg U ps) (hU:ULe U U'):Reg U' ps:=h.kp (.ule hU) fun _ ⟨v,h1,h2⟩=>⟨v,hU.cell h1,h2.kp (.ule hU)⟩
def spl (c:Array Value) (off:Nat) (vs:List Value):Array Value:=(c.toList.take off++vs++c.toList.drop (off+vs.length)).toArray
theorem QdH {c:Array Value} {off:Nat} {vs:List Value} (h:off+vs.length≤c.size) (k:Nat):(spl c off vs)[k]?=if off≤k∧k < off+vs.length then vs[k - off]? else c[k]?:=by
 have hl:c.toList.length=c.size:=rfl
 have ht:(c.toList.take off).length=off:=by rw [List.length_take]; omega
 unfold spl
 rw [List.getElem?_toArray,List.append_assoc]
 by_cases h1:k < off
 ·rw [if_neg (by omega),List.getElem?_append_left (by omega),List.getElem?_take,if_pos h1,Array.getElem?_toList]
 ·rw [List.getElem?_append_right (by omega),ht]
  by_cases h2:k < off+vs.length
  ·rw [if_pos ⟨by omega,h2⟩,List.getElem?_append_left (by omega)]
  ·rw [if_neg (by omega),List.getElem?_append_right (by omega),List.getElem?_drop,Array.getElem?_toList]
   congr 1; omega
theorem QdJ {w:World} (h:Mem G U M w) {b tb off:Nat} {c:Array Value} {vs:List Value} (hU:U b=some (.cells c tb (0,0))) :
  Mem G (U.upd b (.cells (spl c off vs) tb (0,0))) M (w.setRow b (spl c off vs)):=by
 have hb:=h.old _ _ hU
 have hGb:=(h.new _ _ hU).1
 refine ⟨h.os,h.tape,h.output,fun j o hj=>?_,fun j o hj=>?_,h.ownG,fun j o hj=>?_,fun e he=>?_,h.nd⟩
 ·have hne:j≠b:=fun e=>by subst e; rw [hGb] at hj; cases hj
  rw [setRow_other w b j _ hne]; exact h.fr j o hj
 ·unfold UH.upd at hj
  by_cases ej:j=b
  ·subst ej
   rw [if_pos rfl,Option.some.injEq] at hj
   refine ⟨hGb,fun _ c t fl e => .inl ?_⟩
   rw [← hj] at e
   cases e; rfl
  ·rw [if_neg ej] at hj; exact h.new j o hj
 ·unfold UH.upd at hj
  by_cases ej:j=b
  ·subst ej
   rw [if_pos rfl] at hj
   rw [← hj]
   exact setRow_heap w j _ _ _ _ hb
  ·rw [if_neg ej] at hj
   rw [setRow_other w b j _ ej]; exact h.old j o hj
 ·obtain ⟨h1,h2⟩:=h.own e he
  have hne:e.1≠b:=fun e1=>by rw [e1,hU] at h2; cases h2
  refine ⟨by rw [setRow_other w b e.1 _ hne]; exact h1,?_⟩
  unfold UH.upd
  rw [if_neg hne]; exact h2
theorem jQ {t b off tb:Nat} {x y:Operand} {v:Value} {c:Array Value} {ti:TI} (hS:Sym P T) (ho:o.op = .store t x y) (hx:ev E x=some (.pointer (some ⟨b,off,none⟩))) (hy:ev E y=some v)
  (hU:U b=some (.cells c tb (0,0))) (hT:lkT T t=some ti) (hv:v.cells.toList.length=ti.size) (hfit:off+ti.size≤c.size) (h1:v.cells.toList.all Value.oneCell'=true)
  (hg:gok L E o.guard=some true) (hk:xB f T o=true) (hd:o.dst=none) (h:SL P T L K N G l E (U.upd b (.cells (spl c off v.cells.toList) tb (0,0))) M):SL P T L K N G ((f,i,o)::l) E U M:=by
 refine jc hg hk hd (fun a w ha hw=>?_) h
 have hb:=hw.old _ _ hU
 have hrun:=Jz (off:=off) (hS.at hT) hb hv h1 hfit
 refine ⟨_,?_,QdJ hw hU⟩
 simp only [execOp,ho,ha.eval hx,ha.eval hy,Instr.storeAt,Instr.sureAddr,pure_bind,Sem.run_bind,hrun,Result.andThen_ok,Sem.run_pure,spl,hv]
theorem vL {b tb off:Nat} {c:Array Value} {vs:List Value} {fl:Nat × Nat} (hU:U b=some (.cells c tb fl)) (hfit:off+vs.length≤c.size) (a:Addr) :
  (U.upd b (.cells (spl c off vs) tb fl)).cell? a=if a.block=b∧a.spot=none∧off≤a.off∧a.off < off+vs.length then vs[a.off - off]? else U.cell? a:=by
 unfold UH.cell? UH.upd
 by_cases e:a.block=b
 ·rw [if_pos e,e,hU]
  simp only
  cases hs:a.spot with
  | some x=>simp
  | none =>
   simp only [Option.isSome_none,Bool.false_eq_true,if_false]
   rw [QdH hfit]
   by_cases h:off≤a.off∧a.off < off+vs.length
   ·rw [if_pos h,if_pos (by refine ⟨?_,?_,h⟩<;>trivial)]
   ·rw [if_neg h,if_neg fun h2=>h h2.2.2]
 ·rw [if_neg e,if_neg fun h2=>e h2.1]
theorem Qck {a:Addr} {v:Value} (h:U.cell? a=some v):a.spot=none∧∃ c tb fl,U a.block=some (.cells c tb fl)∧c[a.off]?=some v:=by
 unfold UH.cell? at h
 split at h
 ·rename_i c tb fl hU
  cases hs:a.spot with
  | some x=>rw [hs] at h; simp at h
  | none =>
   rw [hs] at h
   simp only [Option.isSome_none,Bool.false_eq_true,if_false] at h
   exact ⟨rfl,c,tb,fl,hU,h⟩
 ·cases h
theorem Free.at (hF:Free U) {a:Addr} {v:Value} (h:U.cell? a=some v) (hv:∀ n,v ≠ .int .u8 n):∃ c tb,U a.block=some (.cells c tb (0,0))∧a=⟨a.block,a.off,none⟩∧c[a.off]?=some v:=by
 obtain ⟨h1,c,tb,fl,h2,h3⟩:=Qck h
 have e:fl=(0,0):=by
  rcases hF _ _ h2 c tb fl rfl with h4 | h4
  ·exact h4
  ·obtain ⟨n,hn⟩:=h4 v (by
    obtain ⟨hl,he⟩:=Array.getElem?_eq_some_iff.1 h3
    rw [← he]; exact Array.getElem_mem_toList hl)
   exact absurd hn (hv n)
 subst e
 exact ⟨c,tb,h2,by obtain ⟨x,y,z⟩:=a; simp at h1; subst h1; rfl,h3⟩
theorem Free.put (hF:Free U) {b tb:Nat} {c:Array Value}:Free (U.upd b (.cells c tb (0,0))):=fun k o hk=>by
 unfold UH.upd at hk
 by_cases e:k=b
 ·rw [if_pos e,Option.some.injEq] at hk
  rw [← hk]
  intro c' t fl e
  cases e; exact .inl rfl
 ·rw [if_neg e] at hk; exact hF k o hk
theorem Free.ule (hF:Free U) (h:∀ k o,U' k=some o→U k=some o∨Thaw o):Free U':=fun k o hk=>(h k o hk).elim (hF k o) id
theorem QbF (hF:Free U) {a:Addr} (ha:isD U a) (z:Int):∃ c tb,U a.block=some (.cells c tb (0,0))∧a=⟨a.block,a.off,none⟩∧a.off+1≤c.size ∧
  Free (U.upd a.block (.cells (spl c a.off [.int .u32 z]) tb (0,0)))∧KP U (U.upd a.block (.cells (spl c a.off [.int .u32 z]) tb (0,0)))∧(∀ b,isS U b→isS (U.upd a.block (.cells (spl c a.off [.int .u32 z]) tb (0,0))) b) ∧
  ∀ b v,U.cell? b=some v→(∀ z,v ≠ .int .u32 z)→(U.upd a.block (.cells (spl c a.off [.int .u32 z]) tb (0,0))).cell? b=some v:=by
 obtain ⟨y,hy⟩:=ha
 obtain ⟨c,tb,h1,h2,h3⟩:=hF.at hy fun n h=>by cases h
 have hlt:=(Array.getElem?_eq_some_iff.1 h3).1
 have hp:=vL (vs:=[Value.int .u32 z]) (off:=a.off) h1 (by simp only [List.length_cons,List.length_nil]; omega)
 simp only [List.length_cons,List.length_nil] at hp
 have hsame:∀ b:Addr,(b.block=a.block∧b.spot=none∧a.off≤b.off∧b.off < a.off+(0+1))→b=a:=fun b ⟨e1,e2,e3,e4⟩=>by
  obtain ⟨x,o,s⟩:=b
  rw [h2]
  simp only at e1 e2 e3 e4
  rw [e1,e2,show o=a.off by omega]
 have hk:KP U (U.upd a.block (.cells (spl c a.off [.int .u32 z]) tb (0,0))):=by
  refine ⟨fun b ⟨z',hz⟩=>?_,fun b ⟨x,hx⟩=>?_⟩
  ·by_cases h:b.block=a.block∧b.spot=none∧a.off≤b.off∧b.off < a.off+(0+1)
   ·refine ⟨z,?_⟩
    rw [hp,if_pos h,show b.off - a.off=0 by omega]; rfl
   ·exact ⟨z',by rw [hp,if_neg h]; exact hz⟩
  ·refine ⟨x,?_⟩
   rw [hp,if_neg fun h=>by
    rw [hsame b h,hy] at hx; cases hx]
   exact hx
 refine ⟨c,tb,h1,h2,by omega,hF.put,hk,fun b ⟨v,hv,hg⟩=>⟨v,?_,hg.kp hk⟩,fun b v hv hne=>by
  rw [hp,if_neg fun h=>by
   rw [hsame b h,hy,Option.some.injEq] at hv
   exact hne y hv.symm]
  exact hv⟩
 rw [hp,if_neg fun h=>by
  rw [hsame b h,hy] at hv
  obtain ⟨p,n,c',e,-⟩:=hg
  rw [e] at hv; cases hv]
 exact hv
theorem Qds (hF:Free U) {a:Addr} (ha:Elm U a) {v1 v3:Value} (g1:GS U v1) (g3:GS U v3) (x0 x2:Bool):∃ c tb,U a.block=some (.cells c tb (0,0))∧a=⟨a.block,a.off,none⟩∧a.off+4≤c.size ∧
  Free (U.upd a.block (.cells (spl c a.off [.bool x0,v1,.bool x2,v3]) tb (0,0)))∧KP U (U.upd a.block (.cells (spl c a.off [.bool x0,v1,.bool x2,v3]) tb (0,0)))∧∀ b,isS U b→isS (U.upd a.block (.cells (spl c a.off [.bool x0,v1,.bool x2,v3]) tb (0,0))) b:=by
 obtain ⟨⟨y0,hy0⟩,⟨w1,hw1,f1⟩,⟨y2,hy2⟩,⟨w3,hw3,f3⟩⟩:=ha
 rw [show a.add 0=a from rfl] at hy0
 obtain ⟨c,tb,h1,h2,h3⟩:=hF.at hy0 fun n h=>by cases h
 obtain ⟨bb,oo,ss⟩:=a
 simp only [Addr.mk.injEq,true_and] at h2
 subst h2
 rw [Jd] at hw1 hy2 hw3
 simp only at h1 h3 ⊢
 have cc:∀ k v,U.cell? ⟨bb,k,none⟩=some v→c[k]?=some v:=fun k v h=>by
  unfold UH.cell? at h
  rw [h1] at h
  exact h
 have hlt:=(Array.getElem?_eq_some_iff.1 (cc _ _ hw3)).1
 have hp:=vL (vs:=[Value.bool x0,v1,.bool x2,v3]) (off:=oo) h1 (by simp only [List.length_cons,List.length_nil]; omega)
 simp only [List.length_cons,List.length_nil] at hp
 have hin:∀ b:Addr,(b.block=bb∧b.spot=none∧oo≤b.off∧b.off < oo+(0+1+1+1+1))→b=⟨bb,oo,none⟩∨b=⟨bb,oo+1,none⟩∨b=⟨bb,oo+2,none⟩∨b=⟨bb,oo+3,none⟩:=fun b ⟨e1,e2,e3,e4⟩=>by
  obtain ⟨x,o,s⟩:=b
  simp only at e1 e2 e3 e4
  subst e1 e2
  rcases show o=oo∨o=oo+1∨o=oo+2∨o=oo+3 by omega with rfl | rfl | rfl | rfl
  ·exact .inl rfl
  ·exact .inr (.inl rfl)
  ·exact .inr (.inr (.inl rfl))
  ·exact .inr (.inr (.inr rfl))
 have n0:∀ (o:Nat) (v:Value),oo≤o→o < oo+4→[Value.bool x0,v1,.bool x2,v3][o - oo]?=some v→(U.upd bb (.cells (spl c oo [.bool x0,v1,.bool x2,v3]) tb (0,0))).cell? ⟨bb,o,none⟩=some v:=fun o v k1 k2 k3=>by
  rw [hp,if_pos (by refine ⟨?_,?_,k1,k2⟩<;>trivial)]; exact k3
 have slc:∀ {u:Value},GS U u→∀ n,u ≠ .int .u32 n:=fun ⟨p,n,c',e,_⟩ m h=>by rw [e] at h; cases h
 have slb:∀ {u:Value},GS U u→∀ n,u ≠ .bool n:=fun ⟨p,n,c',e,_⟩ m h=>by rw [e] at h; cases h
 have hk:KP U (U.upd bb (.cells (spl c oo [.bool x0,v1,.bool x2,v3]) tb (0,0))):=by
  refine ⟨fun b ⟨z',hz⟩=>⟨z',?_⟩,fun b ⟨x,hx⟩=>?_⟩
  ·rw [hp,if_neg fun h=>?_]
   ·exact hz
   ·rcases hin b h with rfl | rfl | rfl | rfl
    ·rw [hy0] at hz; cases hz
    ·rw [hw1,Option.some.injEq] at hz; exact slc f1 _ hz
    ·rw [hy2] at hz; cases hz
    ·rw [hw3,Option.some.injEq] at hz; exact slc f3 _ hz
  ·by_cases h:b.block=bb∧b.spot=none∧oo≤b.off∧b.off < oo+(0+1+1+1+1)
   ·rcases hin b h with rfl | rfl | rfl | rfl
    ·exact ⟨x0,n0 _ _ (by omega) (by omega) (by rw [Nat.sub_self]; rfl)⟩
    ·rw [hw1,Option.some.injEq] at hx; exact absurd hx (slb f1 _)
    ·exact ⟨x2,n0 _ _ (by omega) (by omega) (by rw [Nat.add_sub_cancel_left]; rfl)⟩
    ·rw [hw3,Option.some.injEq] at hx; exact absurd hx (slb f3 _)
   ·exact ⟨x,by rw [hp,if_neg h]; exact hx⟩
 refine ⟨c,tb,h1,trivial,by omega,hF.put,hk,fun b ⟨v,hv,hg⟩=>?_⟩
 by_cases h:b.block=bb∧b.spot=none∧oo≤b.off∧b.off < oo+(0+1+1+1+1)
 ·rcases hin b h with rfl | rfl | rfl | rfl
  ·rw [hy0,Option.some.injEq] at hv; exact absurd hv.symm (slb hg _)
  ·exact ⟨v1,n0 _ _ (by omega) (by omega) (by rw [Nat.add_sub_cancel_left]; rfl),g1.kp hk⟩
  ·rw [hy2,Option.some.injEq] at hv; exact absurd hv.symm (slb hg _)
  ·exact ⟨v3,n0 _ _ (by omega) (by omega) (by rw [Nat.add_sub_cancel_left]; rfl),g3.kp hk⟩
 ·exact ⟨v,by rw [hp,if_neg h]; exact hv,hg.kp hk⟩
end Go.Hp
