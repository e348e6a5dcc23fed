/- Texts of this seat's own, merged: each begins with its own remark. -/
import Derived.Test.YthnnlgjlhnmhnaaGreatM19
import Derived.Maps.RangeRun
import Derived.ChangeKeysEq
import Derived.Test.YthnnlgjlhnmhnaaGreatM58
/- Maps: made, read, written, ranged over. Program in general; no condition. -/
namespace Go.Hp
variable {P:Program} {T:TT} {K:Kont} {N:Nat} {G:World} {E:Env} {U U' U0:UH} {M M':MH} {L:List Oper} {l:List Ent} {f:Bool} {i:Nat} {o:Oper} {w:World}
structure KeyT (P:Program) (k:Nat) (ok:Value→Prop):Prop where
 now:∃ d,P.underlying k=some d∧∀ x e es,ok x→ok e.key→Instr.findNow d x (e::es) 0=none
 eq:∀ x y w,ok x→ok y→∃ r:Bool,(Op.equal k x y).run P w = .ok r w∧(r=true↔x=y)
 chk:∀ x b w,ok x→(Instr.checkKey b 10000 k x).run P w = .ok () w
 same:∀ x,ok x→Instr.sameBits 10000 x x=true
def Arr (n:Nat) (v:Value):Prop:=∃ l:List Int,l.length=n∧v = .agg (l.map (Value.int .i64)).toArray
theorem yO {e:Nat} (he:P.underlying e=some (.int .i64)) (hc:P.cellsOf e=1) (d:Nat) (a b:List Int) (w:World):∀ (k j:Nat),j+k=a.length→a.length=b.length →
  (Op.eqItems (d+1) e 1 (a.map (Value.int .i64)).toArray (b.map (Value.int .i64)).toArray (List.range' j k)).run P w = .ok (decide (a.drop j=b.drop j)) w
 | 0,j,h1,h2=>by
  rw [List.drop_of_length_le (by omega),List.drop_of_length_le (by omega)]
  rfl
 | k+1,j,h1,h2=>by
  have hp:P.plainKey e=true:=by unfold Program.plainKey; rw [he]
  obtain ⟨x,hx⟩:∃ x,a[j]?=some x:=⟨_,List.getElem?_eq_getElem (by omega)⟩
  obtain ⟨y,hy⟩:∃ y,b[j]?=some y:=⟨_,List.getElem?_eq_getElem (by omega)⟩
  have ih:=yO he hc d a b w k (j+1) (by omega) h2
  have ra:=run_part_plain (w:=w) hp (xs:=(a.map (Value.int .i64)).toArray) (off:=j) (v := .int .i64 x) (by simp [hx])
  have rb:=run_part_plain (w:=w) hp (xs:=(b.map (Value.int .i64)).toArray) (off:=j) (v := .int .i64 y) (by simp [hy])
  have re:(Op.equalIn (d+1) e (.int .i64 x) (.int .i64 y)).run P w = .ok (x == y) w:=by simp [Op.equalIn,run_underlying he]
  have ea:a.drop j=x::a.drop (j+1):=by
   obtain ⟨hlt,e⟩:=List.getElem?_eq_some_iff.1 hx
   rw [List.drop_eq_getElem_cons hlt,e]
  have eb:b.drop j=y::b.drop (j+1):=by
   obtain ⟨hlt,e⟩:=List.getElem?_eq_some_iff.1 hy
   rw [List.drop_eq_getElem_cons hlt,e]
  rw [List.range'_succ]
  simp only [Op.eqItems,Nat.mul_one,Sem.run_bind,ra,rb,re,Result.andThen_ok,ea,eb]
  by_cases hxy:x=y
  ·subst hxy
   simp only [beq_self_eq_true,Bool.not_true,Bool.false_eq_true,if_false,ih]
   simp
  ·have:(x == y)=false:=by simpa using hxy
   simp [this,hxy]
theorem Qhn {k e n:Nat} (hu:P.underlying k=some (.array n e)) (he:P.underlying e=some (.int .i64)) (hc:P.cellsOf e=1):KeyT P k (Arr n):=by
 obtain ⟨inf,hi⟩:=info_of_underlying he
 refine ⟨⟨_,hu,?_⟩,?_,?_,?_⟩
 ·rintro x y es ⟨a,-,rfl⟩ ⟨b,-,hb⟩
  simp [Instr.findNow,Instr.sameNow]
 ·rintro x y w ⟨a,ha,rfl⟩ ⟨b,hb,rfl⟩
  have h:=yO he hc 9998 a b w n 0 (by omega) (by omega)
  refine ⟨decide (a.drop 0=b.drop 0),?_,?_⟩
  ·show (Op.equalIn (9999+1) k _ _).run P w=_
   rw [run_equalIn_array w 9999 _ _ hu hi,hc,List.range_eq_range',h]
  ·rw [decide_eq_true_eq,List.drop_zero,List.drop_zero]
   refine ⟨fun h=>by rw [h],fun h=>?_⟩
   simp only [Value.agg.injEq] at h
   have h2:=congrArg Array.toList h
   simp only at h2
   exact (List.map_inj_right (fun x y h=>by cases h; rfl)).1 h2
 ·rintro x b w ⟨a,ha,rfl⟩
  show (Instr.checkKey b (9999+1) k _).run P w=_
  rw [Instr.checkKey]
  have hp:P.plainKey e=true:=by unfold Program.plainKey; rw [he]
  simp only [Sem.run_bind,run_underlying hu,Result.andThen_ok]
  simp only [Std.Legacy.Range.forIn_eq_forIn_range',Std.Legacy.Range.size,Nat.sub_zero,Nat.add_one_sub_one,Nat.div_one]
  have hj:∀ j ∈ List.range' 0 n,j < a.length:=fun j hj=>by have:=(List.mem_range'_1.1 hj).2; omega
  generalize List.range' 0 n=is at hj
  induction is with
  | nil=>simp
  | cons j is ih =>
   obtain ⟨x,hx⟩:∃ x,a[j]?=some x:=⟨_,List.getElem?_eq_getElem (hj j (by simp))⟩
   have ra:=run_part_plain (w:=w) hp (xs:=(a.map (Value.int .i64)).toArray) (off:=j) (v := .int .i64 x) (by simp [hx])
   have rc:∀ m,(Instr.checkKey b (m+1) e (.int .i64 x)).run P w = .ok () w:=fun m=>by simp [Instr.checkKey,run_underlying he]
   have rc:(Instr.checkKey b 9999 e (.int .i64 x)).run P w = .ok () w:=rc 9998
   simp only [List.forIn_cons,Sem.run_bind,run_sizeOf w hi,hc,Nat.mul_one,Result.andThen_ok,ra,rc,Sem.run_pure]
   exact ih fun y hy=>hj y (by simp [hy])
 ·rintro x ⟨a,-,rfl⟩
  show ((a.map (Value.int .i64)).toArray.size == (a.map (Value.int .i64)).toArray.size && ((a.map (Value.int .i64)).toArray.toList.zip (a.map (Value.int .i64)).toArray.toList).all fun (x,y)=>Instr.sameBits 9999 x y)=true
  rw [beq_self_eq_true,Bool.true_and,List.all_eq_true]
  intro q hq
  simp only at hq
  clear hu he hc hi
  induction a with
  | nil=>cases hq
  | cons z r ih =>
   rcases List.mem_cons.1 hq with h | h
   ·subst h
    show (IntKind.i64 == IntKind.i64 && z == z)=true
    simp
   ·exact ih h
def mfind (k:Value):List MapEntry→Nat→Option (Nat × Value)→Prop
 | [],_,r=>r=none
 | e::es,i,r=>(e.key=k∧r=some (i,e.val))∨(e.key≠k∧mfind k es (i+1) r)
theorem ql {k:Nat} {ok:Value→Prop} (hk:KeyT P k ok) {x:Value} (hx:ok x) {es:List MapEntry} (hes:∀ e ∈ es,ok e.key) (w:World):∃ r,mfind x es 0 r∧(Instr.findKey k x es).run P w = .ok r w:=by
 have ask:∀ (es:List MapEntry) (i:Nat),(∀ e ∈ es,ok e.key)→∃ r,mfind x es i r∧(Instr.findAsking k x es i).run P w = .ok r w:=by
  intro es
  induction es with
  | nil=>exact fun i _=>⟨none,rfl,by simp [Instr.findAsking]⟩
  | cons e es ih =>
   intro i h
   obtain ⟨q,hq,hiff⟩:=hk.eq x e.key w hx (h e (by simp))
   cases q with
   | true=>exact ⟨some (i,e.val),.inl ⟨(hiff.1 rfl).symm,rfl⟩,by simp [Instr.findAsking,hq]⟩
   | false =>
    obtain ⟨r,h1,h2⟩:=ih (i+1) fun y hy=>h y (by simp [hy])
    refine ⟨r,.inr ⟨fun e2=>?_,h1⟩,by simp [Instr.findAsking,hq,h2]⟩
    have:=hiff.2 e2.symm
    cases this
 obtain ⟨d,hd,hn⟩:=hk.now
 cases es with
 | nil=>exact ⟨none,rfl,by simp [Instr.findKey,run_underlying hd,Instr.findNow]⟩
 | cons e es =>
  obtain ⟨r,h1,h2⟩:=ask (e::es) 0 hes
  exact ⟨r,h1,by simp [Instr.findKey,run_underlying hd,hn x e es hx (hes e (by simp)),h2]⟩
theorem Qbr (h:Mem G U M w) (o:Obj):ULe U (U.upd w.heap.size o)∧Mem G (U.upd w.heap.size o) M (w.alloc o):=by
 have hlt:∀ j o,w.heap[j]?=some o→j < w.heap.size:=fun j o hj=>(Array.getElem?_eq_some_iff.1 hj).1
 have hU:U w.heap.size=none:=by
  cases hu:U w.heap.size with
  | none=>rfl
  | some o=>have:=hlt _ _ (h.old _ _ hu); omega
 refine ⟨ULe.upd hU,h.os,h.tape,h.output,fun j o' ho=>?_,fun e he=>?_,h.nd⟩
 ·unfold UH.upd at ho
  by_cases ej:j=w.heap.size
  ·subst ej
   rw [if_pos rfl] at ho
   rw [← ho]; exact heap_alloc_new w o
  ·rw [if_neg ej] at ho
   have:=h.old j o' ho
   rw [heap_alloc_old _ _ (hlt _ _ this)]; exact this
 ·obtain ⟨h1,h2⟩:=h.own e he
  have:=hlt _ _ h1
  refine ⟨by rw [heap_alloc_old _ _ this]; exact h1,?_⟩
  unfold UH.upd
  rw [if_neg (by omega)]; exact h2
theorem vu {b:Nat} {o o':Obj} (h:Mem G U M w) (hb:U b=some o):Mem G (U.upd b o') M (ChangeMaps.setBlock w b o'):=by
 have h0:w.heap[b]?=some o:=h.old b o hb
 have hlt:=(Array.getElem?_eq_some_iff.1 h0).1
 refine ⟨h.os,h.tape,h.output,fun j x hx=>?_,fun e he=>?_,h.nd⟩
 ·show (w.heap.setIfInBounds b o')[j]?=some x
  unfold UH.upd at hx
  by_cases ej:j=b
  ·subst ej
   rw [if_pos rfl] at hx
   rw [Array.getElem?_setIfInBounds_self_of_lt hlt]; exact hx
  ·rw [if_neg ej] at hx
   rw [Array.getElem?_setIfInBounds_ne (Ne.symm ej)]
   exact h.old j x hx
 ·obtain ⟨h1,h2⟩:=h.own e he
  have hne:e.1≠b:=fun e1=>by rw [e1,hb] at h2; cases h2
  refine ⟨?_,?_⟩
  ·show (w.heap.setIfInBounds b o')[e.1]?=_
   rw [Array.getElem?_setIfInBounds_ne (Ne.symm hne)]; exact h1
  ·unfold UH.upd
   rw [if_neg hne]; exact h2
theorem QdR {d:Nat} {R:Value→UH→MH→Prop} (hg:gok L E o.guard=some true) (hk:xB f T o=true) (hd:o.dst=some d) (hN:Nat.blt d N=true)
  (hy:∀ a w,Has a N E→Mem G U M w→∃ v w' U' M',(execOp a.eval o).run P w = .ok (.value v) w'∧Mem G U' M' w'∧R v U' M')
  (h:∀ v U' M',R v U' M'→SL P T L K N G l ((d,v)::E) U' M'):SL P T L K N G ((f,i,o)::l) E U M:=by
 refine .x (R:=R) (yG hk) (fun e he=>by rw [hd] at he; cases he; exact hN) (fun a w ha hm=>?_) (fun v U1 M1 hR=>?_)
 ·obtain ⟨v,w',U',M',hr,hm',hR⟩:=hy a w ha hm
  unfold wpV
  rw [QP hg ha,if_pos rfl,hr]
  exact ⟨U',M',hm',hR⟩
 ·rw [hd]; exact h v U1 M1 hR
theorem vw {d t:Nat} (ho:o.op = .makeMap t none) (hg:gok L E o.guard=some true) (hk:xB f T o=true) (hd:o.dst=some d) (hN:Nat.blt d N=true)
  (h:∀ b,U b=none→SL P T L K N G l ((d,.map (some b))::E) (U.upd b (.map #[] 0)) M):SL P T L K N G ((f,i,o)::l) E U M:=by
 refine QdR (R:=fun v U' M'=>∃ b,U b=none∧v = .map (some b)∧U'=U.upd b (.map #[] 0)∧M'=M) hg hk hd hN (fun a w ha hw=>?_) (fun v U' M' ⟨b,h1,h2,h3,h4⟩=>by subst h2 h3 h4; exact h b h1)
 refine ⟨.map (some w.heap.size),w.alloc (.map #[] 0),_,M,?_,(Qbr hw (.map #[] 0)).2,w.heap.size,?_,rfl,rfl,rfl⟩
 ·have hr:(Instr.makeMap t none).run P w = .ok (.map (some w.heap.size)) (w.alloc (.map #[] 0)):=rfl
  simp [execOp,ho,hr]
 ·cases hu:U w.heap.size with
  | none=>rfl
  | some x =>
   have:=(Array.getElem?_eq_some_iff.1 (hw.old _ _ hu)).1
   omega
structure MapC (ok:Value→Prop) (es:Array MapEntry) (clock:Nat):Prop where
 keys:∀ e ∈ es.toList,ok e.key
 dist:(es.toList.map (·.key)).Nodup
 born:(es.toList.map (·.born)).Nodup
 old:∀ e ∈ es.toList,e.born < clock
theorem MapC.nil {ok:Value→Prop}:MapC ok #[] 0:=⟨fun _ h=>(by cases h),List.nodup_nil,List.nodup_nil,fun _ h=>(by cases h)⟩
def Holds (es:Array MapEntry) (k v:Value):Prop:=∃ e ∈ es.toList,e.key=k∧e.val=v
theorem je {k:Value}:∀ {es:List MapEntry} {i j:Nat} {v:Value},mfind k es i (some (j,v))→∃ e,i≤j∧es[j - i]?=some e∧e.key=k∧e.val=v
 | [],_,_,_,h=>by cases h
 | e::es,i,j,v,h=>by
  rcases h with ⟨h1,h2⟩ | ⟨-,h2⟩
  ·simp only [Option.some.injEq,Prod.mk.injEq] at h2
   obtain ⟨rfl,rfl⟩:=h2
   exact ⟨e,Nat.le_refl _,by rw [Nat.sub_self]; rfl,h1,rfl⟩
  ·obtain ⟨x,h3,h4,h5⟩:=je h2
   exact ⟨x,by omega,by rw [show j - i=j - (i+1)+1 by omega]; exact h4,h5⟩
theorem jb {k:Value}:∀ {es:List MapEntry} {i:Nat},mfind k es i none→∀ e ∈ es,e.key≠k
 | [],_,_=>fun _ h=>(by cases h)
 | e::es,i,h=>by
  rcases h with ⟨-,h2⟩ | ⟨h1,h2⟩
  ·cases h2
  ·intro x hx
   rcases List.mem_cons.1 hx with rfl | hx
   ·exact h1
   ·exact jb h2 x hx
theorem Qad {k:Value}:∀ {es:List MapEntry} {i:Nat} {r r':Option (Nat × Value)},mfind k es i r→mfind k es i r'→r=r'
 | [],_,_,_,h,h'=>h.trans h'.symm
 | e::es,i,r,r',h,h'=>by
  rcases h with ⟨h1,h2⟩ | ⟨h1,h2⟩
  ·rcases h' with ⟨-,h4⟩ | ⟨h3,-⟩
   ·rw [h2,h4]
   ·exact absurd h1 h3
  ·rcases h' with ⟨h3,-⟩ | ⟨-,h4⟩
   ·exact absurd h3 h1
   ·exact Qad h2 h4
theorem Qeo {d t b k el:Nat} {ok:Value→Prop} {x ix:Operand} {kv z:Value} {es:Array MapEntry} {clock:Nat} (ho:o.op = .lookup t x ix false) (hx:ev E x=some (.map (some b))) (hi:ev E ix=some kv) (hu:P.underlying t=some (.map k el)) (hK:KeyT P k ok) (hkv:ok kv) (hz:∀ w,(zeroValue el).run P w = .ok z w)
  (hU:U b=some (.map es clock)) (hC:MapC ok es clock) (hg:gok L E o.guard=some true) (hk:yB f T o=true) (hd:o.dst=some d) (hN:Nat.blt d N=true)
  (h1:∀ v,Holds es kv v→SL P T L K N G l ((d,v)::E) U M) (h2:(∀ e ∈ es.toList,e.key≠kv)→SL P T L K N G l ((d,z)::E) U M):SL P T L K N G ((f,i,o)::l) E U M:=by
 obtain ⟨r,hr,-⟩:=ql hK hkv hC.keys default
 have hrun:∀ w,Mem G U M w→(Instr.lookup t (.map (some b)) kv false).run P w = .ok (match r with | some q=>q.2 | none=>z) w:=fun w hw=>by
  have hb:=hw.old _ _ hU
  have hgo:(getObj b).run P w = .ok (.map es clock) w:=by simp [getObj,Sem.run,hb]
  obtain ⟨r',hr',hf⟩:=ql hK hkv hC.keys w
  have hc:=hK.chk kv es.isEmpty w hkv
  rw [Qad hr' hr] at hf
  cases r with
  | none =>
   simp only [Instr.lookup,Sem.run_bind,run_underlying hu,Result.andThen_ok,hgo,Sem.run_pure,hc,hf,hz w]
   rfl
  | some q =>
   obtain ⟨j,v⟩:=q
   simp only [Instr.lookup,Sem.run_bind,run_underlying hu,Result.andThen_ok,hgo,Sem.run_pure,hc,hf]
   rfl
 cases r with
 | none =>
  refine sl_y (v:=z) ⟨fun a w ha hw=>?_⟩ hk hd hN hg (h2 (jb hr))
  have hl:=hrun w hw
  simp only at hl
  simp [execOp,ho,ha.eval hx,ha.eval hi,hl]
 | some q =>
  obtain ⟨j,v⟩:=q
  obtain ⟨e,-,he,h3,h4⟩:=je hr
  refine sl_y (v:=v) ⟨fun a w ha hw=>?_⟩ hk hd hN hg (h1 v ⟨e,List.mem_of_getElem? he,h3,h4⟩)
  have hl:=hrun w hw
  simp only at hl
  simp [execOp,ho,ha.eval hx,ha.eval hi,hl]
def Stored (es es':Array MapEntry) (kv v:Value):Prop:=∀ k u,Holds es' k u↔(k=kv∧u=v)∨(k≠kv∧Holds es k u)
theorem QdH {ok:Value→Prop} {es:Array MapEntry} {clock:Nat} {kv v:Value} (hC:MapC ok es clock) (hkv:ok kv) (hn:∀ e ∈ es.toList,e.key≠kv):MapC ok (es.push ⟨kv,v,clock⟩) (clock+1)∧Stored es (es.push ⟨kv,v,clock⟩) kv v:=by
 have hl:(es.push ⟨kv,v,clock⟩).toList=es.toList++[⟨kv,v,clock⟩]:=Array.toList_push
 refine ⟨⟨?_,?_,?_,?_⟩,?_⟩
 ·rw [hl]
  intro e he
  rcases List.mem_append.1 he with he | he
  ·exact hC.keys e he
  ·rw [List.mem_singleton] at he; subst he; exact hkv
 ·rw [hl,List.map_append,List.map_cons,List.map_nil]
  refine List.nodup_append.2 ⟨hC.dist,by simp,fun x hx y hy=>?_⟩
  rw [List.mem_singleton] at hy
  obtain ⟨e,he,rfl⟩:=List.mem_map.1 hx
  rw [hy]; exact hn e he
 ·rw [hl,List.map_append,List.map_cons,List.map_nil]
  refine List.nodup_append.2 ⟨hC.born,by simp,fun x hx y hy=>?_⟩
  rw [List.mem_singleton] at hy
  obtain ⟨e,he,rfl⟩:=List.mem_map.1 hx
  have:=hC.old e he
  rw [hy]
  exact Nat.ne_of_lt this
 ·rw [hl]
  intro e he
  rcases List.mem_append.1 he with he | he
  ·have:=hC.old e he; omega
  ·rw [List.mem_singleton] at he; subst he; exact Nat.lt_succ_self _
 ·intro k u
  unfold Holds
  rw [hl]
  constructor
  ·rintro ⟨e,he,rfl,rfl⟩
   rcases List.mem_append.1 he with he | he
   ·exact .inr ⟨hn e he,e,he,rfl,rfl⟩
   ·rw [List.mem_singleton] at he; subst he; exact .inl ⟨rfl,rfl⟩
  ·rintro (⟨rfl,rfl⟩ | ⟨-,e,he,h1,h2⟩)
   ·exact ⟨_,List.mem_append_right _ (List.mem_singleton.2 rfl),rfl,rfl⟩
   ·exact ⟨e,List.mem_append_left _ he,h1,h2⟩
theorem Qav {ok:Value→Prop} {es:Array MapEntry} {clock j:Nat} {v:Value} {e:MapEntry} (hC:MapC ok es clock) (he:es.toList[j]?=some e):MapC ok (es.modify j fun x=>{ x with key:=e.key,val:=v }) clock∧Stored es (es.modify j fun x=>{ x with key:=e.key,val:=v }) e.key v:=by
 have hl:∀ i:Nat,(es.modify j fun x=>{ x with key:=e.key,val:=v }).toList[i]?=if i=j then some { e with val:=v } else es.toList[i]?:=fun i=>by
  rw [Array.getElem?_toList,Array.getElem?_modify]
  by_cases h:j=i
  ·subst h
   rw [if_pos rfl,if_pos rfl,← Array.getElem?_toList,he]
   rfl
  ·rw [if_neg h,if_neg (Ne.symm h),Array.getElem?_toList]
 have hk:(es.modify j fun x=>{ x with key:=e.key,val:=v }).toList.map (·.key)=es.toList.map (·.key):=List.ext_getElem? fun i=>by
  rw [List.getElem?_map,List.getElem?_map,hl]
  split
  ·rename_i h; subst h; rw [he]; rfl
  ·rfl
 have hb:(es.modify j fun x=>{ x with key:=e.key,val:=v }).toList.map (·.born)=es.toList.map (·.born):=List.ext_getElem? fun i=>by
  rw [List.getElem?_map,List.getElem?_map,hl]
  split
  ·rename_i h; subst h; rw [he]; rfl
  ·rfl
 refine ⟨⟨fun x hx=>?_,by rw [hk]; exact hC.dist,by rw [hb]; exact hC.born,fun x hx=>?_⟩,fun k u=>⟨?_,?_⟩⟩
 ·have:x.key ∈ es.toList.map (·.key):=by rw [← hk]; exact List.mem_map.2 ⟨x,hx,rfl⟩
  obtain ⟨y,hy,h⟩:=List.mem_map.1 this
  rw [← h]; exact hC.keys y hy
 ·have:x.born ∈ es.toList.map (·.born):=by rw [← hb]; exact List.mem_map.2 ⟨x,hx,rfl⟩
  obtain ⟨y,hy,h⟩:=List.mem_map.1 this
  rw [← h]; exact hC.old y hy
 ·rintro ⟨x,hx,rfl,rfl⟩
  obtain ⟨i,hi⟩:=List.mem_iff_getElem?.1 hx
  rw [hl] at hi
  by_cases h:i=j
  ·rw [if_pos h,Option.some.injEq] at hi
   rw [← hi]; exact .inl ⟨rfl,rfl⟩
  ·rw [if_neg h] at hi
   refine .inr ⟨fun h2=>h ?_,x,List.mem_of_getElem? hi,rfl,rfl⟩
   have h3:(es.toList.map (·.key))[i]?=some e.key:=by rw [List.getElem?_map,hi,← h2]; rfl
   have h4:(es.toList.map (·.key))[j]?=some e.key:=by rw [List.getElem?_map,he]; rfl
   have h5:=(List.getElem?_eq_some_iff.1 h3).1
   exact (List.getElem?_inj h5 hC.dist).1 (h3.trans h4.symm)
 ·rintro (⟨rfl,rfl⟩ | ⟨hne,x,hx,rfl,rfl⟩)
  ·refine ⟨{ e with val:=u },List.mem_of_getElem? (i:=j) ?_,rfl,rfl⟩
   rw [hl,if_pos rfl]
  ·obtain ⟨i,hi⟩:=List.mem_iff_getElem?.1 hx
   refine ⟨x,List.mem_of_getElem? (i:=i) ?_,rfl,rfl⟩
   rw [hl,if_neg fun h=>?_]
   ·exact hi
   ·subst h
    rw [he,Option.some.injEq] at hi
    rw [hi] at hne
    exact hne rfl
theorem jk {t b k el:Nat} {ok:Value→Prop} {x ix y:Operand} {kv v:Value} {es:Array MapEntry} {clock:Nat} (ho:o.op = .mapUpdate t x ix y) (hx:ev E x=some (.map (some b))) (hi:ev E ix=some kv) (hy:ev E y=some v) (hu:P.underlying t=some (.map k el)) (hK:KeyT P k ok) (hkv:ok kv)
  (hU:U b=some (.map es clock)) (hC:MapC ok es clock) (hg:gok L E o.guard=some true) (hk:xB f T o=true) (hd:o.dst=none)
  (h:∀ es' clock',MapC ok es' clock'→Stored es es' kv v→es'.size≤es.size+1→SL P T L K N G l E (U.upd b (.map es' clock')) M):SL P T L K N G ((f,i,o)::l) E U M:=by
 refine .x (R:=fun _ U' M'=>∃ es' clock',MapC ok es' clock'∧Stored es es' kv v∧es'.size≤es.size+1∧U'=U.upd b (.map es' clock')∧M'=M) (yG hk) (fun e he=>by rw [hd] at he; cases he) (fun a w ha hw=>?_) (fun v' U' M' ⟨es',clock',h3,h4,h7,h5,h6⟩=>by
  subst h5 h6
  rw [hd]; exact h es' clock' h3 h4 h7)
 have hb:=hw.old _ _ hU
 have hgo:(getObj b).run P w = .ok (.map es clock) w:=by simp [getObj,Sem.run,hb]
 obtain ⟨r,hr,hf⟩:=ql hK hkv hC.keys w
 have hc:=hK.chk kv false w hkv
 have hset:∀ es' clock',(setObj b (.map es' clock')).run P w = .ok () (ChangeMaps.setBlock w b (.map es' clock')):=fun es' clock'=>by
  simp [setObj,Sem.run,hb,ChangeMaps.setBlock]
 have key:∀ es' clock',(Instr.mapUpdate t (.map (some b)) kv v).run P w = .ok () (ChangeMaps.setBlock w b (.map es' clock'))→MapC ok es' clock'→Stored es es' kv v→es'.size≤es.size+1 →
   wpV P L o a w fun v' w'=>∃ U' M',Mem G U' M' w'∧∃ es' clock',MapC ok es' clock'∧Stored es es' kv v∧es'.size≤es.size+1∧U'=U.upd b (.map es' clock')∧M'=M:=fun es' clock' hl h1 h2 h3=>by
  unfold wpV
  rw [QP hg ha,if_pos rfl]
  have hrun:(execOp a.eval o).run P w = .ok .skip (ChangeMaps.setBlock w b (.map es' clock')):=by simp [execOp,ho,ha.eval hx,ha.eval hi,ha.eval hy,hl]
  rw [hrun]
  exact ⟨_,M,vu hw hU,es',clock',h1,h2,h3,rfl,rfl⟩
 cases r with
 | none =>
  have hn:=jb hr
  refine key (es.push ⟨kv,v,clock⟩) (clock+1) ?_ ?_ ?_ (by rw [Array.size_push]; exact Nat.le_refl _)
  ·simp only [Instr.mapUpdate,Sem.run_bind,run_underlying hu,Result.andThen_ok,hgo,hc,hf,hset]
  ·exact (QdH hC hkv hn).1
  ·exact (QdH hC hkv hn).2
 | some q =>
  obtain ⟨j,v0⟩:=q
  obtain ⟨e,-,he,h3,h4⟩:=je hr
  rw [Nat.sub_zero] at he
  refine key (es.modify j fun e=>{ e with key:=kv,val:=v }) clock ?_ ?_ ?_ (by rw [Array.size_modify]; exact Nat.le_succ _)
  ·have hkk:(Instr.keyThatStays (((es[j]?).map (·.key)).getD kv) kv).run P w = .ok kv w:=by
    rw [show es[j]?=some e by simpa using he]
    show (Instr.keyThatStays e.key kv).run P w=_
    rw [h3]
    simp [Instr.keyThatStays,hK.same kv hkv]
   simp only [Instr.mapUpdate,Sem.run_bind,run_underlying hu,Result.andThen_ok,hgo,hc,hf,hkk,hset]
  ·subst h3; exact (Qav hC he).1
  ·subst h3; exact (Qav hC he).2
theorem Qca {d t b k el:Nat} {x:Operand} {es:Array MapEntry} {clock:Nat} (ho:o.op = .range t x) (hx:ev E x=some (.map (some b))) (hu:P.underlying t=some (.map k el)) (hU:U b=some (.map es clock)) (hg:gok L E o.guard=some true) (hk:xB f T o=true) (hd:o.dst=some d) (hN:Nat.blt d N=true)
  (h:∀ r,U r=none→SL P T L K N G l ((d,.pointer (some ⟨r,0,none⟩))::E) (U.upd r (.mapIter (some b) clock #[] clock)) M):SL P T L K N G ((f,i,o)::l) E U M:=by
 refine QdR (R:=fun v U' M'=>∃ r,U r=none∧v = .pointer (some ⟨r,0,none⟩)∧U'=U.upd r (.mapIter (some b) clock #[] clock)∧M'=M) hg hk hd hN (fun a w ha hw=>?_) (fun v U' M' ⟨r,h1,h2,h3,h4⟩=>by subst h2 h3 h4; exact h r h1)
 have hb:=hw.old _ _ hU
 have hgo:(getObj b).run P w = .ok (.map es clock) w:=by simp [getObj,Sem.run,hb]
 refine ⟨.pointer (some ⟨w.heap.size,0,none⟩),w.alloc (.mapIter (some b) clock #[] clock),_,M,?_,(Qbr hw (.mapIter (some b) clock #[] clock)).2,w.heap.size,?_,rfl,rfl,rfl⟩
 ·have hno:(newObj (.mapIter (some b) clock #[] clock)).run P w = .ok w.heap.size (w.alloc (.mapIter (some b) clock #[] clock)):=rfl
  have hr:(Instr.range t (.map (some b))).run P w = .ok (.pointer (some ⟨w.heap.size,0,none⟩)) (w.alloc (.mapIter (some b) clock #[] clock)):=by
   simp only [Instr.range,Sem.run_bind,run_underlying hu,Result.andThen_ok,hgo,Sem.run_pure,hno]
  simp [execOp,ho,ha.eval hx,hr]
 ·cases hu:U w.heap.size with
  | none=>rfl
  | some x =>
   have:=(Array.getElem?_eq_some_iff.1 (hw.old _ _ hu)).1
   omega
theorem QdK {d b r:Nat} {ok:Value→Prop} {x:Operand} {es:Array MapEntry} {clock c0:Nat} {seen:Array Nat} (ho:o.op = .next x false) (hx:ev E x=some (.pointer (some ⟨r,0,none⟩))) (hU:U b=some (.map es clock)) (hC:MapC ok es clock) (hr:U r=some (.mapIter (some b) clock seen c0)) (hc0:clock≤c0)
  (hg:gok L E o.guard=some true) (hk:xB f T o=true) (hd:o.dst=some d) (hN:Nat.blt d N=true)
  (h1:(∀ e ∈ es.toList,e.born ∈ seen.toList)→SL P T L K N G l ((d,.tuple #[.bool false])::E) U M)
  (h2:∀ e ∈ es.toList,e.born ∉ seen.toList→SL P T L K N G l ((d,.tuple #[.bool true,e.key,e.val])::E) (U.upd r (.mapIter (some b) clock (seen.push e.born) clock)) M):SL P T L K N G ((f,i,o)::l) E U M:=by
 refine QdR (R:=fun v U' M'=>((∀ e ∈ es.toList,e.born ∈ seen.toList)∧v = .tuple #[.bool false]∧U'=U∨∃ e ∈ es.toList,e.born ∉ seen.toList∧v = .tuple #[.bool true,e.key,e.val]∧U'=U.upd r (.mapIter (some b) clock (seen.push e.born) clock))∧M'=M) hg hk hd hN (fun a w ha hw=>?_) (fun v U' M' ⟨h3,h4⟩=>by
  subst h4
  rcases h3 with ⟨h5,rfl,rfl⟩ | ⟨e,h5,h6,rfl,rfl⟩
  ·exact h1 h5
  ·exact h2 e h5 h6)
 have hb:=hw.old _ _ hU
 have hrw:=hw.old _ _ hr
 have hleft:∀ e,e ∈ (leftOf es seen).toList↔e ∈ es.toList∧e.born ∉ seen.toList:=fun e=>by
  unfold leftOf
  simp
 rcases run_next_at (P:=P) w o.type r b clock c0 seen es clock hrw hb hC.old hc0 with ⟨h3,h4⟩ | ⟨e,he,w1,hw1,h4⟩
 ·refine ⟨_,w,U,M,?_,hw,.inl ⟨fun e he=>?_,rfl,rfl⟩,rfl⟩
  ·simp [execOp,ho,ha.eval hx,h4]
  ·refine Classical.byContradiction fun hn=>?_
   have h5:=(hleft e).2 ⟨he,hn⟩
   have h6:(leftOf es seen).toList=[]:=List.eq_nil_of_length_eq_zero (by simpa using h3)
   rw [h6] at h5
   cases h5
 ·obtain ⟨h5,h6⟩:=(hleft e).1 he
  have hm1:Mem G U M w1:=by
   rcases hw1 with rfl | rfl
   ·exact hw
   ·exact hw.drawn _
  refine ⟨_,_,_,M,?_,vu hm1 hr,.inr ⟨e,h5,h6,rfl,rfl⟩,rfl⟩
  simp [execOp,ho,ha.eval hx,h4]
theorem QbZ {b r:Nat} {ok:Value→Prop} {x:Operand} {es:Array MapEntry} {clock:Nat} {seen:Array Nat} {e:MapEntry} (ho:o.op = .entry x) (hx:ev E x=some (.pointer (some ⟨r,0,none⟩))) (hU:U b=some (.map es clock)) (hC:MapC ok es clock) (hr:U r=some (.mapIter (some b) clock (seen.push e.born) clock)) (he:e ∈ es.toList) :
  Yl P N G o E U M (.tuple #[e.key,e.val]):=by
 refine ⟨fun a w ha hw=>?_⟩
 have h:=run_entry_at (P:=P) w r b clock seen es clock e (hw.old _ _ hr) (hw.old _ _ hU) he hC.born
 simp [execOp,ho,ha.eval hx,h]
end Go.Hp

/- Arrays of numbers in variables; facts that outlast a change of a map. Program in general; no condition. -/
namespace Go.Hp
variable {P:Program} {T:TT} {K:Kont} {N:Nat} {G:World} {E:Env} {U U' U0:UH} {M M':MH} {L:List Oper} {l:List Ent} {f:Bool} {i:Nat} {o:Oper} {w:World}
def kyv (κ:List Int):Value := .agg (κ.map (Value.int .i64)).toArray
theorem Qao (κ:List Int):(kyv κ).cells.toList=κ.map (Value.int .i64):=rfl
theorem QdV {a b:List Int} (h:kyv a=kyv b):a=b:=by
 unfold kyv at h
 simp only [Value.agg.injEq] at h
 have h2:=congrArg Array.toList h
 simp only at h2
 exact (List.map_inj_right (fun x y h=>by cases h; rfl)).1 h2
theorem yI (κ:List Int):(kyv κ).cells.toList.length=κ.length:=by rw [Qao,List.length_map]
theorem yw (κ:List Int):(kyv κ).cells.toList.all Value.oneCell'=true:=by
 rw [Qao,List.all_eq_true]
 intro v hv
 obtain ⟨z,-,rfl⟩:=List.mem_map.1 hv
 rfl
theorem QaX {n:Nat} {κ:List Int} (h:κ.length=n):Arr n (kyv κ):=⟨κ,h,rfl⟩
theorem vV {t n e:Nat} (hu:P.underlying t=some (.array n e)) (w:World):(isAgg t).run P w = .ok true w:=by
 simp [isAgg,Qm hu]
theorem VD {d t n by':Nat} {k:TK} {z:Value} (ho:o.op = .alloc t) (hT:TI.ok P t ⟨k,n,by',z⟩) (hg:gok L E o.guard=some true) (hd:o.dst=some d) (hN:Nat.blt d N=true)
  (h:∀ b,SL P T L K N G l ((d,.pointer (some ⟨b,0,none⟩))::E) U ((b,.var z,t)::M)):SL P T L K N G ((f,i,o)::l) E U M :=
 .al ho hg (fun w=>hT.run_zero w) hd hN h
theorem YC {t n e b tb:Nat} {x:Operand} {κ:List Int} {ti:TI} (m:Nat) (ho:o.op = .load t x) (hx:ev E x=some (.pointer (some ⟨b,0,none⟩))) (hM:nth M m=some (b,.var (kyv κ),tb)) (hu:P.underlying t=some (.array n e)) (hT:TI.ok P t ti) (hs:ti.size=n) (hκ:κ.length=n) :
  Yl P N G o E U M (kyv κ):=by
 rw [QT] at hM
 refine JJ ho hx fun w hw=>?_
 have hb:=hw.own_at hM
 have hc:=run_loadCells_list (P:=P) (w:=w) ⟨b,0,none⟩ (κ.map (Value.int .i64)) (fun j v hj=>by
  rw [Jn]
  have:w.cell? ⟨b,0+j,none⟩=(Blk.var (kyv κ)).cells[0+j]?:=by simp [World.cell?,hb]
  rw [this,Nat.zero_add]
  simpa [Blk.cells,kyv,Value.cells] using hj)
 rw [List.length_map,hκ] at hc
 have hz:=hT.run_size (P:=P) w
 rw [hs] at hz
 simp only [loadVar,Sem.run_bind,vV hu,Result.andThen_ok,if_true,hz,hc,Sem.run_pure]
 rfl
theorem Vp {t n e b j:Nat} {x ix:Operand} {iv:Int} {k:IntKind} {ti:TI} (ho:o.op = .indexAddr t x ix) (hx:ev E x=some (.pointer (some ⟨b,0,none⟩))) (hi:ev E ix=some (.int k iv)) (hu:P.underlying t=some (.array n e)) (he:TI.ok P e ti) (h1:ti.size=1) (hj:iv=(j:Int)) (hlt:j < n) :
  Yl P N G o E U M (.pointer (some ⟨b,j,none⟩)):=by
 refine ⟨fun a w ha hw=>?_⟩
 have hsz:=he.run_size (P:=P) w
 rw [h1] at hsz
 subst hj
 have h1:(0:Int)≤(j:Int)∧(j:Int) < (n:Int):=by omega
 simp [execOp,ho,ha.eval hx,ha.eval hi,Instr.indexAt,Instr.sureAddr,asIntOf,Qm hu,hsz,h1,Jn,hlt]
theorem YS {t b j tb:Nat} {x:Operand} {κ:List Int} {z:Int} {ti:TI} (m:Nat) (ho:o.op = .load t x) (hx:ev E x=some (.pointer (some ⟨b,j,none⟩))) (hM:nth M m=some (b,.var (kyv κ),tb)) (hT:TI.ok P t ti) (hk:one ti.k=true) (hz:κ[j]?=some z) :
  Yl P N G o E U M (.int .i64 z):=by
 rw [QT] at hM
 refine JJ ho hx fun w hw=>Jl hT hk ?_
 have hb:=hw.own_at hM
 have:w.cell? ⟨b,j,none⟩=(Blk.var (kyv κ)).cells[j]?:=by simp [World.cell?,hb]
 rw [this]
 simp [Blk.cells,kyv,Value.cells,hz]
theorem qC {t b tb:Nat} {x y:Operand} {v old:Value} {ti:TI} (m:Nat) (ho:o.op = .store t x y) (hx:ev E x=some (.pointer (some ⟨b,0,none⟩))) (hy:ev E y=some v)
  (hM:nth M m=some (b,.var old,tb)) (hT:TI.ok P t ti) (hv:v.cells.toList.length=ti.size) (hold:old.cells.toList.length=ti.size) (h1:v.cells.toList.all Value.oneCell'=true)
  (hg:gok L E o.guard=some true) (hk:xB f T o=true) (hd:o.dst=none) (h:SL P T L K N G l E U (M.set m (b,.var v,tb))):SL P T L K N G ((f,i,o)::l) E U M:=by
 rw [QT] at hM
 refine jA hg hk hd (fun a w ha hw=>?_) h
 have hb:=hw.own_at hM
 have hrun:=JL (off:=0) hT hb hv h1 (by simp only [Blk.cells]; simp at hold; omega)
 refine ⟨_,?_,hw.setRow hM (k' := .var v) (cs:=((Blk.var old).cells.toList.take 0++v.cells.toList++(Blk.var old).cells.toList.drop (0+ti.size)).toArray) ?_⟩
 ·simp only [execOp,ho,ha.eval hx,ha.eval hy,Instr.storeAt,Instr.sureAddr,pure_bind,Sem.run_bind,hrun,Result.andThen_ok,Sem.run_pure]
 ·have:(Blk.var old).cells.toList.drop (0+ti.size)=[]:=by
   apply List.drop_eq_nil_of_le; simp only [Blk.cells]; omega
  rw [this]; simp [Blk.cells]
theorem vH {t b j tb:Nat} {x y:Operand} {z:Int} {κ:List Int} {ti:TI} (m:Nat) (ho:o.op = .store t x y) (hx:ev E x=some (.pointer (some ⟨b,j,none⟩))) (hy:ev E y=some (.int .i64 z))
  (hM:nth M m=some (b,.var (kyv κ),tb)) (hT:TI.ok P t ti) (hs:ti.size=1) (hj:j < κ.length)
  (hg:gok L E o.guard=some true) (hk:xB f T o=true) (hd:o.dst=none) (h:SL P T L K N G l E U (M.set m (b,.var (kyv (κ.set j z)),tb))):SL P T L K N G ((f,i,o)::l) E U M:=by
 rw [QT] at hM
 refine jA hg hk hd (fun a w ha hw=>?_) h
 have hb:=hw.own_at hM
 have hrun:=JL (P:=P) (off:=j) (v := .int .i64 z) hT hb (by rw [hs]; rfl) rfl (by simp only [Blk.cells,kyv,Value.cells,List.size_toArray,List.length_map]; omega)
 refine ⟨_,?_,hw.setRow hM (k' := .var (kyv (κ.set j z))) (cs:=((Blk.var (kyv κ)).cells.toList.take j++(Value.int .i64 z).cells.toList++(Blk.var (kyv κ)).cells.toList.drop (j+ti.size)).toArray) ?_⟩
 ·simp only [execOp,ho,ha.eval hx,ha.eval hy,Instr.storeAt,Instr.sureAddr,pure_bind,Sem.run_bind,hrun,Result.andThen_ok,Sem.run_pure]
 ·show _=((κ.set j z).map (Value.int .i64)).toArray
  refine congrArg List.toArray ?_
  show (κ.map (Value.int .i64)).take j++[.int .i64 z]++(κ.map (Value.int .i64)).drop (j+ti.size)=_
  rw [hs,List.map_set,List.set_eq_take_append_cons_drop,if_pos (by rw [List.length_map]; exact hj),List.append_assoc]
  rfl
theorem Qjg {t n e b:Nat} {x:Operand} {ti:TI} (ho:o.op = .slice t x none none none) (hx:ev E x=some (.pointer (some ⟨b,0,none⟩))) (hu:P.underlying t=some (.array n e)) (he:TI.ok P e ti) (h1:ti.size=1) :
  Yl P N G o E U M (.slice (some ⟨b,0,none⟩) n n):=by
 refine ⟨fun a w ha hw=>?_⟩
 have hsz:=he.run_size (P:=P) w
 rw [h1] at hsz
 simp [execOp,ho,ha.eval hx,Instr.sliceAt,Instr.sliceBounds,Instr.sureAddr,Qm hu,hsz,Jn]
theorem QfG {d t e bs bt bt' b tb n m c':Nat} {x y:Operand} {z z':Value} {ek:TK} {q:Option Addr} {κ ys:List Int} (mi:Nat) (hS:Sym P T) (ho:o.op = .call { callee := .builtin .copy,args := #[x,y],argTypes := #[t,t] })
  (hx:ev E x=some (.slice (some ⟨b,0,none⟩) n n)) (hy:ev E y=some (.slice q m c')) (hT:lkT T t=some ⟨.slice e,bt,bt',z'⟩) (he:lkT T e=some ⟨ek,1,bs,z⟩)
  (hM:nth M mi=some (b,.var (kyv κ),tb)) (hu:RowAt U M 1 q m (ys.map (Value.int .i64))) (hm0:0 < m) (hfit:m≤n) (hn:κ.length=n)
  (hg:gok L E o.guard=some true) (hk:xB f T o=true) (hd:o.dst=some d) (hN:Nat.blt d N=true)
  (h:SL P T L K N G l ((d,.int .i64 (m:Int))::E) U (M.set mi (b,.var (kyv (ys++κ.drop m)),tb))):SL P T L K N G ((f,i,o)::l) E U M:=by
 rw [QT] at hM
 have hul:=hu.len
 rw [List.length_map] at hul
 obtain ⟨dd,hdd,hkk⟩:=(hS.at hT).und
 have:=QN hkk
 subst this
 refine QdR (R:=fun v U' M'=>v = .int .i64 (m:Int)∧U'=U∧M'=M.set mi (b,.var (kyv (ys++κ.drop m)),tb)) hg hk hd hN (fun a w ha hw=>?_) (fun v U' M' ⟨h1,h2,h3⟩=>by subst h1 h2 h3; exact h)
 have hb:=hw.own_at hM
 obtain ⟨a0,ha0,hsrc⟩:=hu.news (G:=G) (by omega) (by omega)
 subst ha0
 obtain ⟨inf,hi0,hi,hiz,hsz,hby⟩:=(hS.at he).run_info w
 have hfl:flat (ys.map (Value.int .i64))=ys.map (Value.int .i64):=by
  have:∀ l:List Int,flat (l.map (Value.int .i64))=l.map (Value.int .i64):=fun l=>by
   induction l with
   | nil=>rfl
   | cons y r ih =>
    show _++flat (r.map _)=_
    rw [ih]; rfl
  exact this ys
 have hfn:(flat (ys.map (Value.int .i64))).length=m:=by rw [hfl,List.length_map]; exact hul
 have hrun:=run_copy_row P w t t o.type e b 0 n n a0 m c' (Blk.var (kyv κ)).cells tb (flat (ys.map (Value.int .i64))) hdd (by rw [hi]; exact congrArg some hsz) hb (by rw [hfn]; exact (Nat.min_eq_left hfit).symm) (fun j v hj=>hsrc w hw j v hj) (by
  rw [hfn]
  simp only [Blk.cells,kyv,Value.cells,List.size_toArray,List.length_map]
  omega) (by
  rw [hfl]
  intro v hv
  obtain ⟨z,-,rfl⟩:=List.mem_map.1 hv
  rfl)
 have hset:=hw.setRow hM (k' := .var (kyv (ys++κ.drop m))) (cs:=((Blk.var (kyv κ)).cells.toList.take 0++flat (ys.map (Value.int .i64))++(Blk.var (kyv κ)).cells.toList.drop (0+(flat (ys.map (Value.int .i64))).length)).toArray) (by
  rw [hfn,hfl]
  show _=((ys++κ.drop m).map (Value.int .i64)).toArray
  refine congrArg List.toArray ?_
  show (κ.map (Value.int .i64)).take 0++ys.map (Value.int .i64)++(κ.map (Value.int .i64)).drop (0+m)=_
  rw [List.take_zero,List.nil_append,Nat.zero_add,List.map_append,List.map_drop])
 rw [show (flat (ys.map (Value.int .i64))).length=m from hfn] at hrun
 refine ⟨_,_,U,_,?_,hset,rfl,rfl,rfl⟩
 rw [hfn]
 simp only [execOp,ho,resolve,List.map_toArray,List.map_cons,List.map_nil,ha.eval hx,ha.eval hy,Sem.run_bind,Sem.run_pure,Result.andThen_ok,invoke,builtin,hrun]
 rfl
def UE (U U':UH):Prop:=∀ (M:MH) (a:Addr) (x:Value),(∀ (G:World) (w:World),Mem G U M w→w.cell? a=some x)→∀ (G:World) (w:World),Mem G U' M w→w.cell? a=some x
theorem ULe.ue (h:ULe U U'):UE U U':=fun _ _ _ h1 G w hw=>h1 G w (hw.anti h (List.Sublist.refl _))
theorem vK {b:Nat} {o o':Obj} (hb:U b=some o) (ho:∀ c t x,o ≠ .cells c t x):UE U (U.upd b o'):=fun M a x h G w hw=>by
 have h1:(U.upd b o').upd b o=U:=funext fun k=>by
  unfold UH.upd
  by_cases e:k=b
  ·rw [if_pos e,e,hb]
  ·rw [if_neg e,if_neg e]
 have hbb:(U.upd b o') b=some o':=if_pos rfl
 have h2:=vu (o':=o) hw hbb
 rw [h1] at h2
 have h3:=h G _ h2
 have hlt:=(Array.getElem?_eq_some_iff.1 (hw.old b o' hbb)).1
 by_cases e:a.block=b
 ·exfalso
  have h4:(ChangeMaps.setBlock w b o).heap[a.block]?=some o:=by
   show (w.heap.setIfInBounds b o)[a.block]?=some o
   rw [e,Array.getElem?_setIfInBounds_self_of_lt hlt]
  unfold World.cell? at h3
  rw [h4] at h3
  cases o with
  | cells c t x=>exact ho c t x rfl
  | _=>cases h3
 ·have h4:(ChangeMaps.setBlock w b o).heap[a.block]?=w.heap[a.block]?:=by
   show (w.heap.setIfInBounds b o)[a.block]?=_
   rw [Array.getElem?_setIfInBounds_ne (Ne.symm e)]
  unfold World.cell? at h3 ⊢
  rw [h4] at h3
  exact h3
theorem RowAt.ue {s n:Nat} {p:Option Addr} {vs:List Value} (h:RowAt U M s p n vs) (hU:UE U U'):RowAt U' M s p n vs :=
 ⟨h.len,h.size,fun k v hk=>⟨(h.get k v hk).1,fun j x hx=>hU M _ _ ((h.get k v hk).2 j x hx)⟩⟩
end Go.Hp
