/- Texts of this seat's own, merged: each begins with its own remark. -/
import Derived.Test.YtnjpkncacddplaaGreatDoorM1
import Derived.Test.YtnjpkncacddplaaGreatDoorM96
/- A tree of values by number, for runs that the kernel carries out. No condition. -/
namespace Go.Gx
open Go.Hp
inductive Tr (α:Type) where
 | nil
 | node (l:Tr α) (v:Option α) (r:Tr α)
noncomputable def Tr.get {α:Type} (t:Tr α):Nat→Option α :=
 Tr.rec (motive:=fun _=>Nat→Option α) (fun _=>none) (fun _ v _ il ir k=>Bool.rec (motive:=fun _=>Option α) (Bool.rec (motive:=fun _=>Option α) (ir (Nat.sub (Nat.div k (nat_lit 2)) (nat_lit 1))) (il (Nat.div k (nat_lit 2))) (Nat.beq (Nat.mod k (nat_lit 2)) (nat_lit 1))) v (Nat.beq k (nat_lit 0))) t
theorem QW {α:Type} (c:Bool) (a b:α):Bool.rec (motive:=fun _=>α) b a c=bif c then a else b:=by cases c<;>rfl
theorem Tr.get_nil {α:Type} (k:Nat):(Tr.nil:Tr α).get k=none:=rfl
theorem Tr.get_node {α:Type} (l r:Tr α) (v:Option α) (k:Nat):(Tr.node l v r).get k=bif Nat.beq k 0 then v else bif Nat.beq (k % 2) 1 then l.get (k / 2) else r.get (k / 2 - 1):=by
 rw [← QW,← QW]; rfl
noncomputable def Tr.put {α:Type} (fuel:Nat):Tr α→Nat→Option α→Tr α :=
 Nat.rec (motive:=fun _=>Tr α→Nat→Option α→Tr α) (fun t _ _=>t)
  (fun _ ih t k x=>match t with
   | .nil=>bif Nat.beq k 0 then .node .nil x .nil else bif Nat.beq (k % 2) 1 then .node (ih .nil (k / 2) x) none .nil else .node .nil none (ih .nil (k / 2 - 1) x)
   | .node l v r=>bif Nat.beq k 0 then .node l x r else bif Nat.beq (k % 2) 1 then .node (ih l (k / 2) x) v r else .node l v (ih r (k / 2 - 1) x)) fuel
theorem Tr.put_succ {α : Type} (fuel : Nat) (t : Tr α) (k : Nat) (x : Option α) : Tr.put (fuel + 1) t k x = match t with
   | .nil=>bif Nat.beq k 0 then .node .nil x .nil else bif Nat.beq (k % 2) 1 then .node (Tr.put fuel .nil (k / 2) x) none .nil else .node .nil none (Tr.put fuel .nil (k / 2 - 1) x)
   | .node l v r=>bif Nat.beq k 0 then .node l x r else bif Nat.beq (k % 2) 1 then .node (Tr.put fuel l (k / 2) x) v r else .node l v (Tr.put fuel r (k / 2 - 1) x):=by
 cases t<;>rfl
theorem beq0 {k:Nat} (h:k≠0):Nat.beq k 0=false:=Qr h
theorem Yh (k:Nat):Nat.beq k k=true:=by simp
theorem yn {k:Nat} (h:Nat.beq (k % 2) 1=true):k=2*(k / 2)+1:=by
 have:=Nat.eq_of_beq_eq_true h; omega
theorem ql {k:Nat} (h0:k≠0) (h:Nat.beq (k % 2) 1=false):k=2*(k / 2 - 1)+2:=by
 have:k % 2≠1:=fun e=>by rw [e] at h; cases h
 omega
theorem Tr.get_put {α:Type}:∀ (fuel:Nat) (t:Tr α) (k:Nat) (x:Option α) (j:Nat),k < fuel→(Tr.put fuel t k x).get j=bif Nat.beq j k then x else t.get j
 | 0,_,_,_,_,h=>by omega
 | fuel+1,t,k,x,j,h=>by
  rw [Tr.put_succ]
  by_cases hk:k=0
  ·subst hk
   cases t with
   | nil =>
    simp only [Yh,cond_true,Tr.get_node,Tr.get_nil]
    cases Nat.beq j 0<;>simp
   | node l v r =>
    simp only [Yh,cond_true,Tr.get_node]
    cases Nat.beq j 0<;>simp
  ·have hk0:=beq0 hk
   by_cases hj:j=0
   ·subst hj
    have e:Nat.beq 0 k=false:=Qr (fun e=>hk e.symm)
    cases t with
    | nil=>simp only [hk0,cond_false]; cases Nat.beq (k % 2) 1<;>simp [Tr.get_node,Tr.get_nil,e]
    | node l v r=>simp only [hk0,cond_false]; cases Nat.beq (k % 2) 1<;>simp [Tr.get_node,e]
   ·have hj0:=beq0 hj
    cases ho:Nat.beq (k % 2) 1 with
    | true =>
     have hk1:=yn ho
     cases hp:Nat.beq (j % 2) 1 with
     | true =>
      have hj1:=yn hp
      have e:Nat.beq j k=Nat.beq (j / 2) (k / 2):=by
       by_cases e:j=k
       ·subst e; simp
       ·rw [Qr e,Qr (fun e2=>e (by omega))]
      cases t with
      | nil=>simp only [hk0,ho,cond_false,cond_true,Tr.get_node,hj0,hp,Tr.get_put fuel _ (k / 2) x (j / 2) (by omega),e,Tr.get_nil]
      | node l v r=>simp only [hk0,ho,cond_false,cond_true,Tr.get_node,hj0,hp,Tr.get_put fuel _ (k / 2) x (j / 2) (by omega),e]
     | false =>
      have e:Nat.beq j k=false:=Qr (fun e=>by subst e; rw [ho] at hp; cases hp)
      cases t with
      | nil=>simp only [hk0,ho,cond_false,cond_true,Tr.get_node,hj0,hp,e,Tr.get_nil]
      | node l v r=>simp only [hk0,ho,cond_false,cond_true,Tr.get_node,hj0,hp,e]
    | false =>
     have hk1:=ql hk ho
     cases hp:Nat.beq (j % 2) 1 with
     | true =>
      have e:Nat.beq j k=false:=Qr (fun e=>by subst e; rw [ho] at hp; cases hp)
      cases t with
      | nil=>simp only [hk0,ho,cond_false,cond_true,Tr.get_node,hj0,hp,e,Tr.get_nil]
      | node l v r=>simp only [hk0,ho,cond_false,cond_true,Tr.get_node,hj0,hp,e]
     | false =>
      have hj1:=ql hj hp
      have e:Nat.beq j k=Nat.beq (j / 2 - 1) (k / 2 - 1):=by
       by_cases e:j=k
       ·subst e; simp
       ·rw [Qr e,Qr (fun e2=>e (by omega))]
      cases t with
      | nil=>simp only [hk0,ho,cond_false,Tr.get_node,hj0,hp,Tr.get_put fuel _ (k / 2 - 1) x (j / 2 - 1) (by omega),e,Tr.get_nil]
      | node l v r=>simp only [hk0,ho,cond_false,Tr.get_node,hj0,hp,Tr.get_put fuel _ (k / 2 - 1) x (j / 2 - 1) (by omega),e]
def Tr.ents {α:Type}:Tr α→List (Nat × α)
 | .nil=>[]
 | .node l v r=>(match v with | some x=>[(0,x)] | none=>[])++(l.ents.map (fun e=>(2*e.1+1,e.2))++r.ents.map (fun e=>(2*e.1+2,e.2)))
theorem Tr.ents_get {α:Type}:∀ {t:Tr α} {k:Nat} {x:α},t.get k=some x→∃ r,t.ents.Perm ((k,x)::r)∧∀ (fuel:Nat) (y:Option α),k < fuel→(Tr.put fuel t k y).ents.Perm ((match y with | some y=>[(k,y)] | none=>[])++r)
 | .nil,k,x,h=>by cases h
 | .node l v r,k,x,h=>by
  rw [Tr.get_node] at h
  by_cases hk:k=0
  ·subst hk
   simp only [Yh,cond_true] at h
   subst h
   refine ⟨_,List.Perm.refl _,fun fuel y hf=>?_⟩
   cases fuel with
   | zero=>omega
   | succ fuel =>
    rw [Tr.put_succ]
    simp only [Yh,cond_true,Tr.ents]
    exact List.Perm.refl _
  ·have hk0:=beq0 hk
   rw [hk0,cond_false] at h
   cases ho:Nat.beq (k % 2) 1 with
   | true =>
    rw [ho,cond_true] at h
    obtain ⟨q,h1,h2⟩:=Tr.ents_get h
    have e:=yn ho
    refine ⟨(match v with | some x=>[(0,x)] | none=>[])++(q.map (fun e=>(2*e.1+1,e.2))++r.ents.map (fun e=>(2*e.1+2,e.2))),?_,fun fuel y hf=>?_⟩
    ·simp only [Tr.ents]
     have h3:=h1.map (fun e:Nat × α=>(2*e.1+1,e.2))
     rw [List.map_cons,show (2*(k / 2)+1,x)=(k,x) by rw [← e]] at h3
     refine (List.Perm.append_left _ (h3.append_right _)).trans ?_
     exact List.perm_middle
    ·cases fuel with
     | zero=>omega
     | succ fuel =>
      rw [Tr.put_succ]
      simp only [hk0,ho,cond_false,cond_true,Tr.ents]
      have h3:=(h2 fuel y (by omega)).map (fun e:Nat × α=>(2*e.1+1,e.2))
      refine (List.Perm.append_left _ (h3.append_right _)).trans ?_
      cases y with
      | none=>exact List.Perm.refl _
      | some y =>
       simp only [List.map_append,List.map_cons,List.map_nil,show (2*(k / 2)+1,y)=(k,y) by rw [← e]]
       exact List.perm_middle
   | false =>
    rw [ho,cond_false] at h
    obtain ⟨q,h1,h2⟩:=Tr.ents_get h
    have e:=ql hk ho
    refine ⟨(match v with | some x=>[(0,x)] | none=>[])++(l.ents.map (fun e=>(2*e.1+1,e.2))++q.map (fun e=>(2*e.1+2,e.2))),?_,fun fuel y hf=>?_⟩
    ·simp only [Tr.ents]
     have h3:=h1.map (fun e:Nat × α=>(2*e.1+2,e.2))
     rw [List.map_cons,show (2*(k / 2 - 1)+2,x)=(k,x) by rw [← e]] at h3
     rw [← List.append_assoc,← List.append_assoc]
     exact (List.Perm.append_left _ h3).trans List.perm_middle
    ·cases fuel with
     | zero=>omega
     | succ fuel =>
      rw [Tr.put_succ]
      simp only [hk0,ho,cond_false,Tr.ents]
      have h3:=(h2 fuel y (by omega)).map (fun e:Nat × α=>(2*e.1+2,e.2))
      refine (List.Perm.append_left _ (List.Perm.append_left _ h3)).trans ?_
      cases y with
      | none=>exact List.Perm.refl _
      | some y =>
       simp only [List.map_append,List.map_cons,List.map_nil,show (2*(k / 2 - 1)+2,y)=(k,y) by rw [← e]]
       simp only [← List.append_assoc]
       refine (List.Perm.append_right _ List.perm_append_comm).trans ?_
       simp
theorem Tr.ents_new {α:Type}:∀ (fuel:Nat) (t:Tr α) (k:Nat) (x:α),k < fuel→t.get k=none→(Tr.put fuel t k (some x)).ents.Perm ((k,x)::t.ents)
 | 0,_,_,_,h,_=>by omega
 | fuel+1,t,k,x,hf,h=>by
  rw [Tr.put_succ]
  by_cases hk:k=0
  ·subst hk
   cases t with
   | nil=>simp [Tr.ents]
   | node l v r =>
    rw [Tr.get_node] at h
    simp only [Yh,cond_true] at h
    subst h
    simp [Tr.ents]
  ·have hk0:=beq0 hk
   cases ho:Nat.beq (k % 2) 1 with
   | true =>
    have e:=yn ho
    cases t with
    | nil =>
     simp only [hk0,cond_false,cond_true,Tr.ents]
     have h3:=(Tr.ents_new fuel .nil (k / 2) x (by omega) rfl).map (fun e:Nat × α=>(2*e.1+1,e.2))
     simp only [Tr.ents,List.map_cons,List.map_nil,show (2*(k / 2)+1,x)=(k,x) by rw [← e]] at h3
     simpa using h3
    | node l v r =>
     rw [Tr.get_node,hk0,cond_false,ho,cond_true] at h
     simp only [hk0,cond_false,cond_true,Tr.ents]
     have h3:=(Tr.ents_new fuel l (k / 2) x (by omega) h).map (fun e:Nat × α=>(2*e.1+1,e.2))
     simp only [List.map_cons,show (2*(k / 2)+1,x)=(k,x) by rw [← e]] at h3
     exact (List.Perm.append_left _ (h3.append_right _)).trans List.perm_middle
   | false =>
    have e:=ql hk ho
    cases t with
    | nil =>
     simp only [hk0,cond_false,Tr.ents]
     have h3:=(Tr.ents_new fuel .nil (k / 2 - 1) x (by omega) rfl).map (fun e:Nat × α=>(2*e.1+2,e.2))
     simp only [Tr.ents,List.map_cons,List.map_nil,show (2*(k / 2 - 1)+2,x)=(k,x) by rw [← e]] at h3
     simpa using h3
    | node l v r =>
     rw [Tr.get_node,hk0,cond_false,ho,cond_false] at h
     simp only [hk0,cond_false,Tr.ents]
     have h3:=(Tr.ents_new fuel r (k / 2 - 1) x (by omega) h).map (fun e:Nat × α=>(2*e.1+2,e.2))
     simp only [List.map_cons,show (2*(k / 2 - 1)+2,x)=(k,x) by rw [← e]] at h3
     rw [← List.append_assoc,← List.append_assoc]
     exact (List.Perm.append_left _ h3).trans List.perm_middle
end Go.Gx

/- Values and slots as a run by the kernel keeps them, and what they stand for. No condition. -/
namespace Go.Gx
open Go.Hp
inductive C where
 | bo (x:Bool)
 | it (k:IntKind) (n:Int)
 | pn
 | pt (l o:Nat)
 | gl (m o:Nat)
 | sn
 | sl (l o j n:Nat)
 | fn (m:Nat) (cs:List (Nat × Nat))
 | st (s:ByteArray)
 | nf
inductive GV where
 | one (x:C)
 | agg (cs:List C)
inductive SV where
 | one (x:GV)
 | tup (xs:List GV)
structure Lv where
 b:Nat
 o:Nat
 c:Nat
 pad:List Value
structure Phi where
 l:List Lv
 j:MH
def Phi.snoc (φ:Phi) (d:Lv):Phi:=⟨φ.l++[d],φ.j⟩
def ptrs (φ:Phi):List (Nat × Nat)→Option (List Value)
 | []=>some []
 | (l,o)::r=>match φ.l[l]? with
  | some d=>match ptrs φ r with
   | some vs=>some (.pointer (some ⟨d.b,d.o+o,none⟩)::vs)
   | none=>none
  | none=>none
def C.den (φ:Phi):C→Option Value
 | .bo x=>some (.bool x)
 | .it k n=>some (.int k n)
 | .pn=>some (.pointer none)
 | .pt l o=>match φ.l[l]? with
  | some d=>some (.pointer (some ⟨d.b,d.o+o,none⟩))
  | none=>none
 | .gl m o=>some (.pointer (some ⟨m,o,none⟩))
 | .sn=>some (.slice none 0 0)
 | .sl l o j n=>match φ.l[l]? with
  | some d=>some (.slice (some ⟨d.b,d.o+o,none⟩) n (d.c - j))
  | none=>none
 | .st s=>some (.string s)
 | .nf=>some .nilFunc
 | .fn m cs=>match ptrs φ cs with
  | some vs=>some (.func (.func m) #[] vs.toArray)
  | none=>none
def dens (φ:Phi):List C→Option (List Value)
 | []=>some []
 | c::r=>match c.den φ with
  | some v=>match dens φ r with
   | some vs=>some (v::vs)
   | none=>none
  | none=>none
def GV.den (φ:Phi):GV→Option Value
 | .one x=>x.den φ
 | .agg cs=>match dens φ cs with
  | some vs=>some (.agg vs.toArray)
  | none=>none
def gdens (φ:Phi):List GV→Option (List Value)
 | []=>some []
 | c::r=>match c.den φ with
  | some v=>match gdens φ r with
   | some vs=>some (v::vs)
   | none=>none
  | none=>none
def SV.den (φ:Phi):SV→Option Value
 | .one x=>x.den φ
 | .tup xs=>match gdens φ xs with
  | some vs=>some (.tuple vs.toArray)
  | none=>none
def GV.cells:GV→List C
 | .one x=>[x]
 | .agg cs=>cs
structure Le (φ ψ:Phi):Prop where
 g:∀ (l:Nat) (d:Lv),φ.l[l]?=some d→ψ.l[l]?=some d
 j:∃ J,ψ.j=J++φ.j
theorem Le.refl (φ:Phi):Le φ φ:=⟨fun _ _ h=>h,[],rfl⟩
theorem Le.trans {a b c:Phi} (h:Le a b) (k:Le b c):Le a c:=⟨fun l d hd=>k.g l d (h.g l d hd),by
 obtain ⟨J1,h1⟩:=h.j
 obtain ⟨J2,h2⟩:=k.j
 exact ⟨J2++J1,by rw [h2,h1,List.append_assoc]⟩⟩
theorem Le.snoc (φ:Phi) (d:Lv):Le φ (φ.snoc d):=⟨fun l e h=>by
 simp only [Phi.snoc]
 rw [List.getElem?_append_left (List.getElem?_eq_some_iff.1 h).1]; exact h,[],rfl⟩
theorem Ja (φ:Phi) (d:Lv):(φ.snoc d).l[φ.l.length]?=some d:=by simp [Phi.snoc]
theorem QaF {φ ψ:Phi} (h:Le φ ψ):∀ {l:List (Nat × Nat)} {vs:List Value},ptrs φ l=some vs→ptrs ψ l=some vs
 | [],vs,hv=>hv
 | (l,o)::r,vs,hv=>by
  simp only [ptrs] at hv ⊢
  split at hv
  ·rename_i d hd
   split at hv
   ·rename_i us hu
    rw [h.g l d hd]; simp only [QaF h hu]; exact hv
   ·cases hv
  ·cases hv
theorem C.den_le {φ ψ:Phi} (h:Le φ ψ) {c:C} {v:Value} (hv:c.den φ=some v):c.den ψ=some v:=by
 cases c with
 | pt l o =>
  simp only [C.den] at hv ⊢
  split at hv
  ·rename_i d hd; rw [h.g l d hd]; exact hv
  ·cases hv
 | sl l o j n =>
  simp only [C.den] at hv ⊢
  split at hv
  ·rename_i d hd; rw [h.g l d hd]; exact hv
  ·cases hv
 | fn m cs =>
  simp only [C.den] at hv ⊢
  split at hv
  ·rename_i us hu; rw [QaF h hu]; exact hv
  ·cases hv
 | _=>exact hv
theorem QU {φ ψ:Phi} (h:Le φ ψ):∀ {l:List C} {vs:List Value},dens φ l=some vs→dens ψ l=some vs
 | [],vs,hv=>hv
 | c::r,vs,hv=>by
  simp only [dens] at hv ⊢
  split at hv
  ·rename_i v hc
   split at hv
   ·rename_i us hu
    rw [C.den_le h hc,QU h hu]; exact hv
   ·cases hv
  ·cases hv
theorem GV.den_le {φ ψ:Phi} (h:Le φ ψ) {c:GV} {v:Value} (hv:c.den φ=some v):c.den ψ=some v:=by
 cases c with
 | one x=>exact C.den_le h hv
 | agg cs =>
  simp only [GV.den] at hv ⊢
  split at hv
  ·rename_i vs hc; rw [QU h hc]; exact hv
  ·cases hv
theorem vh {φ ψ:Phi} (h:Le φ ψ):∀ {l:List GV} {vs:List Value},gdens φ l=some vs→gdens ψ l=some vs
 | [],vs,hv=>hv
 | c::r,vs,hv=>by
  simp only [gdens] at hv ⊢
  split at hv
  ·rename_i v hc
   split at hv
   ·rename_i us hu
    rw [GV.den_le h hc,vh h hu]; exact hv
   ·cases hv
  ·cases hv
theorem SV.den_le {φ ψ:Phi} (h:Le φ ψ) {c:SV} {v:Value} (hv:c.den φ=some v):c.den ψ=some v:=by
 cases c with
 | one x=>exact GV.den_le h hv
 | tup xs =>
  simp only [SV.den] at hv ⊢
  split at hv
  ·rename_i vs hc; rw [vh h hc]; exact hv
  ·cases hv
theorem QK {φ:Phi}:∀ {l:List C} {vs:List Value},dens φ l=some vs→vs.length=l.length
 | [],vs,h=>by simp [dens] at h; simp [h]
 | c::r,vs,h=>by
  simp only [dens] at h
  split at h
  ·split at h
   ·rename_i us hu
    simp only [Option.some.injEq] at h
    subst h
    simp [QK hu]
   ·cases h
  ·cases h
theorem YU {φ:Phi} {c:C} {r:List C} {v:Value} {vs:List Value} (h:c.den φ=some v) (hs:dens φ r=some vs):dens φ (c::r)=some (v::vs):=by
 simp [dens,h,hs]
theorem JL {φ:Phi} {c:C} {r:List C} {vs:List Value} (h:dens φ (c::r)=some vs):∃ u us,c.den φ=some u∧dens φ r=some us∧vs=u::us:=by
 simp only [dens] at h
 split at h
 ·rename_i u hu
  split at h
  ·rename_i us hus
   simp only [Option.some.injEq] at h
   exact ⟨u,us,hu,hus,h.symm⟩
  ·cases h
 ·cases h
theorem JO {φ:Phi}:∀ {a b:List C} {vs us:List Value},dens φ a=some vs→dens φ b=some us→dens φ (a++b)=some (vs++us)
 | [],b,vs,us,ha,hb=>by simp [dens] at ha; subst ha; simpa using hb
 | c::r,b,vs,us,ha,hb=>by
  obtain ⟨u,ws,h1,h2,rfl⟩:=JL ha
  exact YU h1 (JO h2 hb)
theorem qD {φ:Phi}:∀ {l:List C} {vs:List Value} {n:Nat} {c:C},dens φ l=some vs→nth l n=some c→∃ v,c.den φ=some v∧nth vs n=some v
 | [],_,n,c,_,h=>by simp [nth] at h
 | c::r,vs,0,d,hv,h=>by
  obtain ⟨u,us,h1,h2,rfl⟩:=JL hv
  simp only [nth,Option.some.injEq] at h
  subst h
  exact ⟨u,h1,rfl⟩
 | c::r,vs,n+1,d,hv,h=>by
  obtain ⟨u,us,h1,h2,rfl⟩:=JL hv
  obtain ⟨v,h3,h4⟩:=qD (n:=n) h2 h
  exact ⟨v,h3,h4⟩
theorem Yi {φ:Phi}:∀ {l:List C} {vs:List Value} (n:Nat),dens φ l=some vs→dens φ (l.drop n)=some (vs.drop n)
 | l,vs,0,h=>by simpa using h
 | [],vs,n+1,h=>by simp [dens] at h; subst h; simp [dens]
 | c::r,vs,n+1,h=>by
  obtain ⟨u,us,h1,h2,rfl⟩:=JL h
  simpa using Yi n h2
theorem Ye {φ:Phi}:∀ {l:List C} {vs:List Value} (n:Nat),dens φ l=some vs→dens φ (l.take n)=some (vs.take n)
 | l,vs,0,h=>by simp [dens]
 | [],vs,n+1,h=>by simp [dens] at h; subst h; simp [dens]
 | c::r,vs,n+1,h=>by
  obtain ⟨u,us,h1,h2,rfl⟩:=JL h
  simpa using YU h1 (Ye n h2)
theorem QN {φ:Phi} {c:GV} {r:List GV} {vs:List Value} (h:gdens φ (c::r)=some vs):∃ u us,c.den φ=some u∧gdens φ r=some us∧vs=u::us:=by
 simp only [gdens] at h
 split at h
 ·rename_i u hu
  split at h
  ·rename_i us hus
   simp only [Option.some.injEq] at h
   exact ⟨u,us,hu,hus,h.symm⟩
  ·cases h
 ·cases h
theorem JM {φ:Phi} {c:GV} {r:List GV} {v:Value} {vs:List Value} (h:c.den φ=some v) (hs:gdens φ r=some vs):gdens φ (c::r)=some (v::vs):=by
 simp [gdens,h,hs]
theorem YN {φ:Phi}:∀ {l:List GV} {vs:List Value},gdens φ l=some vs→vs.length=l.length
 | [],vs,h=>by simp [gdens] at h; simp [h]
 | c::r,vs,h=>by
  obtain ⟨u,us,h1,h2,rfl⟩:=QN h
  simp [YN h2]
theorem jK {φ:Phi}:∀ {l:List GV} {vs:List Value} {n:Nat} {c:GV},gdens φ l=some vs→nth l n=some c→∃ v,c.den φ=some v∧nth vs n=some v
 | [],_,n,c,_,h=>by simp [nth] at h
 | c::r,vs,0,d,hv,h=>by
  obtain ⟨u,us,h1,h2,rfl⟩:=QN hv
  simp only [nth,Option.some.injEq] at h
  subst h
  exact ⟨u,h1,rfl⟩
 | c::r,vs,n+1,d,hv,h=>by
  obtain ⟨u,us,h1,h2,rfl⟩:=QN hv
  obtain ⟨v,h3,h4⟩:=jK (n:=n) h2 h
  exact ⟨v,h3,h4⟩
theorem C.cells {φ:Phi} {c:C} {v:Value} (h:c.den φ=some v):v.cells = #[v]∧v.oneCell'=true:=by
 cases c with
 | pt l o =>
  simp only [C.den] at h
  split at h
  ·simp only [Option.some.injEq] at h; subst h; exact ⟨rfl,rfl⟩
  ·cases h
 | sl l o j n =>
  simp only [C.den] at h
  split at h
  ·simp only [Option.some.injEq] at h; subst h; exact ⟨rfl,rfl⟩
  ·cases h
 | fn m cs =>
  simp only [C.den] at h
  split at h
  ·simp only [Option.some.injEq] at h; subst h; exact ⟨rfl,rfl⟩
  ·cases h
 | _=>simp only [C.den,Option.some.injEq] at h; subst h; exact ⟨rfl,rfl⟩
theorem qO {φ:Phi}:∀ {l:List C} {vs:List Value},dens φ l=some vs→vs.all Value.oneCell'=true
 | [],vs,h=>by simp [dens] at h; subst h; rfl
 | c::r,vs,h=>by
  obtain ⟨u,us,h1,h2,rfl⟩:=JL h
  simp only [List.all_cons,(C.cells h1).2,qO h2,Bool.and_self]
theorem GV.cells_den {φ:Phi} {x:GV} {v:Value} (h:x.den φ=some v):dens φ x.cells=some v.cells.toList:=by
 cases x with
 | one c =>
  have h':c.den φ=some v:=h
  rw [(C.cells h').1]
  exact YU h' rfl
 | agg cs =>
  simp only [GV.den] at h
  split at h
  ·rename_i vs hc
   simp only [Option.some.injEq] at h
   subst h
   simpa [GV.cells,Value.cells] using hc
  ·cases h
def ER (φ:Phi) (env:Tr SV) (E:Env):Prop:=∀ t v,env.get t=some v→∃ x,v.den φ=some x∧lk E t=some x
theorem ER.le {φ ψ:Phi} {env:Tr SV} {E:Env} (h:ER φ env E) (hl:Le φ ψ):ER ψ env E:=fun t v hv=>by
 obtain ⟨x,h1,h2⟩:=h t v hv
 exact ⟨x,SV.den_le hl h1,h2⟩
def ofC:Value→Option C
 | .bool x=>some (.bo x)
 | .int k n=>some (.it k n)
 | .pointer none=>some .pn
 | .slice none 0 0=>some .sn
 | .string s=>some (.st s)
 | .nilFunc=>some .nf
 | _=>none
def ofCs:List Value→Option (List C)
 | []=>some []
 | v::r=>match ofC v with
  | some c=>match ofCs r with
   | some cs=>some (c::cs)
   | none=>none
  | none=>none
def ofV:Value→Option GV
 | .agg cs=>match ofCs cs.toList with
  | some l=>some (.agg l)
  | none=>none
 | v=>match ofC v with
  | some c=>some (.one c)
  | none=>none
theorem Qat {φ:Phi} {v:Value} {c:C} (h:ofC v=some c):c.den φ=some v:=by
 unfold ofC at h
 split at h<;>simp only [Option.some.injEq,reduceCtorEq] at h<;>subst h<;>rfl
theorem Yx {φ:Phi}:∀ {l:List Value} {cs:List C},ofCs l=some cs→dens φ cs=some l
 | [],cs,h=>by simp [ofCs] at h; subst h; rfl
 | v::r,cs,h=>by
  simp only [ofCs] at h
  split at h
  ·rename_i c hc
   split at h
   ·rename_i us hu
    simp only [Option.some.injEq] at h
    subst h
    exact YU (Qat hc) (Yx hu)
   ·cases h
  ·cases h
theorem QeQ {φ:Phi} {v:Value} {x:GV} (h:ofV v=some x):x.den φ=some v:=by
 unfold ofV at h
 split at h
 ·split at h
  ·rename_i l hl
   simp only [Option.some.injEq] at h
   subst h
   simp [GV.den,Yx hl]
  ·cases h
 ·split at h
  ·rename_i c hc
   simp only [Option.some.injEq] at h
   subst h
   exact Qat hc
  ·cases h
noncomputable def evG (env:Tr SV):Operand→Option SV
 | .tmp t=>env.get t
 | .const v=>match ofV v with
  | some x=>some (.one x)
  | none=>none
 | .global g=>some (.one (.one (.gl g 0)))
 | .func f=>some (.one (.one (.fn f [])))
theorem Qh {φ:Phi} {env:Tr SV} {E:Env} (h:ER φ env E) {x:Operand} {v:SV} (hv:evG env x=some v):∃ y,v.den φ=some y∧ev E x=some y:=by
 cases x with
 | tmp t=>exact h t v hv
 | const u =>
  simp only [evG] at hv
  split at hv
  ·rename_i y hy
   simp only [Option.some.injEq] at hv
   subst hv
   exact ⟨u,QeQ hy,rfl⟩
  ·cases hv
 | global g=>simp only [evG,Option.some.injEq] at hv; subst hv; exact ⟨_,rfl,rfl⟩
 | func f=>simp only [evG,Option.some.injEq] at hv; subst hv; exact ⟨_,rfl,rfl⟩
noncomputable def evGs (env:Tr SV):List Operand→Option (List GV)
 | []=>some []
 | x::r=>match evG env x with
  | some (.one v)=>match evGs env r with
   | some vs=>some (v::vs)
   | none=>none
  | _=>none
theorem qb {φ:Phi} {env:Tr SV} {E:Env} (h:ER φ env E):∀ {l:List Operand} {vs:List GV},evGs env l=some vs→∃ ys,gdens φ vs=some ys∧evs E l=some ys
 | [],vs,hv=>by simp [evGs] at hv; subst hv; exact ⟨[],rfl,rfl⟩
 | x::r,vs,hv=>by
  simp only [evGs] at hv
  split at hv
  ·rename_i v hx
   split at hv
   ·rename_i us hu
    simp only [Option.some.injEq] at hv
    subst hv
    obtain ⟨y,h1,h2⟩:=Qh h hx
    obtain ⟨ys,h3,h4⟩:=qb h hu
    exact ⟨y::ys,JM h1 h3,by simp [evs,h2,h4]⟩
   ·cases hv
  ·cases hv
end Go.Gx

/- Machine integers in runs by the kernel. No condition. -/
namespace Go.Gx
open Go.Hp
noncomputable def frN {α:Type} (n:Nat) (k:Nat→α):α:=Nat.rec (motive:=fun _=>α) (k 0) (fun m _=>k (Nat.succ m)) n
theorem Qy {α:Type} (n:Nat) (k:Nat→α):frN n k=k n:=by cases n<;>rfl
noncomputable def frI {α:Type} (z:Int) (k:Int→α):α:=Int.rec (motive:=fun _=>α) (fun n=>frN n fun n=>k (.ofNat n)) (fun n=>frN n fun n=>k (.negSucc n)) z
theorem Qz {α:Type} (z:Int) (k:Int→α):frI z k=k z:=by
 cases z with
 | ofNat n=>exact Qy n (fun n=>k (.ofNat n))
 | negSucc n=>exact Qy n (fun n=>k (.negSucc n))
def inR (k:IntKind) (z:Int):Bool:=match k with
 | .i64=>(match z with | .ofNat n=>Nat.ble n 9223372036854775807 | .negSucc n=>Nat.ble n 9223372036854775807)
 | .u64=>(match z with | .ofNat n=>Nat.ble n 18446744073709551615 | .negSucc _=>false)
 | .u32=>(match z with | .ofNat n=>Nat.ble n 4294967295 | .negSucc _=>false)
 | .u8=>(match z with | .ofNat n=>Nat.ble n 255 | .negSucc _=>false)
 | _=>false
theorem qS {k:IntKind} {z:Int} (h:inR k z=true):k.wrap z=z:=by
 cases k<;>simp only [inR,reduceCtorEq,Bool.false_eq_true] at h
 ·cases z with
  | ofNat n=>have:=Nat.le_of_ble_eq_true h; exact IntWalk.i64_in (n:Int) (by omega)
  | negSucc n=>have:=Nat.le_of_ble_eq_true h; exact IntWalk.i64_in _ (by omega)
 ·cases z with
  | ofNat n=>have:=Nat.le_of_ble_eq_true h; exact IntWalk.u8_in (n:Int) (by omega)
  | negSucc n=>cases h
 ·cases z with
  | ofNat n=>have:=Nat.le_of_ble_eq_true h; exact IntWalk.u32_in (n:Int) (by omega)
  | negSucc n=>cases h
 ·cases z with
  | ofNat n=>have:=Nat.le_of_ble_eq_true h; exact IntWalk.u64_in (n:Int) (by omega)
  | negSucc n=>cases h
def wrp (k:IntKind) (z:Int):Int:=bif inR k z then z else match k,z with
 | .u64,.ofNat n => .ofNat (n % 18446744073709551616)
 | .u32,.ofNat n => .ofNat (n % 4294967296)
 | k,z=>k.wrap z
theorem Jn (k:IntKind) (z:Int):wrp k z=k.wrap z:=by
 unfold wrp
 cases h:inR k z
 ·simp only [cond_false]
  split
  ·rename_i n; rw [yG]; rfl
  ·rename_i n; rw [IntKind.wrap_u32]; rfl
  ·rfl
 ·simp only [cond_true]; exact (qS h).symm
def ieq:Int→Int→Bool
 | .ofNat m,.ofNat n=>Nat.beq m n
 | .negSucc m,.negSucc n=>Nat.beq m n
 | _,_=>false
def ilt:Int→Int→Bool
 | .ofNat m,.ofNat n=>Nat.blt m n
 | .negSucc m,.negSucc n=>Nat.blt n m
 | .negSucc _,.ofNat _=>true
 | .ofNat _,.negSucc _=>false
theorem Qac (a b:Int):ieq a b=dec (a=b):=by
 rw [Jt]
 rw [Bool.eq_iff_iff,decide_eq_true_iff]
 cases a<;>cases b<;>simp only [ieq,Nat.beq_eq,reduceCtorEq,Bool.false_eq_true,Int.ofNat_eq_natCast]<;>omega
theorem Yz (a b:Int):ilt a b=dec (a < b):=by
 rw [Jt,Bool.eq_iff_iff,decide_eq_true_iff]
 cases a with
 | ofNat m=>cases b with
  | ofNat n=>simp only [ilt,Nat.blt_eq,Int.ofNat_eq_natCast]; omega
  | negSucc n=>simp only [ilt,Bool.false_eq_true,false_iff,Int.ofNat_eq_natCast]; omega
 | negSucc m=>cases b with
  | ofNat n=>simp only [ilt,true_iff,Int.ofNat_eq_natCast]; omega
  | negSucc n=>simp only [ilt,Nat.blt_eq]; omega
def bmax:IntKind→Option Nat
 | .u8=>some 8 | .u16=>some 16 | .u32=>some 32 | .u64=>some 64 | .i64=>some 63 | _=>none
def gbit (op:BinOp) (k:IntKind):Int→Int→Option Int
 | .ofNat m,.ofNat n=>match bmax k with
  | some s=>bif Nat.blt m (Nat.pow 2 s) && Nat.blt n (Nat.pow 2 s) then (match op with
   | .and=>some (.ofNat (Nat.land m n))
   | .or=>some (.ofNat (Nat.lor m n))
   | .xor=>some (.ofNat (Nat.xor m n))
   | _=>none) else none
  | none=>none
 | _,_=>none
theorem Qcx {k:IntKind} {s m:Nat} (h:bmax k=some s) (hm:m < 2 ^ s):(BitVec.ofInt k.bits (Int.ofNat m)).toNat=m:=by
 have e:BitVec.ofInt k.bits (Int.ofNat m)=BitVec.ofNat k.bits m:=BitVec.ofInt_natCast ..
 rw [e,BitVec.toNat_ofNat]
 refine Nat.mod_eq_of_lt ?_
 cases k<;>simp only [bmax,Option.some.injEq,reduceCtorEq] at h<;>subst h<;>simp only [IntKind.bits]<;>omega
theorem qw {k:IntKind} {s m:Nat} (h:bmax k=some s) (hm:m < 2 ^ s):k.wrap (m:Int)=(m:Int):=by
 cases k<;>simp only [bmax,Option.some.injEq,reduceCtorEq] at h<;>subst h
 ·exact IntWalk.i64_in _ (by omega)
 ·exact IntWalk.u8_in _ (by omega)
 ·exact IntWalk.u16_in _ (by omega)
 ·exact IntWalk.u32_in _ (by omega)
 ·exact IntWalk.u64_in _ (by omega)
theorem QeH {op:BinOp} {k:IntKind} {a b r:Int} (h:gbit op k a b=some r):bitOp op k a b=some (.int k r):=by
 unfold gbit at h
 split at h
 ·rename_i m n
  split at h
  ·rename_i s hs
   by_cases hc:(Nat.blt m (Nat.pow 2 s) && Nat.blt n (Nat.pow 2 s))=true
   ·rw [hc,cond_true] at h
    simp only [Bool.and_eq_true,Nat.blt_eq] at hc
    obtain ⟨h1,h2⟩:=hc
    have h1':m < 2 ^ s:=h1
    have h2':n < 2 ^ s:=h2
    have e1:=Qcx hs h1'
    have e2:=Qcx hs h2'
    split at h<;>simp only [Option.some.injEq,reduceCtorEq] at h<;>subst h
    ·simp only [bitOp,BitVec.toNat_and,e1,e2]
     exact congrArg (fun z=>some (Value.int k z)) (qw hs (Nat.and_lt_two_pow m h2'))
    ·simp only [bitOp,BitVec.toNat_or,e1,e2]
     exact congrArg (fun z=>some (Value.int k z)) (qw hs (Nat.or_lt_two_pow h1' h2'))
    ·simp only [bitOp,BitVec.toNat_xor,e1,e2]
     exact congrArg (fun z=>some (Value.int k z)) (qw hs (Nat.xor_lt_two_pow h1' h2'))
   ·rw [Bool.eq_false_iff.2 hc] at h; cases h
  ·cases h
 ·cases h
def gsh (op:BinOp) (k:IntKind) (a:Int):Int→Option Int
 | .ofNat n=>match op with
  | .shl=>some (wrp k (Int.mul a (.ofNat (Nat.pow 2 (bif Nat.ble n k.bits then n else k.bits)))))
  | .shr=>some (Int.fdiv a (.ofNat (Nat.pow 2 (bif Nat.ble n k.bits then n else k.bits))))
  | _=>none
 | .negSucc _=>none
theorem Qfn (n m:Nat):(bif Nat.ble n m then n else m)=min n m:=by
 cases h:Nat.ble n m
 ·simp only [cond_false]
  have:¬ n≤m:=fun e=>by rw [Nat.ble_eq_true_of_le e] at h; cases h
  omega
 ·have:=Nat.le_of_ble_eq_true h
  simp only [cond_true]; omega
theorem QfT {op:BinOp} {k:IntKind} {a b r:Int} (h:gsh op k a b=some r):shOp op k a b=some (.int k r):=by
 unfold gsh at h
 split at h
 ·rename_i n
  have e:((2:Int) ^ (min n k.bits))=Int.ofNat (Nat.pow 2 (min n k.bits)):=by
   have:=Int.natCast_pow 2 (min n k.bits)
   exact this.symm
  have hn:¬ (Int.ofNat n:Int) < 0:=by simp
  split at h<;>simp only [Option.some.injEq,reduceCtorEq] at h<;>subst h
  ·simp only [shOp,hn,decide_false,cond_false]
   rw [Jn,Qfn]
   have:(Int.ofNat n).toNat=n:=rfl
   rw [this,e]; rfl
  ·simp only [shOp,hn,decide_false,cond_false]
   rw [Qfn]
   have:(Int.ofNat n).toNat=n:=rfl
   rw [this,e]
 ·cases h
noncomputable def gint (op:BinOp) (k:IntKind) (a b:Int):Option C :=
 match op with
 | .add=>frI (wrp k (Int.add a b)) fun z=>some (.it k z)
 | .sub=>frI (wrp k (Int.sub a b)) fun z=>some (.it k z)
 | .mul=>frI (wrp k (Int.mul a b)) fun z=>some (.it k z)
 | .eql=>some (.bo (ieq a b))
 | .neq=>some (.bo (!ieq a b))
 | .lss=>some (.bo (ilt a b))
 | .leq=>some (.bo (!ilt b a))
 | .gtr=>some (.bo (ilt b a))
 | .geq=>some (.bo (!ilt a b))
 | .quo=>bif ieq b (.ofNat 0) then none else frI (wrp k (Int.tdiv a b)) fun z=>some (.it k z)
 | .rem=>bif ieq b (.ofNat 0) then none else frI (Int.tmod a b) fun z=>some (.it k z)
 | .shl=>none
 | .shr=>none
 | _=>match gbit op k a b with
  | some z=>frI z fun z=>some (.it k z)
  | none=>none
theorem ya {p q:Prop} [Decidable p] [Decidable q] (h:q↔¬ p):(!dec p)=dec q:=by
 rw [Jt,Jt,Bool.eq_iff_iff]; simp [h]
theorem yX {P:Program} {w:World} {op:BinOp} {t:TypeId} {k:IntKind} {a b:Int} {c:C} (h:gint op k a b=some c):∃ v,(∀ φ,c.den φ=some v)∧(binOp op t (.int k a) (.int k b)).run P w = .ok v w:=by
 have key:∀ v:Value,intOp op k a b=some v→(∀ φ,c.den φ=some v)→isSh op=false→∃ v,(∀ φ,c.den φ=some v)∧(binOp op t (.int k a) (.int k b)).run P w = .ok v w :=
  fun v hv hc hs=>⟨v,hc,Yj hv hs⟩
 have e0:∀ b:Int,ieq b (.ofNat 0)=(b == 0):=fun b=>by rw [Qac,Jt]; rfl
 unfold gint at h
 split at h
 ·rw [Qz,Option.some.injEq] at h; subst h
  exact key _ rfl (fun φ=>by rw [Jn]; rfl) rfl
 ·rw [Qz,Option.some.injEq] at h; subst h
  exact key _ rfl (fun φ=>by rw [Jn]; rfl) rfl
 ·rw [Qz,Option.some.injEq] at h; subst h
  exact key _ rfl (fun φ=>by rw [Jn]; rfl) rfl
 ·rw [Option.some.injEq] at h; subst h
  exact key _ rfl (fun φ=>by rw [Qac]; rfl) rfl
 ·rw [Option.some.injEq] at h; subst h
  exact key _ rfl (fun φ=>by rw [Qac,ya (Iff.rfl)]; rfl) rfl
 ·rw [Option.some.injEq] at h; subst h
  exact key _ rfl (fun φ=>by rw [Yz]; rfl) rfl
 ·rw [Option.some.injEq] at h; subst h
  exact key _ rfl (fun φ=>by rw [Yz,ya (q:=a≤b) (by omega)]; rfl) rfl
 ·rw [Option.some.injEq] at h; subst h
  exact key _ rfl (fun φ=>by rw [Yz]; rfl) rfl
 ·rw [Option.some.injEq] at h; subst h
  exact key _ rfl (fun φ=>by rw [Yz,ya (q:=a ≥ b) (by omega)]; rfl) rfl
 ·rw [e0] at h
  cases hb:b == 0
  ·rw [hb,cond_false,Qz,Option.some.injEq] at h; subst h
   exact key (.int k (k.wrap (a.tdiv b))) (by simp only [intOp,hb,cond_false]) (fun φ=>by rw [Jn]; rfl) rfl
  ·rw [hb] at h; cases h
 ·rw [e0] at h
  cases hb:b == 0
  ·rw [hb,cond_false,Qz,Option.some.injEq] at h; subst h
   exact key (.int k (a.tmod b)) (by simp only [intOp,hb,cond_false]) (fun φ=>rfl) rfl
  ·rw [hb] at h; cases h
 ·cases h
 ·cases h
 ·split at h
  ·rename_i z hz
   rw [Qz,Option.some.injEq] at h; subst h
   exact ⟨_,fun φ=>rfl,Qbj (QeH hz)⟩
  ·cases h
end Go.Gx

/- Operations of runs by the kernel that hang on the slots alone. No condition. -/
namespace Go.Gx
open Go.Hp
structure Tab where
 ty:Tr TI
 ar:Tr (Nat × Nat)
 fn:Tr Unit
 gl:Tr (List C)
structure TabOK (P:Program) (T:TT) (Q:Tab) (U:UH):Prop where
 sym:Sym P T
 ty:∀ t i,Q.ty.get t=some i→lkT T t=some i
 ar:∀ t n e,Q.ar.get t=some (n,e)→P.underlying t=some (.array n e)
 fn:∀ t u,Q.fn.get t=some u→TI.ok P t ⟨.other,1,8,.nilFunc⟩∧∃ a b c,P.underlying t=some (.func a b c)
 gl:∀ g cs (o:Nat) c,Q.gl.get g=some cs→nth cs o=some c→∃ v,(∀ φ,c.den φ=some v)∧U.cell? ⟨g,o,none⟩=some v
noncomputable def tyG (Q:Tab) (t:Nat):Option TI:=match Q.ty.get t with
 | some i=>some i
 | none=>match Q.fn.get t with
  | some _=>some ⟨.other,1,8,.nilFunc⟩
  | none=>none
noncomputable def tk1 (Q:Tab) (t:Nat) (k:TK):Bool:=one k || (match Q.ty.get t,Q.fn.get t with
 | none,some _=>true
 | _,_=>false)
theorem yw {P:Program} {T:TT} {Q:Tab} {U:UH} (h:TabOK P T Q U) {t:Nat} {i:TI} (ht:tyG Q t=some i):TI.ok P t i:=by
 unfold tyG at ht
 split at ht
 ·rename_i j hj
  cases ht
  exact h.sym.at (h.ty _ _ hj)
 ·split at ht
  ·rename_i u hu
   cases ht
   exact (h.fn _ _ hu).1
  ·cases ht
theorem QfU {P:Program} {T:TT} {Q:Tab} {U:UH} (h:TabOK P T Q U) {t:Nat} {i:TI} (ht:tyG Q t=some i) (hk:tk1 Q t i.k=true) (w:World):(isAgg t).run P w = .ok false w:=by
 simp only [tk1,Bool.or_eq_true] at hk
 rcases hk with hk | hk
 ·exact Ya (yw h ht) hk w
 ·split at hk
  ·rename_i u _ hu
   obtain ⟨a,b,c,hd⟩:=(h.fn _ _ hu).2
   simp only [isAgg,Sem.run_bind,Qg hd,Result.andThen_ok]; rfl
  ·cases hk
abbrev one1 (c:C):Option SV:=some (.one (.one c))
def placesG (Q:Tab) (tg:Nat→Option TI):List (Nat × Nat)→Option (List (Nat × Nat))
 | []=>some []
 | (ft,off)::r=>match tg ft with
  | some i=>match placesG Q tg r with
   | some ps=>some ((off,i.size)::ps)
   | none=>none
  | none=>none
noncomputable def evPG (env:Tr SV):List (Nat × Operand)→Option (List (Nat × GV))
 | []=>some []
 | (i,x)::r=>match evG env x with
  | some (.one v)=>match evPG env r with
   | some vs=>some ((i,v)::vs)
   | none=>none
  | _=>none
def setSegC (cs:List C) (off:Nat) (vs:List C):List C:=cs.take off++vs++cs.drop (off+vs.length)
def fillG (ps:List (Nat × Nat)) (cs:List C):List (Nat × GV)→Option (List C)
 | []=>some cs
 | (i,v)::r=>match nth ps i with
  | some (off,size)=>bif Nat.beq v.cells.length size && Nat.ble (off+v.cells.length) cs.length then fillG ps (setSegC cs off v.cells) r else none
  | none=>none
def ptrsOf:List GV→Option (List (Nat × Nat))
 | []=>some []
 | .one (.pt l o)::r=>match ptrsOf r with
  | some ps=>some ((l,o)::ps)
  | none=>none
 | _=>none
def natOf:Int→Option Nat
 | .ofNat n=>some n
 | .negSucc _=>none
noncomputable def pureG (Q:Tab) (env:Tr SV):Op→Option SV
 | .move x | .assign x=>evG env x
 | .pick c a b=>match evG env c with
  | some (.one (.one (.bo true)))=>evG env a
  | some (.one (.one (.bo false)))=>evG env b
  | _=>none
 | .binOp op ty x y _=>match evG env x,evG env y with
  | some (.one (.one (.it k a))),some (.one (.one (.it k' b)))=>bif isSh op then (match gsh op k a b with | some z=>frI z fun z=>one1 (.it k z) | none=>none)
    else bif kEq k k' then (match gint op k a b with | some c=>one1 c | none=>none) else none
  | some (.one (.one (.bo a))),some (.one (.one (.bo b)))=>match op,Q.ty.get ty with
   | .eql,some ⟨.bool,_,_,_⟩=>one1 (.bo (a == b))
   | .neq,some ⟨.bool,_,_,_⟩=>one1 (.bo (!(a == b)))
   | _,_=>none
  | some (.one (.one (.sl ..))),some (.one (.one .sn))=>match op,Q.ty.get ty with
   | .eql,some ⟨.slice _,_,_,_⟩=>one1 (.bo false)
   | .neq,some ⟨.slice _,_,_,_⟩=>one1 (.bo true)
   | _,_=>none
  | some (.one (.one .sn)),some (.one (.one .sn))=>match op,Q.ty.get ty with
   | .eql,some ⟨.slice _,_,_,_⟩=>one1 (.bo true)
   | .neq,some ⟨.slice _,_,_,_⟩=>one1 (.bo false)
   | _,_=>none
  | _,_=>none
 | .unOp op _ x=>match op,evG env x with
  | .neg,some (.one (.one (.it k n)))=>frI (wrp k (Int.neg n)) fun z=>one1 (.it k z)
  | .not,some (.one (.one (.bo b)))=>one1 (.bo (!b))
  | .xor,some (.one (.one (.it k n)))=>frI (wrp k (Int.ofNat (BitVec.ofInt k.bits (if k.signed then -1 else k.max) ^^^ BitVec.ofInt k.bits n).toNat)) fun z=>one1 (.it k z)
  | _,_=>none
 | .extract x i=>match evG env x with
  | some (.tup vs)=>(match nth vs i with | some v=>some (.one v) | none=>none)
  | _=>none
 | .nilCheck x=>match evG env x with
  | some (.one (.one (.pt l o)))=>one1 (.pt l o)
  | _=>none
 | .fieldAddr s x f=>match evG env x,Q.ty.get s with
  | some (.one (.one (.pt l o))),some ⟨.struct fs,_,_,_⟩=>match nth fs f with
   | some (ft,off)=>match Q.ty.get ft with
    | some ⟨_,_+1,_,_⟩=>frN (o+off) fun o=>one1 (.pt l o)
    | _=>none
   | none=>none
  | _,_=>none
 | .convert s d x=>match evG env x,Q.ty.get s,Q.ty.get d with
  | some (.one (.one (.it _ n))),some _,some ⟨.int k,_,_,_⟩=>frI (wrp k n) fun z=>one1 (.it k z)
  | _,_,_=>none
 | .call c=>match c.callee,c.args.toList,c.argTypes.toList with
  | .builtin .len,[x],[t]=>match evG env x,Q.ty.get t with
   | some (.one (.one (.sl _ _ _ n))),some ⟨.slice _,_,_,_⟩=>one1 (.it .i64 (.ofNat n))
   | some (.one (.one .sn)),some ⟨.slice _,_,_,_⟩=>one1 (.it .i64 (.ofNat 0))
   | _,_=>none
  | .builtin .min,[x,y],_=>match evG env x,evG env y with
   | some (.one (.one (.it k a))),some (.one (.one (.it k' b)))=>bif kEq k k' then one1 (.it k (bif ilt b a then b else a)) else none
   | _,_=>none
  | .builtin .max,[x,y],_=>match evG env x,evG env y with
   | some (.one (.one (.it k a))),some (.one (.one (.it k' b)))=>bif kEq k k' then one1 (.it k (bif ilt a b then b else a)) else none
   | _,_=>none
  | .builtin .max,[x,y,z],_=>match evG env x,evG env y,evG env z with
   | some (.one (.one (.it k a))),some (.one (.one (.it _ b))),some (.one (.one (.it _ c)))=>let r:=bif ilt a b then b else a; one1 (.it k (bif ilt r c then c else r))
   | _,_,_=>none
  | .builtin .min,[x,y,z],_=>match evG env x,evG env y,evG env z with
   | some (.one (.one (.it k a))),some (.one (.one (.it _ b))),some (.one (.one (.it _ c)))=>let r:=bif ilt b a then b else a; one1 (.it k (bif ilt c r then c else r))
   | _,_,_=>none
  | _,_,_=>none
 | .build t parts=>match Q.ty.get t with
  | some ⟨.struct fs,_,_,z⟩=>match placesG Q Q.ty.get fs,evPG env parts.toList,ofCs z.cells.toList with
   | some ps,some vs,some zs=>match fillG ps zs vs with
    | some cs=>some (.one (.agg cs))
    | none=>none
   | _,_,_=>none
  | _=>none
 | .indexAddr t x ix=>match evG env x,evG env ix,Q.ty.get t with
  | some (.one (.one (.sl l o _ n))),some (.one (.one (.it _ i))),some ⟨.slice e,_,_,_⟩=>match natOf i,Q.ty.get e with
   | some i,some ⟨_,sz,_,_⟩=>bif Nat.blt i n then frN (o+i*sz) fun o=>one1 (.pt l o) else none
   | _,_=>none
  | some (.one (.one (.gl m o))),some (.one (.one (.it _ i))),_=>match Q.ar.get t with
   | some (n,e)=>match natOf i,Q.ty.get e with
    | some i,some ⟨_,sz,_,_⟩=>bif Nat.blt i n then frN (o+i*sz) fun o=>one1 (.gl m o) else none
    | _,_=>none
   | none=>none
  | _,_,_=>none
 | .makeFunc (.func m) first caps=>match first.toList,evGs env caps.toList with
  | [],some vs=>match ptrsOf vs with
   | some ps=>one1 (.fn m ps)
   | none=>none
  | _,_=>none
 | .index t x ix=>match evG env x,evG env ix,Q.ty.get t with
  | some (.one (.one (.st s))),some (.one (.one (.it _ i))),some ⟨.str,_,_,_⟩=>match natOf i with
   | some i=>match s[i]? with
    | some b=>frN b.toNat fun n=>one1 (.it .u8 (.ofNat n))
    | none=>none
   | none=>none
  | _,_,_=>none
 | _=>none
theorem Ym {i:Int} {n:Nat} (h:natOf i=some n):i=(n:Int):=by
 cases i<;>simp [natOf] at h; subst h; rfl
variable {P:Program} {T:TT} {N:Nat} {G:World} {E:Env} {U:UH} {M:MH} {φ:Phi} {env:Tr SV} {Q:Tab}
theorem Qi {c:C} {x:Value} (h:SV.den φ (.one (.one c))=some x):c.den φ=some x:=h
theorem qJ (hQ:TabOK P T Q U):∀ {fs ps},placesG Q Q.ty.get fs=some ps→places T fs=some ps
 | [],ps,h=>h
 | (ft,off)::r,ps,h=>by
  simp only [placesG,places] at h ⊢
  split at h
  ·rename_i i hi
   rw [hQ.ty _ _ hi]
   split at h
   ·rename_i qs hq
    rw [qJ hQ hq]; exact h
   ·cases h
  ·cases h
def pdens (φ:Phi):List (Nat × GV)→List (Nat × Value)→Prop
 | [],vs=>vs=[]
 | (i,g)::r,vs=>∃ v us,g.den φ=some v∧pdens φ r us∧vs=(i,v)::us
theorem Qah (h:ER φ env E):∀ {l:List (Nat × Operand)} {vs:List (Nat × GV)},evPG env l=some vs→∃ ys,pdens φ vs ys∧evP E l=some ys
 | [],vs,hv=>by simp [evPG] at hv; subst hv; exact ⟨[],rfl,rfl⟩
 | (i,x)::r,vs,hv=>by
  simp only [evPG] at hv
  split at hv
  ·rename_i v hx
   split at hv
   ·rename_i us hu
    simp only [Option.some.injEq] at hv
    subst hv
    obtain ⟨y,h1,h2⟩:=Qh h hx
    obtain ⟨ys,h3,h4⟩:=Qah h hu
    exact ⟨(i,y)::ys,⟨y,ys,h1,h3,rfl⟩,by simp [evP,h2,h4]⟩
   ·cases hv
  ·cases hv
theorem Va {cs:List C} {xs:List Value} {off:Nat} {vs:List C} {us:List Value} (h:dens φ cs=some xs) (hv:dens φ vs=some us):dens φ (setSegC cs off vs)=some (setSeg xs off us):=by
 simp only [setSegC,setSeg,← QK hv]
 exact JO (JO (Ye off h) hv) (Yi _ h)
theorem yQ {ps:List (Nat × Nat)}:∀ {vs:List (Nat × GV)} {cs r:List C} {xs:List Value} {ys:List (Nat × Value)},dens φ cs=some xs→pdens φ vs ys→fillG ps cs vs=some r→∃ zs,dens φ r=some zs∧fillL ps xs ys=some zs
 | [],cs,r,xs,ys,h,hp,hf=>by
  simp only [fillG,Option.some.injEq] at hf
  simp only [pdens] at hp
  subst hf hp
  exact ⟨xs,h,rfl⟩
 | (i,g)::vs,cs,r,xs,ys,h,hp,hf=>by
  obtain ⟨v,us,h1,h2,rfl⟩:=hp
  simp only [fillG] at hf
  split at hf
  ·rename_i off size hps
   by_cases hc:(Nat.beq g.cells.length size && Nat.ble (off+g.cells.length) cs.length)=true
   ·rw [hc,cond_true] at hf
    have hd:=GV.cells_den h1
    obtain ⟨zs,h3,h4⟩:=yQ (Va h hd) h2 hf
    refine ⟨zs,h3,?_⟩
    simp only [fillL,hps]
    have e1:=QK hd
    have e2:=QK h
    rw [e1,e2,hc,cond_true]
    exact h4
   ·rw [Bool.eq_false_iff.2 hc] at hf; cases hf
  ·cases hf
theorem ju:∀ {vs:List GV} {ps:List (Nat × Nat)} {ys:List Value},ptrsOf vs=some ps→gdens φ vs=some ys→ptrs φ ps=some ys
 | [],ps,ys,h,hy=>by simp [ptrsOf] at h; subst h; exact hy
 | .one (.pt l o)::r,ps,ys,h,hy=>by
  simp only [ptrsOf] at h
  split at h
  ·rename_i qs hq
   simp only [Option.some.injEq] at h
   subst h
   obtain ⟨u,us,h1,h2,rfl⟩:=QN hy
   have h1':C.den φ (.pt l o)=some u:=h1
   simp only [C.den] at h1'
   split at h1'
   ·rename_i d hd
    simp only [Option.some.injEq] at h1'
    subst h1'
    simp only [ptrs,hd,ju hq h2]
   ·cases h1'
  ·cases h
 | .one (.bo _)::r,ps,ys,h,hy=>by cases h
 | .one (.it _ _)::r,ps,ys,h,hy=>by cases h
 | .one .pn::r,ps,ys,h,hy=>by cases h
 | .one (.gl _ _)::r,ps,ys,h,hy=>by cases h
 | .one .sn::r,ps,ys,h,hy=>by cases h
 | .one (.sl _ _ _ _)::r,ps,ys,h,hy=>by cases h
 | .one (.fn _ _)::r,ps,ys,h,hy=>by cases h
 | .one (.st _)::r,ps,ys,h,hy=>by cases h
 | .one .nf::r,ps,ys,h,hy=>by cases h
 | .agg _::r,ps,ys,h,hy=>by cases h
theorem qY {l o:Nat} {x:Value} (h:C.den φ (.pt l o)=some x):∃ d,φ.l[l]?=some d∧x = .pointer (some ⟨d.b,d.o+o,none⟩):=by
 simp only [C.den] at h
 split at h
 ·rename_i d hd; simp only [Option.some.injEq] at h; exact ⟨d,hd,h.symm⟩
 ·cases h
theorem Ve {l o j n:Nat} {x:Value} (h:C.den φ (.sl l o j n)=some x):∃ d,φ.l[l]?=some d∧x = .slice (some ⟨d.b,d.o+o,none⟩) n (d.c - j):=by
 simp only [C.den] at h
 split at h
 ·rename_i d hd; simp only [Option.some.injEq] at h; exact ⟨d,hd,h.symm⟩
 ·cases h
theorem QI {k:IntKind} {z:Int} {x:Value} (h:C.den φ (.it k z)=some x):x = .int k z:=by
 simp only [C.den,Option.some.injEq] at h; exact h.symm
theorem YI {b:Bool} {x:Value} (h:C.den φ (.bo b)=some x):x = .bool b:=by
 simp only [C.den,Option.some.injEq] at h; exact h.symm
theorem YA {x:Value} (h:C.den φ .sn=some x):x = .slice none 0 0:=by
 simp only [C.den,Option.some.injEq] at h; exact h.symm
end Go.Gx

/- Operations of runs by the kernel that hang on the slots alone: what they yield is what the machine yields. No condition. -/
namespace Go.Gx
open Go.Hp
variable {P:Program} {T:TT} {N:Nat} {G:World} {E:Env} {U:UH} {M:MH} {φ:Phi} {env:Tr SV} {Q:Tab}
theorem VR {o:Oper} {v:Value} (h:∀ a w,Has a N E→(execOp a.eval o).run P w = .ok (.value v) w):Yl P N G o E U M v:=⟨fun a w ha _=>h a w ha⟩
theorem QaU {α:Type} (p:Prop) [Decidable p] (a b:α):(bif decide p then a else b)=if p then a else b:=by by_cases h:p<;>simp [h]
theorem QbJ (hQ:TabOK P T Q U) (hE:ER φ env E) {o:Oper} {v:SV} (h:pureG Q env o.op=some v):∃ x,v.den φ=some x∧Yl P N G o E U M x:=by
 generalize ho:o.op=op at h
 cases op<;>simp only [pureG,reduceCtorEq] at h
 case move x =>
  obtain ⟨y,h1,h2⟩:=Qh hE h
  exact ⟨y,h1,Qq hQ.sym (by rw [ho]; exact h2)⟩
 case assign x =>
  obtain ⟨y,h1,h2⟩:=Qh hE h
  exact ⟨y,h1,Qq hQ.sym (by rw [ho]; exact h2)⟩
 case pick c a b =>
  split at h
  ·rename_i hc
   obtain ⟨z,h3,h4⟩:=Qh hE hc
   obtain rfl:=YI (Qi h3)
   obtain ⟨y,h1,h2⟩:=Qh hE h
   exact ⟨y,h1,Qq hQ.sym (by rw [ho]; simp only [pureOp,h4,h2])⟩
  ·rename_i hc
   obtain ⟨z,h3,h4⟩:=Qh hE hc
   obtain rfl:=YI (Qi h3)
   obtain ⟨y,h1,h2⟩:=Qh hE h
   exact ⟨y,h1,Qq hQ.sym (by rw [ho]; simp only [pureOp,h4,h2])⟩
  ·cases h
 case binOp op ty x y yt =>
  split at h
  ·rename_i k a k' b hx hy
   obtain ⟨z1,h1,h2⟩:=Qh hE hx
   obtain rfl:=QI (Qi h1)
   obtain ⟨z2,h3,h4⟩:=Qh hE hy
   obtain rfl:=QI (Qi h3)
   cases hs:isSh op
   ·rw [hs,cond_false] at h
    cases hk:kEq k k'
    ·rw [hk] at h; cases h
    ·rw [hk,cond_true] at h
     obtain rfl:=Jr hk
     split at h
     ·rename_i c hc
      simp only [one1,Option.some.injEq] at h
      subst h
      obtain ⟨v,h5,-⟩:=yX (P:=P) (w:=default) (t:=ty) hc
      refine ⟨v,h5 φ,VR fun ac w ha=>?_⟩
      obtain ⟨v',h5',h6⟩:=yX (P:=P) (w:=w) (t:=ty) hc
      have e:=(h5 φ).symm.trans (h5' φ)
      simp only [Option.some.injEq] at e
      subst e
      simp only [execOp,ho]
      refine QT ?_
      simp only [ha.eval h2,ha.eval h4,Sem.run_bind,Ji,Result.andThen_ok,h6]
     ·cases h
   ·rw [hs,cond_true] at h
    split at h
    ·rename_i z hz
     rw [Qz] at h
     simp only [one1,Option.some.injEq] at h
     subst h
     have h7:=QfT hz
     refine ⟨_,rfl,VR fun ac w ha=>?_⟩
     simp only [execOp,ho]
     refine QT ?_
     simp only [ha.eval h2,ha.eval h4,Sem.run_bind,Ji,Result.andThen_ok]
     have:=Qdg (P:=P) (w:=w) (k':=k') h7
     cases op<;>simp [isSh] at hs<;>simpa [binOp] using this
    ·cases h
  ·rename_i a b hx hy
   obtain ⟨z1,h1,h2⟩:=Qh hE hx
   obtain rfl:=YI (Qi h1)
   obtain ⟨z2,h3,h4⟩:=Qh hE hy
   obtain rfl:=YI (Qi h3)
   split at h
   ·rename_i ht
    simp only [one1,Option.some.injEq] at h
    subst h
    exact ⟨_,rfl,Qq hQ.sym (by rw [ho]; simp only [pureOp,h2,h4,hQ.ty _ _ ht])⟩
   ·rename_i ht
    simp only [one1,Option.some.injEq] at h
    subst h
    exact ⟨_,rfl,Qq hQ.sym (by rw [ho]; simp only [pureOp,h2,h4,hQ.ty _ _ ht])⟩
   ·cases h
  ·rename_i hx hy
   obtain ⟨z1,h1,h2⟩:=Qh hE hx
   obtain ⟨d,-,rfl⟩:=Ve (Qi h1)
   obtain ⟨z2,h3,h4⟩:=Qh hE hy
   obtain rfl:=YA (Qi h3)
   split at h
   ·rename_i ht
    simp only [one1,Option.some.injEq] at h
    subst h
    exact ⟨_,rfl,Qq hQ.sym (by rw [ho]; simp only [pureOp,h2,h4,hQ.ty _ _ ht]; rfl)⟩
   ·rename_i ht
    simp only [one1,Option.some.injEq] at h
    subst h
    exact ⟨_,rfl,Qq hQ.sym (by rw [ho]; simp only [pureOp,h2,h4,hQ.ty _ _ ht]; rfl)⟩
   ·cases h
  ·rename_i hx hy
   obtain ⟨z1,h1,h2⟩:=Qh hE hx
   obtain rfl:=YA (Qi h1)
   obtain ⟨z2,h3,h4⟩:=Qh hE hy
   obtain rfl:=YA (Qi h3)
   split at h
   ·rename_i ht
    simp only [one1,Option.some.injEq] at h
    subst h
    exact ⟨_,rfl,Qq hQ.sym (by rw [ho]; simp only [pureOp,h2,h4,hQ.ty _ _ ht]; rfl)⟩
   ·rename_i ht
    simp only [one1,Option.some.injEq] at h
    subst h
    exact ⟨_,rfl,Qq hQ.sym (by rw [ho]; simp only [pureOp,h2,h4,hQ.ty _ _ ht]; rfl)⟩
   ·cases h
  ·cases h
 case unOp op ty x =>
  split at h
  ·rename_i k n hx
   obtain ⟨z1,h1,h2⟩:=Qh hE hx
   obtain rfl:=QI (Qi h1)
   rw [Qz] at h
   simp only [one1,Option.some.injEq] at h
   subst h
   refine ⟨_,rfl,Qq hQ.sym (by rw [ho]; simp only [pureOp,h2,Jn,Int.zero_sub]; rfl)⟩
  ·rename_i b hx
   obtain ⟨z1,h1,h2⟩:=Qh hE hx
   obtain rfl:=YI (Qi h1)
   simp only [one1,Option.some.injEq] at h
   subst h
   exact ⟨_,rfl,Qq hQ.sym (by rw [ho]; simp only [pureOp,h2])⟩
  ·rename_i k n hx
   obtain ⟨z1,h1,h2⟩:=Qh hE hx
   obtain rfl:=QI (Qi h1)
   rw [Qz] at h
   simp only [one1,Option.some.injEq] at h
   subst h
   exact ⟨_,rfl,by rw [Jn]; exact QfX ho h2⟩
  ·cases h
 case extract x i =>
  split at h
  ·rename_i vs hx
   split at h
   ·rename_i u hu
    simp only [Option.some.injEq] at h
    subst h
    obtain ⟨z1,h1,h2⟩:=Qh hE hx
    simp only [SV.den] at h1
    split at h1
    ·rename_i us hus
     simp only [Option.some.injEq] at h1
     subst h1
     obtain ⟨w,h3,h4⟩:=jK hus hu
     exact ⟨w,h3,Qq hQ.sym (by rw [ho]; simp only [pureOp,h2,h4])⟩
    ·cases h1
   ·cases h
  ·cases h
 case nilCheck x =>
  split at h
  ·rename_i l off hx
   simp only [one1,Option.some.injEq] at h
   subst h
   obtain ⟨z1,h1,h2⟩:=Qh hE hx
   obtain ⟨d,hd,rfl⟩:=qY (Qi h1)
   exact ⟨_,h1,Qq hQ.sym (by rw [ho]; simp only [pureOp,h2])⟩
  ·cases h
 case fieldAddr s x f =>
  split at h
  ·rename_i l off fs sz bt z hx hT
   split at h
   ·rename_i ft fo hf
    split at h
    ·rename_i k m bt' z' hft
     rw [Qy] at h
     simp only [one1,Option.some.injEq] at h
     subst h
     obtain ⟨z1,h1,h2⟩:=Qh hE hx
     obtain ⟨d,hd,rfl⟩:=qY (Qi h1)
     rw [Qw] at hf
     refine ⟨.pointer (some ⟨d.b,d.o+(off+fo),none⟩),by simp only [SV.den,GV.den,C.den,hd],Qq hQ.sym ?_⟩
     rw [ho]
     simp only [pureOp,h2,hQ.ty _ _ hT,hf,hQ.ty _ _ hft,QF,Nat.add_assoc]
    ·cases h
   ·cases h
  ·cases h
 case convert s d x =>
  split at h
  ·rename_i k0 n ti k sz bt z hx hs hd
   rw [Qz] at h
   simp only [one1,Option.some.injEq] at h
   subst h
   obtain ⟨z1,h1,h2⟩:=Qh hE hx
   obtain rfl:=QI (Qi h1)
   exact ⟨_,rfl,Qq hQ.sym (by rw [ho]; simp only [pureOp,h2,hQ.ty _ _ hs,hQ.ty _ _ hd,Jn])⟩
  ·cases h
 case call c =>
  split at h
  ·rename_i x t hc ha ht
   split at h
   ·rename_i l off j n sl' sz bt z hx hT
    simp only [one1,Option.some.injEq] at h
    subst h
    obtain ⟨z1,h1,h2⟩:=Qh hE hx
    obtain ⟨d,hd,rfl⟩:=Ve (Qi h1)
    exact ⟨_,rfl,Qq hQ.sym (by rw [ho]; simp only [pureOp,hc,ha,ht,h2,hQ.ty _ _ hT]; rfl)⟩
   ·rename_i sl' sz bt z hx hT
    simp only [one1,Option.some.injEq] at h
    subst h
    obtain ⟨z1,h1,h2⟩:=Qh hE hx
    obtain rfl:=YA (Qi h1)
    exact ⟨_,rfl,Qq hQ.sym (by rw [ho]; simp only [pureOp,hc,ha,ht,h2,hQ.ty _ _ hT]; rfl)⟩
   ·cases h
  ·rename_i x y tl hc ha
   split at h
   ·rename_i k a k' b hx hy
    obtain ⟨z1,h1,h2⟩:=Qh hE hx
    obtain rfl:=QI (Qi h1)
    obtain ⟨z2,h3,h4⟩:=Qh hE hy
    obtain rfl:=QI (Qi h3)
    cases hk:kEq k k'
    ·rw [hk] at h; cases h
    ·rw [hk,cond_true] at h
     simp only [one1,Option.some.injEq] at h
     subst h
     refine ⟨_,rfl,Qq hQ.sym ?_⟩
     rw [ho]
     simp only [pureOp,hc,ha,h2,h4,hk,cond_true,Yz,Jt]
     by_cases hb:b < a<;>simp [hb]
   ·cases h
  ·rename_i x y tl hc ha
   split at h
   ·rename_i k a k' b hx hy
    obtain ⟨z1,h1,h2⟩:=Qh hE hx
    obtain rfl:=QI (Qi h1)
    obtain ⟨z2,h3,h4⟩:=Qh hE hy
    obtain rfl:=QI (Qi h3)
    cases hk:kEq k k'
    ·rw [hk] at h; cases h
    ·rw [hk,cond_true] at h
     simp only [one1,Option.some.injEq] at h
     subst h
     refine ⟨_,rfl,Qq hQ.sym ?_⟩
     rw [ho]
     simp only [pureOp,hc,ha,h2,h4,hk,cond_true,Yz,Jt]
     by_cases hb:a < b<;>simp [hb]
   ·cases h
  ·rename_i tl x y z hc ha
   split at h
   ·rename_i k a k1 b k2 c' hx hy hz
    obtain ⟨z1,h1,h2⟩:=Qh hE hx
    obtain rfl:=QI (Qi h1)
    obtain ⟨z2,h3,h4⟩:=Qh hE hy
    obtain rfl:=QI (Qi h3)
    obtain ⟨z3,h5,h6⟩:=Qh hE hz
    obtain rfl:=QI (Qi h5)
    simp only [one1,Option.some.injEq] at h
    subst h
    refine ⟨_,rfl,VR fun ac w ha'=>?_⟩
    have e1:c.args = #[x,y,z]:=by rw [← Array.toArray_toList (xs:=c.args),ha]
    simp only [execOp,ho]
    simp [ha'.eval h2,ha'.eval h4,ha'.eval h6,resolve,hc,e1,invoke,builtin,Builtin.max_,Builtin.max2,Yz,Jt,QaU]
   ·cases h
  ·rename_i tl x y z hc ha
   split at h
   ·rename_i k a k1 b k2 c' hx hy hz
    obtain ⟨z1,h1,h2⟩:=Qh hE hx
    obtain rfl:=QI (Qi h1)
    obtain ⟨z2,h3,h4⟩:=Qh hE hy
    obtain rfl:=QI (Qi h3)
    obtain ⟨z3,h5,h6⟩:=Qh hE hz
    obtain rfl:=QI (Qi h5)
    simp only [one1,Option.some.injEq] at h
    subst h
    refine ⟨_,rfl,VR fun ac w ha'=>?_⟩
    have e1:c.args = #[x,y,z]:=by rw [← Array.toArray_toList (xs:=c.args),ha]
    simp only [execOp,ho]
    simp [ha'.eval h2,ha'.eval h4,ha'.eval h6,resolve,hc,e1,invoke,builtin,Builtin.min_,Builtin.min2,Yz,Jt,QaU]
   ·cases h
  ·cases h
 case build t parts =>
  split at h
  ·rename_i fs sz bt z hT
   split at h
   ·rename_i ps vs zs hp hv hz
    split at h
    ·rename_i cs hcs
     simp only [Option.some.injEq] at h
     subst h
     obtain ⟨ys,h1,h2⟩:=Qah hE hv
     obtain ⟨us,h3,h4⟩:=yQ (Yx (φ:=φ) hz) h1 hcs
     refine ⟨.agg us.toArray,by simp only [SV.den,GV.den,h3],Qq hQ.sym ?_⟩
     rw [ho]
     simp only [pureOp,hQ.ty _ _ hT,qJ hQ hp,h2,h4]
    ·cases h
   ·cases h
  ·cases h
 case indexAddr t x ix =>
  split at h
  ·rename_i l off j n ik iz e sz0 bt z hx hi hT
   split at h
   ·rename_i i ek sz bt' z' hn he
    obtain rfl:=Ym hn
    cases hlt:Nat.blt i n
    ·rw [hlt] at h; cases h
    ·rw [hlt,cond_true,Qy] at h
     simp only [one1,Option.some.injEq] at h
     subst h
     have hlt':i < n:=Nat.le_of_ble_eq_true hlt
     obtain ⟨z1,h1,h2⟩:=Qh hE hx
     obtain ⟨d,hd,rfl⟩:=Ve (Qi h1)
     obtain ⟨z2,h3,h4⟩:=Qh hE hi
     obtain rfl:=QI (Qi h3)
     have:=Qbq (N:=N) (G:=G) (U:=U) (M:=M) hQ.sym ho h2 h4 (hQ.ty _ _ hT) (hQ.ty _ _ he) rfl hlt'
     rw [Nat.add_assoc] at this
     exact ⟨_,by simp only [SV.den,GV.den,C.den,hd],this⟩
   ·cases h
  ·rename_i m off ik iz hx hi
   split at h
   ·rename_i n e hT
    split at h
    ·rename_i i ek sz bt' z' hn he
     obtain rfl:=Ym hn
     cases hlt:Nat.blt i n
     ·rw [hlt] at h; cases h
     ·rw [hlt,cond_true,Qy] at h
      simp only [one1,Option.some.injEq] at h
      subst h
      have hlt':i < n:=Nat.le_of_ble_eq_true hlt
      obtain ⟨z1,h1,h2⟩:=Qh hE hx
      have h1':C.den φ (.gl m off)=some z1:=h1
      simp only [C.den,Option.some.injEq] at h1'
      subst h1'
      obtain ⟨z2,h3,h4⟩:=Qh hE hi
      obtain rfl:=QI (Qi h3)
      refine ⟨_,rfl,VR fun ac w ha=>?_⟩
      have hd:=hQ.ar _ _ _ hT
      have hsz:=(hQ.sym.at (hQ.ty _ _ he)).run_size w
      have g:(0:Int)≤(i:Int)∧(i:Int) < (n:Int):=by omega
      simp [execOp,ho,ha.eval h2,ha.eval h4,Instr.indexAt,Instr.sureAddr,asIntOf,Qg hd,hsz,hlt',QF]
    ·cases h
   ·cases h
  ·cases h
 case makeFunc f first caps =>
  cases f with
  | func m =>
   simp only at h
   split at h
   ·rename_i vs hf hv
    split at h
    ·rename_i ps hp
     simp only [one1,Option.some.injEq] at h
     subst h
     obtain ⟨ys,h1,h2⟩:=qb hE hv
     have h3:=ju hp h1
     have e1:first = #[]:=by
      have:=congrArg List.toArray hf
      simpa using this
     subst e1
     refine ⟨.func (.func m) #[] ys.toArray,by simp only [SV.den,GV.den,C.den,h3],?_⟩
     exact yF (xs:=caps.toList) (by rw [ho]) h2
    ·cases h
   ·cases h
  | _=>simp only [reduceCtorEq] at h
 case index t x ix =>
  split at h
  ·rename_i s ik iz sz bt z hx hi hT
   split at h
   ·rename_i i hn
    obtain rfl:=Ym hn
    split at h
    ·rename_i b hb
     rw [Qy] at h
     simp only [one1,Option.some.injEq] at h
     subst h
     obtain ⟨z1,h1,h2⟩:=Qh hE hx
     have h1':C.den φ (.st s)=some z1:=h1
     simp only [C.den,Option.some.injEq] at h1'
     subst h1'
     obtain ⟨z2,h3,h4⟩:=Qh hE hi
     obtain rfl:=QI (Qi h3)
     refine ⟨_,rfl,VR fun ac w ha=>?_⟩
     obtain ⟨dd,hdd,hkk⟩:=(hQ.sym.at (hQ.ty _ _ hT)).und
     have:=qC hkk
     subst this
     have g:(0:Int)≤(i:Int):=by omega
     simp [execOp,ho,ha.eval h2,ha.eval h4,Instr.index,asIntOf,Qg hdd,g,hb]
    ·cases h
   ·cases h
  ·cases h
end Go.Gx

/- Memory of runs by the kernel. No condition. -/
namespace Go.Gx
open Go.Hp
def MEq (M M':MH):Prop:=∀ (G:World) (U:UH) (X:MH) (w:World),Mem G U (X++M) w↔Mem G U (X++M') w
theorem MEq.refl (M:MH):MEq M M:=fun _ _ _ _=>Iff.rfl
theorem MEq.symm {M M':MH} (h:MEq M M'):MEq M' M:=fun G U X w=>(h G U X w).symm
theorem MEq.of_perm {M M':MH} (h:M.Perm M'):MEq M M':=fun _ _ X _=>⟨fun hm=>hm.perm (h.append_left X),fun hm=>hm.perm (h.symm.append_left X)⟩
theorem MEq.trans {A B D:MH} (h:MEq A B) (k:MEq B D):MEq A D:=fun G U X w=>(h G U X w).trans (k G U X w)
theorem MEq.left {M M':MH} (h:MEq M M') (D:MH):MEq (D++M) (D++M'):=fun G U X w=>by
 rw [← List.append_assoc,← List.append_assoc]; exact h G U (X++D) w
theorem MEq.cons {M M':MH} (h:MEq M M') (e:Nat × Blk × Nat):MEq (e::M) (e::M'):=h.left [e]
theorem MEq.right {M M':MH} (h:MEq M M') (D:MH):MEq (M++D) (M'++D) :=
 ((MEq.of_perm List.perm_append_comm).trans (h.left D)).trans (MEq.of_perm List.perm_append_comm)
theorem MEq.one {M M':MH} (h:MEq M M') {G:World} {U:UH} {w:World} (hm:Mem G U M w):Mem G U M' w:=(h G U [] w).1 hm
theorem jy {k k':Blk} (h:k.cells=k'.cells) {b t:Nat} {X M:MH} {G:World} {U:UH} {w:World} (hm:Mem G U (X++(b,k,t)::M) w):Mem G U (X++(b,k',t)::M) w:=by
 refine ⟨hm.os,hm.tape,hm.output,hm.old,fun e he=>?_,?_⟩
 ·rcases List.mem_append.1 he with he | he
  ·exact hm.own e (List.mem_append_left _ he)
  ·rcases List.mem_cons.1 he with rfl | he
   ·have:=hm.own (b,k,t) (List.mem_append_right _ (List.mem_cons_self ..))
    simp only [h] at this
    exact this
   ·exact hm.own e (List.mem_append_right _ (List.mem_cons_of_mem _ he))
 ·have h1:(X++(b,k,t)::M).map Prod.fst=(X++(b,k',t)::M).map Prod.fst:=by simp
  have h2:=hm.nd
  rw [← List.pairwise_map (f:=Prod.fst) (R:=fun a b=>a≠b)] at h2 ⊢
  rw [← h1]; exact h2
theorem MEq.cells {k k':Blk} (h:k.cells=k'.cells) (b t:Nat) (M:MH):MEq ((b,k,t)::M) ((b,k',t)::M) :=
 fun _ _ _ _=>⟨jy h,jy h.symm⟩
variable {P:Program} {T:TT} {K:Kont} {N:Nat} {G:World} {E:Env} {U:UH} {M:MH} {L:List Oper}
theorem skM {e:Exit} {M':MH} (h:SK K N G e E U M') (hp:MEq M M'):SK K N G e E U M:=⟨fun a w ha hm=>h.run a w ha (hp.one hm)⟩
theorem slM {l:List Ent} {M':MH} (h:SL P T L K N G l E U M'):∀ {M:MH},MEq M M'→SL P T L K N G l E U M:=by
 induction h with
 | nil h=>exact fun hp => .nil (skM h hp)
 | det hk hd hN hy h ih=>exact fun hp => .det hk hd hN ⟨fun a w ha hm=>hy.run a w ha (hp.one hm)⟩ (ih hp)
 | al ho hg hz hd hN h ih=>exact fun hp => .al ho hg hz hd hN fun b=>ih b (hp.cons _)
 | gr hk hd hN hr h ih =>
  intro M hp
  exact .gr hk hd hN (fun M2 a w ha hm=>JI (hr M2 a w ha ((hp.left M2).one hm)) fun v w' ⟨U',D,h1,h2,h3⟩=>⟨U',D,h1,((hp.left M2).left D).symm.one h2,h3⟩)
   (fun v U' D h1 h2=>ih v U' D h1 h2 (hp.left D))
 | @x f i o R l E0 U0 M0 hk hN hr h ih =>
  intro M hp
  exact .x hk hN (fun a w ha hm=>hr a w ha (hp.one hm)) (fun v U' M' h1=>ih v U' M' h1 (MEq.refl _))
structure GB where
 ty:Nat
 sz:Nat
 cells:List C
 als:List Nat
structure Mm where
 t:Tr GB
 n:Nat
 al:Tr GB
noncomputable def Mm.get (m:Mm) (l:Nat):Option GB:=match m.t.get l with
 | some g=>some g
 | none=>m.al.get l
def InvB (d:Lv) (g:GB) (xs:List Value):Prop:=d.o=0∧(g.sz≠0→xs.length+d.pad.length=d.c*g.sz∧d.c≤9223372036854775807)
def ent (d:Lv) (g:GB) (xs:List Value):Nat × Blk × Nat:=(d.b,.var (.agg (xs++d.pad).toArray),g.ty)
def MemR (φ:Phi):List (Nat × GB)→MH→Prop
 | [],M=>M=[]
 | (l,g)::r,M=>∃ d xs M',φ.l[l]?=some d∧dens φ g.cells=some xs∧InvB d g xs∧M=ent d g xs::M'∧MemR φ r M'
theorem MemR.le {φ ψ:Phi} (hl:Le φ ψ):∀ {es:List (Nat × GB)} {M:MH},MemR φ es M→MemR ψ es M
 | [],_,h=>h
 | (l,g)::r,M,⟨d,xs,M',h1,h2,h3,h4,h5⟩=>⟨d,xs,M',hl.g _ _ h1,QU hl h2,h3,h4,h5.le hl⟩
theorem MemR.perm {φ:Phi} {es es':List (Nat × GB)} (hp:es.Perm es'):∀ {M:MH},MemR φ es M→∃ M',M.Perm M'∧MemR φ es' M':=by
 induction hp with
 | nil=>exact fun h=>⟨_,List.Perm.refl _,h⟩
 | cons x _ ih =>
  obtain ⟨l,g⟩:=x
  rintro M ⟨d,xs,M1,h1,h2,h3,rfl,h5⟩
  obtain ⟨M2,h6,h7⟩:=ih h5
  exact ⟨_,h6.cons _,d,xs,M2,h1,h2,h3,rfl,h7⟩
 | swap x y l =>
  obtain ⟨l1,g1⟩:=x
  obtain ⟨l2,g2⟩:=y
  rintro M ⟨d,xs,M1,h1,h2,h3,rfl,d',xs',M2,k1,k2,k3,rfl,h5⟩
  exact ⟨_,List.Perm.swap _ _ _,d',xs',_,k1,k2,k3,rfl,d,xs,M2,h1,h2,h3,rfl,h5⟩
 | trans _ _ ih1 ih2 =>
  intro M h
  obtain ⟨M1,h1,h2⟩:=ih1 h
  obtain ⟨M2,h3,h4⟩:=ih2 h2
  exact ⟨M2,h1.trans h3,h4⟩
theorem MemR.split {φ:Phi}:∀ {a b:List (Nat × GB)} {M:MH},MemR φ (a++b) M→∃ M1 M2,M=M1++M2∧MemR φ a M1∧MemR φ b M2
 | [],_,M,h=>⟨[],M,rfl,rfl,h⟩
 | (l,g)::r,b,M,⟨d,xs,M',k1,k2,k3,k4,k5⟩=>by
  obtain ⟨M1,M2,rfl,h2,h3⟩:=MemR.split k5
  exact ⟨ent d g xs::M1,M2,k4,⟨d,xs,M1,k1,k2,k3,rfl,h2⟩,h3⟩
def fuelM:Nat:=1000000000
def Lies (φ:Phi) (m:Mm) (l:Nat) (d:Lv) (xs:List Value):Prop :=
 (∃ ys ty,(d.b,Blk.var (.agg (xs++ys).toArray),ty) ∈ φ.j) ∨
 ∃ k g e zs ys,m.t.get k=some g∧l ∈ g.als∧φ.l[k]?=some e∧e.b=d.b∧dens φ g.cells=some zs∧zs=xs++ys
def AL (φ:Phi) (m:Mm):Prop:=∀ l g,m.al.get l=some g→l < m.n∧∃ d xs,φ.l[l]?=some d∧dens φ g.cells=some xs∧InvB d g xs∧Lies φ m l d xs
structure SR (φ:Phi) (m:Mm) (Fr M:MH):Prop where
 mem:∃ M1,MemR φ m.t.ents M1∧(M1++(φ.j++Fr)).Perm M
 al:AL φ m
 len:φ.l.length=m.n
 keys:∀ k g,m.t.get k=some g→k < m.n∧∀ l ∈ g.als,l < m.n
 big:m.n≤fuelM
theorem SR.perm {φ:Phi} {m:Mm} {Fr M M':MH} (h:SR φ m Fr M) (hp:M.Perm M'):SR φ m Fr M':=by
 obtain ⟨M1,h1,h2⟩:=h.mem
 exact ⟨⟨M1,h1,h2.trans hp⟩,h.al,h.len,h.keys,h.big⟩
noncomputable def dropA:List Nat→Tr GB→Tr GB
 | [],t=>t
 | l::r,t=>dropA r (Tr.put fuelM t l none)
theorem jt:∀ {ls:List Nat} {t:Tr GB} {k:Nat} {g:GB},(∀ l ∈ ls,l < fuelM)→(dropA ls t).get k=some g→t.get k=some g∧k ∉ ls
 | [],t,k,g,_,h=>⟨h,by simp⟩
 | l::r,t,k,g,hl,h=>by
  obtain ⟨h1,h2⟩:=jt (fun x hx=>hl x (List.mem_cons_of_mem _ hx)) h
  rw [Tr.get_put _ _ _ _ _ (hl l (List.mem_cons_self ..))] at h1
  cases e:Nat.beq k l
  ·rw [e,cond_false] at h1
   exact ⟨h1,fun hm=>by
    rcases List.mem_cons.1 hm with rfl | hm
    ·simp at e
    ·exact h2 hm⟩
  ·rw [e] at h1; cases h1
theorem SR.get {φ:Phi} {m:Mm} {Fr M:MH} (h:SR φ m Fr M) {l:Nat} {g:GB} (hg:m.t.get l=some g):∃ d xs R,φ.l[l]?=some d∧dens φ g.cells=some xs∧InvB d g xs∧M.Perm (ent d g xs::R)∧l < m.n ∧
  (∀ g' xs',g'.als=[]→dens φ g'.cells=some xs'→InvB d g' xs'→SR φ ⟨Tr.put fuelM m.t l (some g'),m.n,dropA g.als m.al⟩ Fr (ent d g' xs'::R)):=by
 obtain ⟨M1,h1,h2⟩:=h.mem
 obtain ⟨hlt,hals⟩:=h.keys l g hg
 have hf:l < fuelM:=Nat.lt_of_lt_of_le hlt h.big
 obtain ⟨r,hr,hput⟩:=Tr.ents_get hg
 obtain ⟨M2,h3,d,xs,R,h4,h5,h6,rfl,h7⟩:=h1.perm hr
 refine ⟨d,xs,R++(φ.j++Fr),h4,h5,h6,h2.symm.trans (h3.append_right _),hlt,fun g' xs' h0 h8 h9=>?_⟩
 obtain ⟨M3,h10,h11⟩:=MemR.perm (hput fuelM (some g') hf).symm (show MemR φ (((l,g')::r)) (ent d g' xs'::R) from ⟨d,xs',R,h4,h8,h9,rfl,h7⟩)
 refine ⟨⟨M3,h11,h10.symm.append_right _⟩,fun k gk hk=>?_,h.len,fun k gk hk=>?_,h.big⟩
 ·obtain ⟨k1,k2⟩:=jt (fun x hx=>Nat.lt_of_lt_of_le (hals x hx) h.big) hk
  obtain ⟨k3,d',ys,k4,k5,k6,k7⟩:=h.al k gk k1
  refine ⟨k3,d',ys,k4,k5,k6,?_⟩
  rcases k7 with k7 | ⟨k',gk',e,zs,us,j1,j2,j3,j4,j5,j6⟩
  ·exact .inl k7
  ·refine .inr ⟨k',gk',e,zs,us,?_,j2,j3,j4,j5,j6⟩
   show (Tr.put fuelM m.t l (some g')).get k'=_
   rw [Tr.get_put _ _ _ _ _ hf]
   cases e1:Nat.beq k' l
   ·exact j1
   ·obtain rfl:=Nat.eq_of_beq_eq_true e1
    rw [hg,Option.some.injEq] at j1
    subst j1
    exact absurd j2 k2
 ·rw [Tr.get_put _ _ _ _ _ hf] at hk
  cases e:Nat.beq k l
  ·rw [e] at hk; exact h.keys k gk hk
  ·rw [e,cond_true,Option.some.injEq] at hk
   subst hk
   rw [Nat.eq_of_beq_eq_true e]
   exact ⟨hlt,fun x hx=>by rw [h0] at hx; cases hx⟩
theorem Lies.mono {φ ψ:Phi} {m m':Mm} {l:Nat} {d:Lv} {xs:List Value} (hl:Le φ ψ) (hk:∀ k g,m.t.get k=some g→m'.t.get k=some g) (h:Lies φ m l d xs):Lies ψ m' l d xs:=by
 rcases h with ⟨ys,ty,h⟩ | ⟨k,g,e,zs,ys,h1,h2,h3,h4,h5,h6⟩
 ·obtain ⟨J,hj⟩:=hl.j
  exact .inl ⟨ys,ty,by rw [hj]; exact List.mem_append_right _ h⟩
 ·exact .inr ⟨k,g,e,zs,ys,hk _ _ h1,h2,hl.g _ _ h3,h4,QU hl h5,h6⟩
theorem SR.new {φ:Phi} {m:Mm} {Fr M:MH} (h:SR φ m Fr M) (hb:m.n < fuelM) (d:Lv) {g:GB} {xs:List Value} (h0:g.als=[]) (hx:dens φ g.cells=some xs) (hi:InvB d g xs) :
  SR (φ.snoc d) ⟨Tr.put fuelM m.t m.n (some g),m.n+1,m.al⟩ Fr (ent d g xs::M):=by
 obtain ⟨M1,h1,h2⟩:=h.mem
 have hn:m.t.get m.n=none:=by
  cases e:m.t.get m.n with
  | none=>rfl
  | some g=>have:=(h.keys _ _ e).1; omega
 obtain ⟨M3,h10,h11⟩:=MemR.perm (Tr.ents_new fuelM m.t m.n g hb hn).symm (show MemR (φ.snoc d) ((m.n,g)::m.t.ents) (ent d g xs::M1) from
  ⟨d,xs,M1,by rw [← h.len]; exact Ja φ d,QU (Le.snoc φ d) hx,hi,rfl,h1.le (Le.snoc φ d)⟩)
 refine ⟨⟨M3,h11,(h10.symm.append_right _).trans (h2.cons _)⟩,fun k gk hk=>?_,by simp [Phi.snoc,h.len],fun k g' hk=>?_,hb⟩
 ·obtain ⟨k3,d',ys,k4,k5,k6,k7⟩:=h.al k gk hk
  refine ⟨Nat.lt_succ_of_lt k3,d',ys,(Le.snoc φ d).g _ _ k4,QU (Le.snoc φ d) k5,k6,k7.mono (Le.snoc φ d) fun k g hg=>?_⟩
  show (Tr.put fuelM m.t m.n (some _)).get k=_
  rw [Tr.get_put _ _ _ _ _ hb,Qr (by have:=(h.keys _ _ hg).1; omega)]
  exact hg
 ·rw [Tr.get_put _ _ _ _ _ hb] at hk
  show k < m.n+1∧_
  cases e:Nat.beq k m.n
  ·rw [e] at hk
   obtain ⟨j1,j2⟩:=h.keys k g' hk
   exact ⟨by omega,fun l hl=>Nat.lt_succ_of_lt (j2 l hl)⟩
  ·rw [e,cond_true,Option.some.injEq] at hk
   subst hk
   have:=Nat.eq_of_beq_eq_true e
   exact ⟨by omega,fun l hl=>by rw [h0] at hl; cases hl⟩
theorem SR.skip {φ:Phi} {m:Mm} {Fr M:MH} (h:SR φ m Fr M) (hb:m.n < fuelM) (d:Lv):SR (φ.snoc d) ⟨m.t,m.n+1,m.al⟩ Fr M:=by
 obtain ⟨M1,h1,h2⟩:=h.mem
 refine ⟨⟨M1,h1.le (Le.snoc φ d),h2⟩,fun k gk hk=>?_,by simp [Phi.snoc,h.len],fun k g hk=>?_,hb⟩
 ·obtain ⟨k3,d',ys,k4,k5,k6,k7⟩:=h.al k gk hk
  exact ⟨Nat.lt_succ_of_lt k3,d',ys,(Le.snoc φ d).g _ _ k4,QU (Le.snoc φ d) k5,k6,k7.mono (Le.snoc φ d) fun _ _ h=>h⟩
 ·obtain ⟨j1,j2⟩:=h.keys k g hk
  exact ⟨Nat.lt_succ_of_lt j1,fun l hl=>Nat.lt_succ_of_lt (j2 l hl)⟩
theorem SR.read {φ:Phi} {m:Mm} {Fr M:MH} (h:SR φ m Fr M) {l:Nat} {g:GB} (hg:m.get l=some g):∃ d xs,φ.l[l]?=some d∧dens φ g.cells=some xs∧InvB d g xs ∧
  ∀ (G:World) (U:UH) (w:World),Mem G U M w→∃ ys ty,w.heap[d.b]?=some (.cells (xs++ys).toArray ty (0,0)):=by
 unfold Mm.get at hg
 split at hg
 ·rename_i g' hg'
  cases hg
  obtain ⟨d,xs,R,h1,h2,h3,h4,-,-⟩:=h.get hg'
  exact ⟨d,xs,h1,h2,h3,fun G U w hw=>⟨d.pad,g.ty,Mem.own_at (i:=0) (hw.perm h4) rfl⟩⟩
 ·obtain ⟨-,d,xs,h1,h2,h3,h4⟩:=h.al l g hg
  refine ⟨d,xs,h1,h2,h3,fun G U w hw=>?_⟩
  rcases h4 with ⟨ys,ty,h4⟩ | ⟨k,gk,e,zs,ys,j1,-,j3,j4,j5,j6⟩
  ·obtain ⟨M1,-,h6⟩:=h.mem
   exact ⟨ys,ty,(hw.own _ (h6.mem_iff.1 (List.mem_append_right _ (List.mem_append_left _ h4)))).1⟩
  ·obtain ⟨e',zs',R,k1,k2,k3,k4,-,-⟩:=h.get j1
   rw [j3,Option.some.injEq] at k1
   subst k1
   rw [j5,Option.some.injEq] at k2
   subst k2
   have:=Mem.own_at (i:=0) (hw.perm k4) rfl
   rw [j4,j6] at this
   exact ⟨ys++e.pad,gk.ty,by simpa [Blk.cells,Value.cells,List.append_assoc] using this⟩
theorem SR.move {φ:Phi} {m:Mm} {Fr M:MH} (h:SR φ m Fr M) {l:Nat} {g:GB} (hg:m.t.get l=some g) (hb:m.n < fuelM):∃ d xs R,φ.l[l]?=some d∧dens φ g.cells=some xs∧InvB d g xs∧M.Perm (ent d g xs::R) ∧
  ∀ (e:Lv) (ty sz:Nat) (cs:List C) (us:List Value),dens φ cs=some (xs++us)→InvB e ⟨ty,sz,cs,l::g.als⟩ (xs++us) →
   (e.b=d.b→SR (φ.snoc e) ⟨Tr.put fuelM (Tr.put fuelM m.t l none) m.n (some ⟨ty,sz,cs,l::g.als⟩),m.n+1,Tr.put fuelM m.al l (some g)⟩ Fr (ent e ⟨ty,sz,cs,l::g.als⟩ (xs++us)::R)) ∧
   SR (Phi.snoc ⟨φ.l,ent d g xs::φ.j⟩ e) ⟨Tr.put fuelM (Tr.put fuelM m.t l none) m.n (some ⟨ty,sz,cs,l::g.als⟩),m.n+1,Tr.put fuelM m.al l (some g)⟩ Fr (ent e ⟨ty,sz,cs,l::g.als⟩ (xs++us)::M):=by
 obtain ⟨M1,h1,h2⟩:=h.mem
 obtain ⟨hlt,hals⟩:=h.keys l g hg
 have hf:l < fuelM:=Nat.lt_of_lt_of_le hlt h.big
 obtain ⟨r,hr,hput⟩:=Tr.ents_get hg
 obtain ⟨M2,h3,d,xs,R,h4,h5,h6,rfl,h7⟩:=h1.perm hr
 refine ⟨d,xs,R++(φ.j++Fr),h4,h5,h6,h2.symm.trans (h3.append_right _),fun e ty sz cs us h8 h9=>?_⟩
 have hn:(Tr.put fuelM m.t l none).get m.n=none:=by
  rw [Tr.get_put _ _ _ _ _ hf,Qr (by omega),cond_false]
  cases e:m.t.get m.n with
  | none=>rfl
  | some g=>have:=(h.keys _ _ e).1; omega
 have hents:=(Tr.ents_new fuelM (Tr.put fuelM m.t l none) m.n ⟨ty,sz,cs,l::g.als⟩ hb hn).trans ((hput fuelM none hf).cons _)
 have hget:∀ k,(Tr.put fuelM (Tr.put fuelM m.t l none) m.n (some ⟨ty,sz,cs,l::g.als⟩)).get k=bif Nat.beq k m.n then some ⟨ty,sz,cs,l::g.als⟩ else bif Nat.beq k l then none else m.t.get k:=fun k=>by
  rw [Tr.get_put _ _ _ _ _ hb,Tr.get_put _ _ _ _ _ hf]
 have hself:(Tr.put fuelM (Tr.put fuelM m.t l none) m.n (some (⟨ty,sz,cs,l::g.als⟩:GB))).get m.n=some ⟨ty,sz,cs,l::g.als⟩:=by rw [hget,Yh,cond_true]
 have keys:∀ k g',(Tr.put fuelM (Tr.put fuelM m.t l none) m.n (some ⟨ty,sz,cs,l::g.als⟩)).get k=some g'→k < m.n+1∧∀ x ∈ g'.als,x < m.n+1:=fun k g' hk=>by
  rw [hget] at hk
  cases e1:Nat.beq k m.n
  ·rw [e1,cond_false] at hk
   cases e2:Nat.beq k l
   ·rw [e2,cond_false] at hk
    obtain ⟨j1,j2⟩:=h.keys k g' hk
    exact ⟨by omega,fun x hx=>Nat.lt_succ_of_lt (j2 x hx)⟩
   ·rw [e2] at hk; cases hk
  ·rw [e1,cond_true,Option.some.injEq] at hk
   subst hk
   have:=Nat.eq_of_beq_eq_true e1
   refine ⟨by omega,fun x hx=>?_⟩
   rcases List.mem_cons.1 hx with rfl | hx
   ·omega
   ·exact Nat.lt_succ_of_lt (hals x hx)
 -- whatever lay somewhere lies there still
 have lies:∀ ψ:Phi,Le φ ψ→ψ.l[m.n]?=some e→(e.b=d.b∨ent d g xs ∈ ψ.j)→∀ k dk ks,Lies φ m k dk ks→Lies ψ ⟨Tr.put fuelM (Tr.put fuelM m.t l none) m.n (some ⟨ty,sz,cs,l::g.als⟩),m.n+1,Tr.put fuelM m.al l (some g)⟩ k dk ks:=by
  intro ψ hl he hor k dk ks hk
  rcases hk with ⟨ys,ty',hk⟩ | ⟨k',gk,e',zs,ys,j1,j2,j3,j4,j5,j6⟩
  ·obtain ⟨J,hj⟩:=hl.j
   exact .inl ⟨ys,ty',by rw [hj]; exact List.mem_append_right _ hk⟩
  ·by_cases hkl:k'=l
   ·subst hkl
    rw [hg,Option.some.injEq] at j1
    subst j1
    rw [h4,Option.some.injEq] at j3
    subst j3
    rw [h5,Option.some.injEq] at j5
    subst j5
    rcases hor with hor | hor
    ·refine .inr ⟨m.n,_,e,xs++us,ys++us,hself,List.mem_cons_of_mem _ j2,he,hor.trans j4,QU hl h8,by rw [j6,List.append_assoc]⟩
    ·refine .inl ⟨ys++d.pad,g.ty,?_⟩
     rw [← j4]
     simp only [ent,j6] at hor
     rw [← List.append_assoc]; exact hor
   ·refine .inr ⟨k',gk,e',zs,ys,?_,j2,hl.g _ _ j3,j4,QU hl j5,j6⟩
    show Tr.get _ k'=_
    rw [hget,Qr (by have:=(h.keys _ _ j1).1; omega),Qr hkl]
    exact j1
 have self:∀ ψ:Phi,Le φ ψ→ψ.l[m.n]?=some e→(e.b=d.b∨ent d g xs ∈ ψ.j)→Lies ψ ⟨Tr.put fuelM (Tr.put fuelM m.t l none) m.n (some ⟨ty,sz,cs,l::g.als⟩),m.n+1,Tr.put fuelM m.al l (some g)⟩ l d xs:=by
  intro ψ hl he hor
  rcases hor with hor | hor
  ·exact .inr ⟨m.n,_,e,xs++us,us,hself,List.mem_cons_self ..,he,hor,QU hl h8,rfl⟩
  ·exact .inl ⟨d.pad,g.ty,hor⟩
 have al:∀ ψ:Phi,Le φ ψ→ψ.l[m.n]?=some e→(e.b=d.b∨ent d g xs ∈ ψ.j)→AL ψ ⟨Tr.put fuelM (Tr.put fuelM m.t l none) m.n (some ⟨ty,sz,cs,l::g.als⟩),m.n+1,Tr.put fuelM m.al l (some g)⟩:=by
  intro ψ hl he hor k gk hk
  change (Tr.put fuelM m.al l (some g)).get k=some gk at hk
  rw [Tr.get_put _ _ _ _ _ hf] at hk
  cases e1:Nat.beq k l
  ·rw [e1,cond_false] at hk
   obtain ⟨k3,d',ys,k4,k5,k6,k7⟩:=h.al k gk hk
   exact ⟨Nat.lt_succ_of_lt k3,d',ys,hl.g _ _ k4,QU hl k5,k6,lies ψ hl he hor _ _ _ k7⟩
  ·rw [e1,cond_true,Option.some.injEq] at hk
   subst hk
   obtain rfl:=Nat.eq_of_beq_eq_true e1
   exact ⟨Nat.lt_succ_of_lt hlt,d,xs,hl.g _ _ h4,QU hl h5,h6,self ψ hl he hor⟩
 have mk:∀ ψ:Phi,Le φ ψ→ψ.l[m.n]?=some e→∃ M3,MemR ψ (Tr.put fuelM (Tr.put fuelM m.t l none) m.n (some ⟨ty,sz,cs,l::g.als⟩)).ents M3∧M3.Perm (ent e ⟨ty,sz,cs,l::g.als⟩ (xs++us)::R):=by
  intro ψ hl he
  obtain ⟨M3,h10,h11⟩:=MemR.perm hents.symm (show MemR ψ ((m.n,⟨ty,sz,cs,l::g.als⟩)::r) (ent e ⟨ty,sz,cs,l::g.als⟩ (xs++us)::R) from ⟨e,xs++us,R,he,QU hl h8,h9,rfl,MemR.le hl h7⟩)
  exact ⟨M3,h11,h10.symm⟩
 refine ⟨fun hbd=>?_,?_⟩
 ·have he:(φ.snoc e).l[m.n]?=some e:=by rw [← h.len]; exact Ja φ e
  obtain ⟨M3,k1,k2⟩:=mk _ (Le.snoc φ e) he
  exact ⟨⟨M3,k1,(k2.append_right _)⟩,al _ (Le.snoc φ e) he (.inl hbd),by simp [Phi.snoc,h.len],keys,hb⟩
 ·have hl:Le φ (Phi.snoc ⟨φ.l,ent d g xs::φ.j⟩ e):=⟨(Le.snoc φ e).g,[ent d g xs],rfl⟩
  have he:(Phi.snoc ⟨φ.l,ent d g xs::φ.j⟩ e).l[m.n]?=some e:=by rw [← h.len]; exact Ja φ e
  obtain ⟨M3,k1,k2⟩:=mk _ hl he
  refine ⟨⟨M3,k1,(k2.append_right _).trans ?_⟩,al _ hl he (.inr (List.mem_cons_self ..)),by simp [Phi.snoc,h.len],keys,hb⟩
  show (ent e ⟨ty,sz,cs,l::g.als⟩ (xs++us)::R++(ent d g xs::φ.j++Fr)).Perm _
  refine List.Perm.cons _ ?_
  refine (List.perm_middle (l₁:=R) (l₂:=φ.j++Fr) (a:=ent d g xs)).trans ?_
  exact ((h3.append_right _).symm.trans h2)
end Go.Gx

/- Operations of runs by the kernel that read or make memory. No condition. -/
namespace Go.Gx
open Go.Hp
noncomputable def frL {α β:Type} (l:List α):(List α→β)→β :=
 List.rec (motive:=fun _=>(List α→β)→β) (fun k=>k []) (fun c _ ih k=>ih fun r=>k (c::r)) l
theorem QZ {α β:Type}:∀ (l:List α) (k:List α→β),frL l k=k l
 | [],_=>rfl
 | c::r,k=>QZ r fun r=>k (c::r)
noncomputable def putK {α β:Type} (fuel:Nat):Tr α→Nat→Option α→(Tr α→β)→β :=
 Nat.rec (motive:=fun _=>Tr α→Nat→Option α→(Tr α→β)→β) (fun t _ _ q=>q t)
  (fun _ ih t k x q=>Tr.rec (motive:=fun _=>β)
   (Bool.rec (motive:=fun _=>β) (Bool.rec (motive:=fun _=>β) (ih .nil (Nat.sub (Nat.div k (nat_lit 2)) (nat_lit 1)) x (fun r=>q (.node .nil none r))) (ih .nil (Nat.div k (nat_lit 2)) x (fun l=>q (.node l none .nil))) (Nat.beq (Nat.mod k (nat_lit 2)) (nat_lit 1))) (q (.node .nil x .nil)) (Nat.beq k (nat_lit 0)))
   (fun l v r _ _=>Bool.rec (motive:=fun _=>β) (Bool.rec (motive:=fun _=>β) (ih r (Nat.sub (Nat.div k (nat_lit 2)) (nat_lit 1)) x (fun r=>q (.node l v r))) (ih l (Nat.div k (nat_lit 2)) x (fun l=>q (.node l v r))) (Nat.beq (Nat.mod k (nat_lit 2)) (nat_lit 1))) (q (.node l x r)) (Nat.beq k (nat_lit 0))) t) fuel
theorem QG {α β:Type}:∀ (fuel:Nat) (t:Tr α) (k:Nat) (x:Option α) (q:Tr α→β),putK fuel t k x q=q (Tr.put fuel t k x)
 | 0,_,_,_,_=>rfl
 | fuel+1,t,k,x,q=>by
  rw [Tr.put_succ]
  cases t with
  | nil =>
   show Bool.rec (motive:=fun _=>β) (Bool.rec (motive:=fun _=>β) (putK fuel .nil (k / 2 - 1) x (fun r=>q (.node .nil none r))) (putK fuel .nil (k / 2) x (fun l=>q (.node l none .nil))) (Nat.beq (k % 2) 1)) (q (.node .nil x .nil)) (Nat.beq k 0)=_
   rw [QW,QW]
   rw [QG fuel,QG fuel]
   cases Nat.beq k 0<;>cases Nat.beq (k % 2) 1<;>rfl
  | node l v r =>
   show Bool.rec (motive:=fun _=>β) (Bool.rec (motive:=fun _=>β) (putK fuel r (k / 2 - 1) x (fun r=>q (.node l v r))) (putK fuel l (k / 2) x (fun l=>q (.node l v r))) (Nat.beq (k % 2) 1)) (q (.node l x r)) (Nat.beq k 0)=_
   rw [QW,QW]
   rw [QG fuel,QG fuel]
   cases Nat.beq k 0<;>cases Nat.beq (k % 2) 1<;>rfl
def fuelE:Nat:=4096
theorem ER.put {φ:Phi} {env:Tr SV} {E:Env} (h:ER φ env E) {v:SV} {x:Value} (hv:v.den φ=some x) {d:Nat} (hd:d < fuelE):ER φ (Tr.put fuelE env d (some v)) ((d,x)::E):=by
 intro t u hu
 rw [Tr.get_put _ _ _ _ _ hd] at hu
 cases e:Nat.beq t d
 ·rw [e,cond_false] at hu
  obtain ⟨y,h1,h2⟩:=h t u hu
  refine ⟨y,h1,?_⟩
  rw [Qj (fun e2=>by subst e2; simp at e)]
  exact h2
 ·rw [e,cond_true,Option.some.injEq] at hu
  subst hu
  obtain rfl:=Nat.eq_of_beq_eq_true e
  exact ⟨x,hv,Qn⟩
noncomputable def loadG (Q:Tab) (m:Mm) (t:Nat):SV→Option SV
 | .one (.one (.pt l o))=>match m.get l,tyG Q t with
  | some g,some ti=>match ti.k with
   | .struct _=>bif Nat.ble (o+ti.size) g.cells.length then frL ((g.cells.drop o).take ti.size) fun cs=>some (.one (.agg cs)) else none
   | k=>bif tk1 Q t k then (match nth g.cells o with
    | some c=>one1 c
    | none=>none) else none
  | _,_=>none
 | .one (.one (.gl b o))=>match Q.gl.get b,Q.ty.get t with
  | some cs,some ti=>bif one ti.k then (match nth cs o with
   | some c=>one1 c
   | none=>none) else none
  | _,_=>none
 | _=>none
variable {P:Program} {T:TT} {K:Kont} {N:Nat} {G:World} {E:Env} {U:UH} {M Fr:MH} {L:List Oper} {φ:Phi} {env:Tr SV} {Q:Tab} {m:Mm}
theorem QdX {t:Nat} {ti:TI} {fs:List (Nat × Nat)} (hT:lkT T t=some ti) (hk:ti.k = .struct fs) {l:List Value} {o:Nat} (h:o+ti.size≤l.length) :
  ldv T t (.agg l.toArray) o=some (.agg ((l.drop o).take ti.size).toArray):=by
 obtain ⟨k,n,b,z⟩:=ti
 subst hk
 simp only at h
 unfold ldv
 simp only [hT,Value.cells]
 cases hc:(Nat.beq o 0 && Nat.beq n l.length)
 ·simp only [cond_false]
  have:Nat.ble (o+n) l.length=true:=Nat.ble_eq_true_of_le h
  rw [this,cond_true]
 ·simp only [Bool.and_eq_true] at hc
  have h1:=Nat.eq_of_beq_eq_true hc.1
  have h2:=Nat.eq_of_beq_eq_true hc.2
  subst h1 h2
  simp
theorem QeL {t:Nat} {ti:TI} (hT:lkT T t=some ti) (hk:one ti.k=true) {l:List Value} {o:Nat} {v:Value} (h:nth l o=some v):ldv T t (.agg l.toArray) o=some v:=by
 obtain ⟨k,n,b,z⟩:=ti
 unfold ldv
 cases k<;>simp only [one,Bool.false_eq_true] at hk<;>simp only [hT,Value.cells]<;>exact h
theorem yl {α:Type} {l r:List α} {n:Nat} {x:α} (h:nth l n=some x):nth (l++r) n=some x:=by
 rw [Qw] at h ⊢
 rw [List.getElem?_append_left (List.getElem?_eq_some_iff.1 h).1]; exact h
theorem QdR {t b tb:Nat} {ti:TI} {fs:List (Nat × Nat)} (hT:TI.ok P t ti) (hk:ti.k = .struct fs) {l:List Value} {o:Nat} (h:o+ti.size≤l.length) {w:World} (hb:w.heap[b]?=some (.cells l.toArray tb (0,0))) :
  (loadVar t ⟨b,o,none⟩).run P w = .ok (.agg ((l.drop o).take ti.size).toArray) w:=by
 refine QP hT hk (by rw [List.length_take,List.length_drop]; omega) fun j u hu=>?_
 rw [QF]
 simp only [World.cell?,hb]
 rw [List.getElem?_take] at hu
 split at hu
 ·rw [List.getElem?_drop] at hu
  simpa using hu
 ·cases hu
theorem Qej {t b tb:Nat} (hA:∀ w,(isAgg t).run P w = .ok false w) {l:List Value} {o:Nat} {v:Value} (h:nth l o=some v) {w:World} (hb:w.heap[b]?=some (.cells l.toArray tb (0,0))):(loadVar t ⟨b,o,none⟩).run P w = .ok v w:=by
 rw [Qw] at h
 have:w.cell? ⟨b,o,none⟩=some v:=by simp [World.cell?,hb,h]
 simp [loadVar,hA,this]
theorem QcY (hQ:TabOK P T Q U) (hS:SR φ m Fr M) {t:Nat} {v r:SV} {a:Value} (hv:v.den φ=some a) (h:loadG Q m t v=some r) :
  ∃ x,r.den φ=some x∧∀ (o:Oper) (X:Operand),o.op = .load t X→ev E X=some a→Yl P N G o E U M x:=by
 unfold loadG at h
 split at h
 ·rename_i l off
  obtain ⟨d,hd,rfl⟩:=qY (Qi hv)
  split at h
  ·rename_i g ti hg ht
   obtain ⟨d',xs,h1,h2,h3,h4⟩:=hS.read hg
   rw [hd,Option.some.injEq] at h1
   subst h1
   have hrun:∀ x,(∀ (w:World) (ys:List Value) (ty:Nat),w.heap[d.b]?=some (.cells (xs++ys).toArray ty (0,0))→(loadVar t ⟨d.b,off,none⟩).run P w = .ok x w)→∀ (o:Oper) (X:Operand),o.op = .load t X→ev E X=some (.pointer (some ⟨d.b,d.o+off,none⟩))→Yl P N G o E U M x:=by
    intro x hx o X ho hX
    rw [h3.1,Nat.zero_add] at hX
    exact JK ho hX fun w hw=>(by
     obtain ⟨ys,ty,hh⟩:=h4 _ _ w hw
     exact hx w ys ty hh)
   have hlen:=QK h2
   split at h
   ·rename_i fs hk
    cases hb:Nat.ble (off+ti.size) g.cells.length
    ·rw [hb] at h; cases h
    ·rw [hb,cond_true,QZ,Option.some.injEq] at h
     subst h
     have hle:=Nat.le_of_ble_eq_true hb
     have h5:=Ye ti.size (Yi off h2)
     refine ⟨.agg ((xs.drop off).take ti.size).toArray,by simp only [SV.den,GV.den,h5],hrun _ fun w ys ty hw=>?_⟩
     rw [QdR (yw hQ ht) hk (by rw [List.length_append]; omega) hw]
     rw [List.drop_append_of_le_length (by omega),List.take_append_of_le_length (by rw [List.length_drop]; omega)]
   ·cases hk1:tk1 Q t ti.k
    ·rw [hk1] at h; cases h
    ·rw [hk1,cond_true] at h
     split at h
     ·rename_i c hc
      simp only [one1,Option.some.injEq] at h
      subst h
      obtain ⟨x,h5,h6⟩:=qD h2 hc
      exact ⟨x,h5,hrun x fun w ys ty hw=>Qej (fun w=>QfU hQ ht hk1 w) (yl h6) hw⟩
     ·cases h
  ·cases h
 ·rename_i b off
  have hv':C.den φ (.gl b off)=some a:=hv
  simp only [C.den,Option.some.injEq] at hv'
  subst hv'
  split at h
  ·rename_i cs ti hg ht
   cases hk:one ti.k
   ·rw [hk] at h; cases h
   ·rw [hk,cond_true] at h
    split at h
    ·rename_i c hc
     simp only [one1,Option.some.injEq] at h
     subst h
     obtain ⟨x,h1,h2⟩:=hQ.gl _ _ _ _ hg hc
     exact ⟨x,h1 φ,fun o X ho hX=>QdA hQ.sym ho hX (hQ.ty _ _ ht) hk h2⟩
    ·cases h
  ·cases h
 ·cases h
end Go.Gx

/- Operations of runs by the kernel that make or write memory. No condition. -/
namespace Go.Gx
open Go.Hp
variable {P:Program} {T:TT} {K:Kont} {N:Nat} {G:World} {E:Env} {U:UH} {M Fr:MH} {L:List Oper} {l:List Ent} {f:Bool} {i:Nat} {o:Oper} {φ:Phi} {env:Tr SV} {Q:Tab} {m:Mm}
noncomputable def newG {α:Type} (m:Mm) (g:GB) (q:Mm→Option α):Option α:=bif Nat.blt m.n fuelM then putK fuelM m.t m.n (some g) fun t=>frN (m.n+1) fun n=>q ⟨t,n,m.al⟩ else none
theorem Vt {α:Type} {m:Mm} {g:GB} {q:Mm→Option α} {r:α} (h:newG m g q=some r):m.n < fuelM∧q ⟨Tr.put fuelM m.t m.n (some g),m.n+1,m.al⟩=some r:=by
 unfold newG at h
 cases hb:Nat.blt m.n fuelM
 ·rw [hb] at h; cases h
 ·rw [hb,cond_true,QG,Qy] at h
  exact ⟨Nat.le_of_ble_eq_true hb,h⟩
noncomputable def varG (m:Mm) (t:Nat) (cs:List C):Option (SV × Mm):=newG m ⟨t,0,cs,[]⟩ fun m'=>some (.one (.one (.pt m.n 0)),m')
def zeros (n:Nat) (cs:List C):List C:=Nat.rec (motive:=fun _=>List C) [] (fun _ r=>cs++r) n
theorem QaC (hS:SR φ m Fr M) {t:Nat} {cs:List C} {xs:List Value} (hx:dens φ cs=some xs) {r:SV} {m':Mm} (h:varG m t cs=some (r,m')) (b:Nat) :
  ∃ φ',Le φ φ'∧r.den φ'=some (.pointer (some ⟨b,0,none⟩))∧SR φ' m' Fr ((b,.var (.agg xs.toArray),t)::M):=by
 obtain ⟨hb,h⟩:=Vt h
 simp only [Option.some.injEq,Prod.mk.injEq] at h
 obtain ⟨rfl,rfl⟩:=h
 have h1:=hS.new hb ⟨b,0,0,[]⟩ (g:=⟨t,0,cs,[]⟩) rfl hx ⟨rfl,fun h=>absurd rfl h⟩
 refine ⟨_,Le.snoc φ ⟨b,0,0,[]⟩,?_,?_⟩
 ·simp only [SV.den,GV.den,C.den,← hS.len,Ja,Nat.zero_add]
 ·simpa [ent] using h1
theorem Qaq (hS:SR φ m Fr M) {e sz c n:Nat} {cs:List C} {xs:List Value} (hx:dens φ cs=some xs) (hc:xs.length=c*sz) (hm:c≤9223372036854775807) {r:SV} {m':Mm} (h:newG m ⟨e,sz,cs,[]⟩ (fun m'=>some (.one (.one (.sl m.n 0 0 n)),m'))=some (r,m')) (b:Nat) :
  ∃ φ',Le φ φ'∧r.den φ'=some (.slice (some ⟨b,0,none⟩) n c)∧SR φ' m' Fr ((b,.var (.agg xs.toArray),e)::M):=by
 obtain ⟨hb,h⟩:=Vt h
 simp only [Option.some.injEq,Prod.mk.injEq] at h
 obtain ⟨rfl,rfl⟩:=h
 have h1:=hS.new hb ⟨b,0,c,[]⟩ (g:=⟨e,sz,cs,[]⟩) rfl hx ⟨rfl,fun _=>⟨by simpa using hc,hm⟩⟩
 refine ⟨_,Le.snoc φ ⟨b,0,c,[]⟩,?_,?_⟩
 ·simp only [SV.den,GV.den,C.den,← hS.len,Ja,Nat.zero_add,Nat.sub_zero]
 ·simpa [ent] using h1
theorem qt {z:List C} {zs:List Value} (h:dens φ z=some zs):∀ n,dens φ (zeros n z)=some ((List.replicate n zs).flatten)
 | 0=>rfl
 | n+1=>JO h (qt h n)
theorem Qcm {z:Value} (n:Nat):(List.replicate n z).flatMap (fun v=>v.cells.toList)=(List.replicate n z.cells.toList).flatten:=by
 induction n with
 | zero=>rfl
 | succ n ih=>simp only [List.replicate_succ,List.flatMap_cons,List.flatten_cons,ih]
def gcells:List GV→List C
 | []=>[]
 | v::r=>v.cells++gcells r
theorem jO:∀ {vs:List GV} {ys:List Value},gdens φ vs=some ys→dens φ (gcells vs)=some (ys.flatMap fun v=>v.cells.toList)
 | [],ys,h=>by simp [gdens] at h; subst h; rfl
 | v::r,ys,h=>by
  obtain ⟨u,us,h1,h2,rfl⟩:=QN h
  exact JO (GV.cells_den h1) (jO h2)
def allSz (s:Nat):List GV→Bool
 | []=>true
 | v::r=>Nat.beq v.cells.length s && allSz s r
theorem vB {s:Nat}:∀ {vs:List GV} {ys:List Value},allSz s vs=true→gdens φ vs=some ys→∀ v ∈ ys,v.cells.toList.length=s
 | [],ys,_,h=>by simp [gdens] at h; subst h; intro v hv; cases hv
 | v::r,ys,ha,h=>by
  obtain ⟨u,us,h1,h2,rfl⟩:=QN h
  simp only [allSz,Bool.and_eq_true] at ha
  intro w hw
  rcases List.mem_cons.1 hw with rfl | hw
  ·rw [QK (GV.cells_den h1)]; exact Nat.eq_of_beq_eq_true ha.1
  ·exact vB ha.2 h2 w hw
noncomputable def mkG (Q:Tab) (env:Tr SV) (m:Mm):Op→Option (SV × Mm)
 | .alloc t=>match tyG Q t with
  | some ti=>match ofCs ti.zero.cells.toList with
   | some cs=>varG m t cs
   | none=>none
  | none=>none
 | .box t x=>match evG env x with
  | some (.one v)=>varG m t v.cells
  | _=>none
 | .makeSlice t x y=>match evG env x,evG env y,Q.ty.get t with
  | some (.one (.one (.it _ a))),some (.one (.one (.it _ b))),some ⟨.slice e,_,_,_⟩=>match natOf a,natOf b,Q.ty.get e with
   | some p,some q,some ti=>match ofCs ti.zero.cells.toList with
    | some cs=>bif Nat.ble p q && Nat.blt 0 ti.size && Nat.beq cs.length ti.size && Nat.ble (ti.bytes*q) 281474976710656 && Nat.ble q 9223372036854775807 then frL (zeros q cs) fun cs=>newG m ⟨e,ti.size,cs,[]⟩ fun m'=>some (.one (.one (.sl m.n 0 0 p)),m') else none
    | none=>none
   | _,_,_=>none
  | _,_,_=>none
 | .buildSlice t len parts=>match Q.ty.get t with
  | some ⟨.slice e,_,_,_⟩=>match Q.ty.get e,evGs env (parts.toList.map (·.2)) with
   | some ti,some vs=>bif seqB 0 parts.toList && Nat.beq vs.length len && allSz ti.size vs && Nat.beq ti.zero.cells.toList.length ti.size && Nat.ble (len*ti.size) 16777216 && Nat.ble len 9223372036854775807 then frL (gcells vs) fun cs=>newG m ⟨e,ti.size,cs,[]⟩ fun m'=>some (.one (.one (.sl m.n 0 0 len)),m') else none
   | _,_=>none
  | _=>none
 | _=>none
theorem QdE {f:Bool} {T:TT} {o:Oper} (h:isC (kd T o.op)=true):cB f T o=true:=by simp [cB,h]
theorem yj (hQ:TabOK P T Q U) (hE:ER φ env E) (hS:SR φ m Fr M) (hg:gok L E o.guard=some true) {d:Nat} (hd:o.dst=some d) (hN:Nat.blt d N=true) {r:SV} {m':Mm} (h:mkG Q env m o.op=some (r,m'))
  (k:∀ φ' x M',Le φ φ'→r.den φ'=some x→SR φ' m' Fr M'→SL P T L K N G l ((d,x)::E) U M'):SL P T L K N G ((f,i,o)::l) E U M:=by
 generalize ho:o.op=op at h
 cases op<;>simp only [mkG,reduceCtorEq] at h
 case alloc t =>
  split at h
  ·rename_i ti ht
   split at h
   ·rename_i cs hcs
    refine .al ho hg (fun w=>(yw hQ ht).run_zero w) hd hN fun b=>?_
    obtain ⟨φ',h1,h2,h3⟩:=QaC hS (Yx hcs) h b
    refine slM (k φ' _ _ h1 h2 h3) (MEq.cells ?_ b t M)
    simp [Blk.cells,Value.cells]
   ·cases h
  ·cases h
 case box t x =>
  split at h
  ·rename_i v hx
   obtain ⟨y,h4,h5⟩:=Qh hE hx
   have h4':v.den φ=some y:=h4
   refine QcM ho h5 hg (QdE (by rw [ho]; rfl)) hd hN fun b=>?_
   obtain ⟨φ',h1,h2,h3⟩:=QaC hS (GV.cells_den h4') h b
   refine slM (k φ' _ _ h1 h2 h3) (MEq.cells ?_ b t M)
   simp [Blk.cells,Value.cells]
  ·cases h
 case makeSlice t x y =>
  split at h
  ·rename_i k1 a k2 b e tsz tbt tz hx hy hT
   split at h
   ·rename_i p q ti hp hq he
    split at h
    ·rename_i cs hcs
     cases hb:(Nat.ble p q && Nat.blt 0 ti.size && Nat.beq cs.length ti.size && Nat.ble (ti.bytes*q) 281474976710656 && Nat.ble q 9223372036854775807)
     ·rw [hb] at h; cases h
     ·rw [hb,cond_true,QZ] at h
      simp only [Bool.and_eq_true] at hb
      obtain ⟨⟨⟨⟨c1,c2⟩,c3⟩,c4⟩,c5⟩:=hb
      obtain ⟨z1,g1,g2⟩:=Qh hE hx
      obtain rfl:=QI (Qi g1)
      obtain ⟨z2,g3,g4⟩:=Qh hE hy
      obtain rfl:=QI (Qi g3)
      obtain rfl:=Ym hp
      obtain rfl:=Ym hq
      obtain ⟨tk,ts,tb,tz'⟩:=ti
      have hz:=Yx (φ:=φ) hcs
      have hzl:=QK hz
      have c3':=Nat.eq_of_beq_eq_true c3
      refine Qfd hQ.sym ho g2 g4 (hQ.ty _ _ hT) (hQ.ty _ _ he) rfl rfl (hzl.trans c3') c2 (Nat.le_of_ble_eq_true c1) (Nat.le_of_ble_eq_true c4) (Nat.le_of_ble_eq_true c5) hg (QdE (by rw [ho]; rfl)) hd hN fun b=>?_
      have hlen:((List.replicate q tz'.cells.toList).flatten).length=q*ts:=by rw [List.length_flatten]; simp only [List.map_replicate,List.sum_replicate_nat]; rw [hzl,c3']
      obtain ⟨φ',h1,h2,h3⟩:=Qaq hS (qt hz q) hlen (Nat.le_of_ble_eq_true c5) h b
      refine slM (k φ' _ _ h1 h2 h3) (MEq.cells ?_ b e M)
      show ((List.replicate q tz').flatMap fun v=>v.cells.toList).toArray=_
      rw [Qcm]; rfl
    ·cases h
   ·cases h
  ·cases h
 case buildSlice t len parts =>
  split at h
  ·rename_i e tsz tbt tz hT
   split at h
   ·rename_i ti vs he hv
    cases hb:(seqB 0 parts.toList && Nat.beq vs.length len && allSz ti.size vs && Nat.beq ti.zero.cells.toList.length ti.size && Nat.ble (len*ti.size) 16777216 && Nat.ble len 9223372036854775807)
    ·rw [hb] at h; cases h
    ·rw [hb,cond_true,QZ] at h
     simp only [Bool.and_eq_true] at hb
     obtain ⟨⟨⟨⟨⟨c1,c2⟩,c3⟩,c4⟩,c5⟩,c6⟩:=hb
     obtain ⟨ys,g1,g2⟩:=qb hE hv
     obtain ⟨tk,ts,tb,tz'⟩:=ti
     have hys:=YN g1
     have c2':=Nat.eq_of_beq_eq_true c2
     have hsz:=vB c3 g1
     refine Qbf hQ.sym (ps:=parts.toList) (by rw [ho]) c1 g2 (hQ.ty _ _ hT) (hQ.ty _ _ he) (by omega) hsz (Nat.eq_of_beq_eq_true c4) c5 hg (QdE (by rw [ho]; rfl)) hd hN fun b=>?_
     obtain ⟨φ',h1,h2,h3⟩:=Qaq hS (jO g1) (by rw [YE hsz]; congr 1; omega) (Nat.le_of_ble_eq_true c6) h b
     refine slM (k φ' _ _ h1 h2 h3) (MEq.cells ?_ b e M)
     simp only [Blk.cells,Value.cells]
   ·cases h
  ·cases h
end Go.Gx

/- Stores, slice expressions and append in runs by the kernel. No condition. -/
namespace Go.Gx
open Go.Hp
variable {P:Program} {T:TT} {K:Kont} {N:Nat} {G:World} {E:Env} {U:UH} {M Fr:MH} {L:List Oper} {l:List Ent} {f:Bool} {i:Nat} {o:Oper} {φ:Phi} {env:Tr SV} {Q:Tab} {m:Mm}
noncomputable def storeG (Q:Tab) (mark:Nat) (m:Mm) (t:Nat):SV→GV→Option Mm
 | .one (.one (.pt l o)),v=>match m.t.get l,tyG Q t with
  | some g,some ti=>bif Nat.ble mark l && Nat.beq v.cells.length ti.size && Nat.ble (o+ti.size) g.cells.length then
    frL (setSegC g.cells o v.cells) fun cs=>putK fuelM m.t l (some ⟨g.ty,g.sz,cs,[]⟩) fun t=>some ⟨t,m.n,dropA g.als m.al⟩ else none
  | _,_=>none
 | _,_=>none
theorem qL {xs pad us:List Value} {off:Nat} (h:off+us.length≤xs.length):setSeg (xs++pad) off us=setSeg xs off us++pad:=by
 simp only [setSeg]
 rw [List.take_append_of_le_length (by omega),List.drop_append_of_le_length (by omega),List.append_assoc,List.append_assoc,List.append_assoc]
theorem qR {xs us:List Value} {off:Nat} (h:off+us.length≤xs.length):(setSeg xs off us).length=xs.length:=by
 simp only [setSeg,List.length_append,List.length_take,List.length_drop]; omega
theorem Qbd {t b off tb:Nat} {x y:Operand} {v:Value} {c:Array Value} {ti:TI} (mm:Nat) (hT:TI.ok P t ti) (ho:o.op = .store t x y) (hx:ev E x=some (.pointer (some ⟨b,off,none⟩))) (hy:ev E y=some v)
  (hM:nth M mm=some (b,.var (.agg c),tb)) (hv:v.cells.toList.length=ti.size) (hold:Nat.ble (off+ti.size) c.toList.length=true) (h1:v.cells.toList.all Value.oneCell'=true)
  (hg:gok L E o.guard=some true) (hk:xB f T o=true) (hd:o.dst=none) (h:SL P T L K N G l E U (M.set mm (b,.var (.agg (setSeg c.toList off v.cells.toList).toArray),tb))):SL P T L K N G ((f,i,o)::l) E U M:=by
 rw [Qw] at hM
 refine yy hg hk hd (fun a w ha hw=>?_) h
 have hb:=hw.own_at hM
 have hold':=Nat.le_of_ble_eq_true hold
 have hrun:=JB (off:=off) hT hb hv h1 (by simp only [Blk.cells,Value.cells]; simpa using hold')
 refine ⟨_,?_,hw.setRow hM (k' := .var (.agg (setSeg c.toList off v.cells.toList).toArray)) (cs:=((Blk.var (.agg c)).cells.toList.take off++v.cells.toList++(Blk.var (.agg c)).cells.toList.drop (off+ti.size)).toArray) ?_⟩
 ·simp only [execOp,ho,ha.eval hx,ha.eval hy,Instr.storeAt,Instr.sureAddr,pure_bind,Sem.run_bind,hrun,Result.andThen_ok,Sem.run_pure]
 ·have e1:(Blk.var (.agg c)).cells=c:=rfl
  have e2:∀ x,(Blk.var (.agg x)).cells=x:=fun _=>rfl
  rw [e1,e2,setSeg,hv]
theorem Qbn (hQ:TabOK P T Q U) (hE:ER φ env E) (hS:SR φ m Fr M) (hg:gok L E o.guard=some true) (hk:xB f T o=true) (hd:o.dst=none) {t mark:Nat} {x y:Operand} (ho:o.op = .store t x y) {a:SV} {v:GV}
  (ha:evG env x=some a) (hv:evG env y=some (.one v)) {m':Mm} (h:storeG Q mark m t a v=some m') (k:∀ M',SR φ m' Fr M'→SL P T L K N G l E U M'):SL P T L K N G ((f,i,o)::l) E U M:=by
 unfold storeG at h
 split at h
 ·rename_i lev off
  split at h
  ·rename_i g ti hgl ht
   cases hb:(Nat.ble mark lev && Nat.beq v.cells.length ti.size && Nat.ble (off+ti.size) g.cells.length)
   ·rw [hb] at h; cases h
   ·rw [hb,cond_true,QZ,QG,Option.some.injEq] at h
    subst h
    simp only [Bool.and_eq_true] at hb
    obtain ⟨⟨-,c2⟩,c3⟩:=hb
    have c2':=Nat.eq_of_beq_eq_true c2
    have c3':=Nat.le_of_ble_eq_true c3
    obtain ⟨z1,g1,g2⟩:=Qh hE ha
    obtain ⟨d,hd1,rfl⟩:=qY (Qi g1)
    obtain ⟨z2,g3,g4⟩:=Qh hE hv
    have g3':v.den φ=some z2:=g3
    have hcv:=GV.cells_den g3'
    obtain ⟨d',xs,R,h1,h2,h3,h4,-,h5⟩:=hS.get hgl
    rw [hd1,Option.some.injEq] at h1
    subst h1
    rw [h3.1,Nat.zero_add] at g2
    have hlx:=QK h2
    have hlv:=QK hcv
    have hfit:off+z2.cells.toList.length≤xs.length:=by rw [hlv,hlx,c2']; exact c3'
    refine slM ?_ (MEq.of_perm h4)
    refine Qbd 0 (yw hQ ht) ho g2 g4 (rfl:nth (ent d g xs::R) 0=some (d.b,.var (.agg (xs++d.pad).toArray),g.ty)) (by rw [hlv,c2']) ?_ (qO hcv) hg hk hd ?_
    ·refine Nat.ble_eq_true_of_le ?_
     simp only [List.length_append]; omega
    ·have h6:=h5 ⟨g.ty,g.sz,setSegC g.cells off v.cells,[]⟩ _ rfl (Va h2 hcv) ⟨h3.1,fun hz=>by rw [qR hfit]; exact h3.2 hz⟩
     have e:(ent d g xs::R).set 0 (d.b,.var (.agg (setSeg (xs++d.pad).toArray.toList off z2.cells.toList).toArray),g.ty)=ent d ⟨g.ty,g.sz,setSegC g.cells off v.cells,[]⟩ (setSeg xs off z2.cells.toList)::R:=by
      simp only [List.set_cons_zero,ent,qL hfit]
     rw [e]
     exact k _ h6
  ·cases h
 ·cases h
noncomputable def bndG (env:Tr SV) (n:Nat):Option Operand→Option Nat
 | none=>some n
 | some y=>match evG env y with
  | some (.one (.one (.it _ z)))=>natOf z
  | _=>none
theorem qn (hE:ER φ env E) {n h:Nat} {y:Option Operand} (hb:bndG env n y=some h):(y=none∧h=n)∨∃ z k iv,y=some z∧ev E z=some (.int k iv)∧iv=(h:Int):=by
 cases y with
 | none=>simp only [bndG,Option.some.injEq] at hb; exact .inl ⟨rfl,hb.symm⟩
 | some z =>
  simp only [bndG] at hb
  split at hb
  ·rename_i k iv hz
   obtain ⟨u,h1,h2⟩:=Qh hE hz
   obtain rfl:=QI (Qi h1)
   exact .inr ⟨z,k,iv,rfl,h2,Ym hb⟩
  ·cases hb
noncomputable def sliceG (Q:Tab) (env:Tr SV) (m:Mm):Op→Option (SV × Mm)
 | .slice t x lo hi none=>match Q.ty.get t,evG env x,bndG env 0 lo with
  | some ⟨.slice e,_,_,_⟩,some (.one (.one .sn)),some p=>match Q.ty.get e,bndG env 0 hi with
   | some _,some q=>bif Nat.beq p 0 && Nat.beq q 0 then some (.one (.one .sn),m) else none
   | _,_=>none
  | some ⟨.slice e,_,_,_⟩,some (.one (.one (.sl lev o j n))),some p=>match Q.ty.get e,bndG env n hi with
   | some ti,some q=>bif Nat.beq q 0 then (bif Nat.beq p 0 then some (.one (.one (.sl lev o j 0)),m) else none) else match m.get lev with
    | some g=>bif Nat.blt 0 g.sz && Nat.ble ((j+q)*g.sz) g.cells.length then
      (bif Nat.beq p 0 then some (.one (.one (.sl lev o j q)),m)
       else bif Nat.blt p q then frN (o+p*ti.size) fun o=>frN (j+p) fun j=>frN (q - p) fun q=>some (.one (.one (.sl lev o j q)),m)
       else bif Nat.beq p q && Nat.blt m.n fuelM then frN (m.n+1) fun n=>some (.one (.one (.sl m.n 0 0 0)),⟨m.t,n,m.al⟩) else none)
     else none
    | none=>none
   | _,_=>none
  | _,_,_=>none
 | _=>none
theorem qB {d:Nat} {v:Value} (hy:Yl P N G o E U M v) (hk:isY (kd T o.op)=true) (hd:o.dst=some d) (hN:Nat.blt d N=true) (hg:gok L E o.guard=some true)
  (h:SL P T L K N G l ((d,v)::E) U M):SL P T L K N G ((f,i,o)::l) E U M:=sl_y hy (by simp [yB,hk]) hd hN hg h
theorem Qbl (hQ:TabOK P T Q U) (hE:ER φ env E) (hS:SR φ m Fr M) (hg:gok L E o.guard=some true) {d:Nat} (hd:o.dst=some d) (hN:Nat.blt d N=true) {r:SV} {m':Mm} (h:sliceG Q env m o.op=some (r,m'))
  (k:∀ φ' x M',Le φ φ'→r.den φ'=some x→SR φ' m' Fr M'→SL P T L K N G l ((d,x)::E) U M'):SL P T L K N G ((f,i,o)::l) E U M:=by
 unfold sliceG at h
 split at h
 ·rename_i op t x lo hi ho
  have hk:isY (kd T o.op)=true:=by rw [ho]; rfl
  split at h
  ·rename_i e tsz tbt tz p hT hx hp
   split at h
   ·rename_i ti q he hq
    cases hb:(Nat.beq p 0 && Nat.beq q 0)
    ·rw [hb] at h; cases h
    ·rw [hb,cond_true] at h
     simp only [Option.some.injEq,Prod.mk.injEq] at h
     obtain ⟨rfl,rfl⟩:=h
     simp only [Bool.and_eq_true] at hb
     have e1:=Nat.eq_of_beq_eq_true hb.1
     have e2:=Nat.eq_of_beq_eq_true hb.2
     subst e1 e2
     obtain ⟨z1,g1,g2⟩:=Qh hE hx
     obtain rfl:=YA (Qi g1)
     have hy:=yS (N:=N) (G:=G) (U:=U) (M:=M) hQ.sym ho g2 (hQ.ty _ _ hT) (hQ.ty _ _ he) (qn hE hp) (qn hE hq) (Nat.le_refl _) (Nat.le_refl _)
     exact qB hy hk hd hN hg (k φ _ _ (Le.refl φ) (by simp [SV.den,GV.den,C.den]) hS)
   ·cases h
  ·rename_i e tsz tbt tz lev off j n p hT hx hp
   split at h
   ·rename_i ti q he hq
    obtain ⟨z1,g1,g2⟩:=Qh hE hx
    obtain ⟨dd,hdd,rfl⟩:=Ve (Qi g1)
    obtain ⟨tk,tsz',tb,tzz⟩:=ti
    have hyl:=fun (h1:p≤q) (h2:q≤dd.c - j)=>yS (N:=N) (G:=G) (U:=U) (M:=M) hQ.sym ho g2 (hQ.ty _ _ hT) (hQ.ty _ _ he) (qn hE hp) (qn hE hq) h1 h2
    cases hq0:Nat.beq q 0
    ·rw [hq0,cond_false] at h
     have hq0':q≠0:=fun e=>by subst e; simp at hq0
     split at h
     ·rename_i g hgl
      cases hb:(Nat.blt 0 g.sz && Nat.ble ((j+q)*g.sz) g.cells.length)
      ·rw [hb] at h; cases h
      ·rw [hb,cond_true] at h
       simp only [Bool.and_eq_true] at hb
       have c1:0 < g.sz:=Nat.le_of_ble_eq_true hb.1
       have c2:=Nat.le_of_ble_eq_true hb.2
       obtain ⟨d',xs,h1,h2,h3,-⟩:=hS.read hgl
       rw [hdd,Option.some.injEq] at h1
       subst h1
       have hlx:=QK h2
       have h5:=(h3.2 (by omega)).1
       have hcap:j+q≤dd.c:=by
        have:(j+q)*g.sz≤dd.c*g.sz:=by omega
        exact Nat.le_of_mul_le_mul_right this c1
       cases hp0:Nat.beq p 0
       ·rw [hp0,cond_false] at h
        have hp0':p≠0:=fun e=>by subst e; simp at hp0
        cases hpq:Nat.blt p q
        ·rw [hpq,cond_false] at h
         cases hpe:(Nat.beq p q && Nat.blt m.n fuelM)
         ·rw [hpe] at h; cases h
         ·rw [hpe,cond_true,Qy] at h
          simp only [Option.some.injEq,Prod.mk.injEq] at h
          obtain ⟨rfl,rfl⟩:=h
          simp only [Bool.and_eq_true] at hpe
          obtain rfl:=Nat.eq_of_beq_eq_true hpe.1
          have hm:m.n < fuelM:=Nat.le_of_ble_eq_true hpe.2
          have hy:=hyl (Nat.le_refl _) (by omega)
          have hS':=fun X=>hS.skip hm ⟨dd.b,X,dd.c - j - p,[]⟩
          by_cases hc:dd.c - j=p
          ·rw [if_pos hc] at hy
           refine qB hy hk hd hN hg (k _ _ _ (Le.snoc φ ⟨dd.b,dd.o+off,dd.c - j - p,[]⟩) ?_ (hS' _))
           simp only [SV.den,GV.den,C.den,← hS.len,Ja,Nat.add_zero,Nat.sub_zero,Nat.sub_self]
          ·rw [if_neg hc] at hy
           refine qB hy hk hd hN hg (k _ _ _ (Le.snoc φ ⟨dd.b,dd.o+off+p*tsz',dd.c - j - p,[]⟩) ?_ (hS' _))
           simp only [SV.den,GV.den,C.den,← hS.len,Ja,Nat.add_zero,Nat.sub_zero,Nat.sub_self,Option.map_some,QF]
        ·rw [hpq,cond_true,Qy,Qy,Qy] at h
         simp only [Option.some.injEq,Prod.mk.injEq] at h
         obtain ⟨rfl,rfl⟩:=h
         have hlt:p < q:=Nat.le_of_ble_eq_true hpq
         have hy:=hyl (by omega) (by omega)
         rw [if_neg (by omega)] at hy
         refine qB hy hk hd hN hg (k φ _ _ (Le.refl φ) ?_ hS)
         simp only [SV.den,GV.den,C.den,hdd,Option.map_some,QF,Nat.add_assoc,Nat.sub_sub]
       ·rw [hp0,cond_true] at h
        simp only [Option.some.injEq,Prod.mk.injEq] at h
        obtain ⟨rfl,rfl⟩:=h
        obtain rfl:=Nat.eq_of_beq_eq_true hp0
        have hy:=hyl (by omega) (by omega)
        refine qB hy hk hd hN hg (k φ _ _ (Le.refl φ) ?_ hS)
        simp only [SV.den,GV.den,C.den,hdd,Option.map_some,QF,Nat.zero_mul,Nat.add_zero,Nat.sub_zero,ite_self]
     ·cases h
    ·rw [hq0,cond_true] at h
     obtain rfl:=Nat.eq_of_beq_eq_true hq0
     cases hp0:Nat.beq p 0
     ·rw [hp0] at h; cases h
     ·rw [hp0,cond_true] at h
      simp only [Option.some.injEq,Prod.mk.injEq] at h
      obtain ⟨rfl,rfl⟩:=h
      obtain rfl:=Nat.eq_of_beq_eq_true hp0
      have hy:=hyl (by omega) (by omega)
      refine qB hy hk hd hN hg (k φ _ _ (Le.refl φ) ?_ hS)
      simp only [SV.den,GV.den,C.den,hdd,Option.map_some,QF,Nat.zero_mul,Nat.add_zero,Nat.sub_zero,ite_self]
   ·cases h
  ·cases h
 ·cases h
end Go.Gx

/- append in runs by the kernel. No condition. -/
namespace Go.Gx
open Go.Hp
variable {P:Program} {T:TT} {K:Kont} {N:Nat} {G:World} {E:Env} {U:UH} {M Fr:MH} {L:List Oper} {l:List Ent} {f:Bool} {i:Nat} {o:Oper} {φ:Phi} {env:Tr SV} {Q:Tab} {m:Mm}
noncomputable def srcG (m:Mm) (sz:Nat):C→Option (Nat × List C)
 | .sn=>some (0,[])
 | .sl lev o _ k=>bif Nat.beq k 0 then some (0,[]) else match m.get lev with
  | some g=>bif Nat.ble (o+k*sz) g.cells.length then some (k,(g.cells.drop o).take (k*sz)) else none
  | none=>none
 | _=>none
theorem Qas (hS:SR φ m Fr M) {sz:Nat} {c:C} {y:Value} (hy:c.den φ=some y) {k:Nat} {cs:List C} (h:srcG m sz c=some (k,cs)) :
  ∃ q c' news,y = .slice q k c'∧dens φ cs=some news∧news.length=k*sz∧(k≠0→∃ a,q=some a∧∀ w,Mem G U M w→∀ j u,news[j]?=some u→w.cell? (a.add j)=some u):=by
 unfold srcG at h
 split at h
 ·simp only [Option.some.injEq,Prod.mk.injEq] at h
  obtain ⟨rfl,rfl⟩:=h
  obtain rfl:=YA hy
  exact ⟨none,0,[],rfl,rfl,by simp,fun h=>absurd rfl h⟩
 ·rename_i lev off j n
  obtain ⟨d,hd,rfl⟩:=Ve hy
  cases hk:Nat.beq n 0
  ·rw [hk,cond_false] at h
   split at h
   ·rename_i g hg
    cases hb:Nat.ble (off+n*sz) g.cells.length
    ·rw [hb] at h; cases h
    ·rw [hb,cond_true] at h
     simp only [Option.some.injEq,Prod.mk.injEq] at h
     obtain ⟨rfl,rfl⟩:=h
     have hle:=Nat.le_of_ble_eq_true hb
     obtain ⟨d',xs,h1,h2,h3,h4⟩:=hS.read hg
     rw [hd,Option.some.injEq] at h1
     subst h1
     have hlx:=QK h2
     refine ⟨_,_,(xs.drop off).take (n*sz),rfl,Ye _ (Yi _ h2),by rw [List.length_take,List.length_drop]; omega,fun _=>⟨_,rfl,fun w hw j u hu=>?_⟩⟩
     obtain ⟨zs,ty,hh⟩:=h4 _ _ w hw
     rw [h3.1,Nat.zero_add,QF]
     simp only [World.cell?,hh,Option.isSome_none,Bool.false_eq_true,if_false,List.getElem?_toArray]
     rw [List.getElem?_take] at hu
     split at hu
     ·rw [List.getElem?_drop] at hu
      rw [List.getElem?_append_left (List.getElem?_eq_some_iff.1 hu).1]; exact hu
     ·cases hu
   ·cases h
  ·rw [hk,cond_true] at h
   simp only [Option.some.injEq,Prod.mk.injEq] at h
   obtain ⟨rfl,rfl⟩:=h
   obtain rfl:=Nat.eq_of_beq_eq_true hk
   exact ⟨_,_,[],rfl,rfl,by simp,fun h=>absurd rfl h⟩
 ·cases h
noncomputable def fitG (m:Mm) (sz:Nat):C→Bool
 | .sn=>true
 | .sl lev _ j n=>Nat.beq n 0 || (match m.get lev with
  | some g=>Nat.beq g.sz sz && Nat.blt 0 sz && Nat.ble ((j+n)*sz) g.cells.length
  | none=>false)
 | _=>false
noncomputable def addG (mark:Nat) (m:Mm) (e sz bytes:Nat) (k:Nat) (news:List C):C→Option (SV × Mm)
 | .sn=>bif Nat.ble (k*bytes) 140737488355328 && Nat.ble k 9223372036854775807 then newG m ⟨e,sz,news,[]⟩ fun m'=>some (.one (.one (.sl m.n 0 0 k)),m') else none
 | .sl lev 0 0 n=>match m.t.get lev with
  | some g=>bif Nat.ble mark lev && Nat.beq g.sz sz && Nat.beq g.ty e && Nat.blt 0 sz && Nat.ble ((n+k)*bytes) 140737488355328 && Nat.ble (n+k) 9223372036854775807 then
    (bif Nat.ble (n*sz+k*sz) g.cells.length then frL (setSegC g.cells (n*sz) news) fun cs=>putK fuelM m.t lev (some ⟨g.ty,g.sz,cs,[]⟩) fun t=>frN (n+k) fun n=>some (.one (.one (.sl lev 0 0 n)),⟨t,m.n,dropA g.als m.al⟩)
     else bif Nat.beq g.cells.length (n*sz) then frL (g.cells++news) fun cs=>putK fuelM m.al lev (some g) fun al=>putK fuelM m.t lev none fun t=>frN (n+k) fun n=>newG ⟨t,m.n,al⟩ ⟨e,sz,cs,lev::g.als⟩ fun m'=>some (.one (.one (.sl m.n 0 0 n)),m') else none) else none
  | none=>none
 | _=>none
noncomputable def appG (Q:Tab) (mark:Nat) (env:Tr SV) (m:Mm):Op→Option (SV × Mm)
 | .call c=>match c.callee,c.args.toList,c.argTypes.toList with
  | .builtin .append,[x,y],[t,t']=>bif Nat.beq t t' then (match evG env x,evG env y,Q.ty.get t with
   | some (.one (.one x)),some (.one (.one y)),some ⟨.slice e,_,_,_⟩=>match Q.ty.get e with
    | some ti=>bif Nat.beq ti.zero.cells.toList.length ti.size && Nat.blt 0 ti.size then (match srcG m ti.size y with
     | some (0,_)=>bif fitG m ti.size x then some (.one (.one x),m) else none
     | some (k+1,news)=>addG mark m e ti.size ti.bytes (k+1) news x
     | none=>none) else none
    | none=>none
   | _,_,_=>none) else none
  | _,_,_=>none
 | _=>none
theorem Qea (hS:SR φ m Fr M) {sz:Nat} {c:C} {y:Value} (hy:c.den φ=some y) (h:fitG m sz c=true):∃ q n c',y = .slice q n c'∧n≤c'∧((q=none∧n=0)∨∃ b o,q=some ⟨b,o,none⟩):=by
 unfold fitG at h
 split at h
 ·obtain rfl:=YA hy
  exact ⟨none,0,0,rfl,Nat.le_refl _,.inl ⟨rfl,rfl⟩⟩
 ·rename_i lev off j n
  obtain ⟨d,hd,rfl⟩:=Ve hy
  simp only [Bool.or_eq_true] at h
  rcases h with h | h
  ·obtain rfl:=Nat.eq_of_beq_eq_true h
   exact ⟨_,_,_,rfl,Nat.zero_le _,.inr ⟨_,_,rfl⟩⟩
  ·split at h
   ·rename_i g hg
    simp only [Bool.and_eq_true] at h
    obtain ⟨⟨c0,c1⟩,c2⟩:=h
    obtain rfl:=Nat.eq_of_beq_eq_true c0
    have c1':0 < g.sz:=Nat.le_of_ble_eq_true c1
    have c2':=Nat.le_of_ble_eq_true c2
    obtain ⟨d',xs,h1,h2,h3,-⟩:=hS.read hg
    rw [hd,Option.some.injEq] at h1
    subst h1
    have hlx:=QK h2
    have h5:=(h3.2 (by omega)).1
    have hcap:j+n≤d.c:=by
     have:(j+n)*g.sz≤d.c*g.sz:=by omega
     exact Nat.le_of_mul_le_mul_right this c1'
    exact ⟨_,_,_,rfl,by omega,.inr ⟨_,_,rfl⟩⟩
   ·cases h
 ·cases h
theorem QbO (z:Array Value) (n:Nat):(Builtin.zeroCells z n).size=n*z.size:=by simp [Builtin.zeroCells]
theorem Qdn {t e ty:Nat} {inf:TypeInfo} (ht:P.underlying t=some (.slice e)) (hi:P.info? e=some inf) {p q:Option Addr} {n c c':Nat} (hn:n≤c) (hp:(p=none∧n=0)∨∃ b o,p=some ⟨b,o,none⟩) (w:World) :
  (Builtin.append_ #[t,t] ty #[.slice p n c,.slice q 0 c']).run P w = .ok (.slice p n c) w:=by
 have hf:(Builtin.firstCells inf.size 0 (.slice q 0 c')).run P w = .ok #[] w:=by
  cases q with
  | none=>simp [Builtin.firstCells]
  | some a=>simp [Builtin.firstCells,loadCells,loadCellsFrom]
 rcases hp with ⟨rfl,rfl⟩ | ⟨b,o,rfl⟩
 ·simp [Builtin.append_,Qg ht,sizeOf,typeInfo,hi,Builtin.lenOf,hf]
 ·simp [Builtin.append_,Qg ht,sizeOf,typeInfo,hi,Builtin.lenOf,hn,hf,storeCells]
theorem Qex (hQ:TabOK P T Q U) (hE:ER φ env E) (hS:SR φ m Fr M) (hg:gok L E o.guard=some true) (hk:f=false) {d:Nat} (hd:o.dst=some d) (hN:Nat.blt d N=true) {mark:Nat} {r:SV} {m':Mm} (h:appG Q mark env m o.op=some (r,m'))
  (k:∀ φ' x M',Le φ φ'→r.den φ'=some x→SR φ' m' Fr M'→SL P T L K N G l ((d,x)::E) U M'):SL P T L K N G ((f,i,o)::l) E U M:=by
 unfold appG at h
 split at h
 ·rename_i op c ho
  split at h
  ·rename_i x y t t' hc ha hat
   cases htt:Nat.beq t t'
   ·rw [htt] at h; cases h
   ·rw [htt,cond_true] at h
    obtain rfl:=Nat.eq_of_beq_eq_true htt
    split at h
    ·rename_i x' y' e tsz tbt tz hx hy hT
     split at h
     ·rename_i ti he
      cases hzb:(Nat.beq ti.zero.cells.toList.length ti.size && Nat.blt 0 ti.size)
      ·rw [hzb] at h; cases h
      ·rw [hzb,cond_true] at h
       simp only [Bool.and_eq_true] at hzb
       have hz:=Nat.eq_of_beq_eq_true hzb.1
       have h0:0 < ti.size:=Nat.le_of_ble_eq_true hzb.2
       obtain ⟨zx,gx1,gx2⟩:=Qh hE hx
       obtain ⟨zy,gy1,gy2⟩:=Qh hE hy
       have gx1':x'.den φ=some zx:=gx1
       have gy1':y'.den φ=some zy:=gy1
       have hop:o.op = .call { callee := .builtin .append,args := #[x,y],argTypes := #[t,t] }:=by
        rw [ho]
        obtain ⟨cc,ca,ct⟩:=c
        simp only at hc ha hat
        subst hc
        have e1:=congrArg List.toArray ha
        have e2:=congrArg List.toArray hat
        simp only [Array.toArray_toList] at e1 e2
        rw [e1,e2]
       obtain ⟨dd,hdd,hkk⟩:=(hQ.sym.at (hQ.ty _ _ hT)).und
       have:=QJ hkk
       subst this
       obtain ⟨inf,-,hi,hiz,hsz,hby⟩:=(hQ.sym.at (hQ.ty _ _ he)).run_info (P:=P) default
       have eff:(∀ a w,Has a N E→Mem G U M w→∃ v w' U' M',(execOp a.eval o).run P w = .ok (.value v) w'∧Mem G U' M' w'∧(U'=U∧∃ φ',Le φ φ'∧r.den φ'=some v∧SR φ' m' Fr M'))→SL P T L K N G ((f,i,o)::l) E U M:=by
        intro hrun
        refine QfR (R:=fun v U' M'=>U'=U∧∃ φ',Le φ φ'∧r.den φ'=some v∧SR φ' m' Fr M') hg (by rw [hk]; rfl) hd hN hrun ?_
        rintro v U' M' ⟨rfl,φ',h1,h2,h3⟩
        exact k φ' v M' h1 h2 h3
       have toExec:∀ (a:Act) (w:World) (v:Value) (w':World),Has a N E→(Builtin.append_ #[t,t] o.type #[zx,zy]).run P w = .ok v w'→(execOp a.eval o).run P w = .ok (.value v) w':=by
        intro a w v w' hA hrun
        simp only [execOp,hop,resolve,List.map_toArray,List.map_cons,List.map_nil,hA.eval gx2,hA.eval gy2,Sem.run_bind,Sem.run_pure,Result.andThen_ok,invoke,builtin,hrun]
       split at h
       ·rename_i news hsrc
        cases hfit:fitG m ti.size x'
        ·rw [hfit] at h; cases h
        ·rw [hfit,cond_true] at h
         simp only [Option.some.injEq,Prod.mk.injEq] at h
         obtain ⟨rfl,rfl⟩:=h
         obtain ⟨p,n,cp,rfl,hn,hp⟩:=Qea hS gx1' hfit
         obtain ⟨q,c',nw,rfl,-,-,-⟩:=Qas (G:=G) (U:=U) hS gy1' hsrc
         refine eff fun a w hA hw=>⟨_,_,_,_,toExec a w _ _ hA (Qdn hdd hi hn hp w),hw,rfl,φ,Le.refl φ,gx1,hS⟩
       ·rename_i k0 news hsrc
        obtain ⟨q,c',nw,rfl,hnd,hnl,hnq⟩:=Qas (G:=G) (U:=U) hS gy1' hsrc
        replace hnl:nw.length=(k0+1)*ti.size:=hnl
        obtain ⟨a0,rfl,hread⟩:=hnq (by omega)
        have h1c:=qO hnd
        unfold addG at h
        split at h
        ·
         obtain rfl:=YA gx1'
         cases hb:(Nat.ble ((k0+1)*ti.bytes) 140737488355328 && Nat.ble (k0+1) 9223372036854775807)
         ·rw [hb] at h; cases h
         ·rw [hb,cond_true] at h
          simp only [Bool.and_eq_true] at hb
          have b1:=Nat.le_of_ble_eq_true hb.1
          have b2:=Nat.le_of_ble_eq_true hb.2
          obtain ⟨hm,h⟩:=Vt h
          simp only [Option.some.injEq,Prod.mk.injEq] at h
          obtain ⟨rfl,rfl⟩:=h
          refine eff fun a w hA hw=>?_
          have hrun:=run_append_nil (P:=P) w t o.type e inf ti.zero hdd hi hiz a0 (k0+1) c' nw (by rw [hsz]; exact hnl) (hread w hw) (by omega) (by omega) (by rw [hby]; omega)
          have hge:=grownCap_ge w (k0+1) 0 e
          have hle:=grownCap_le_maxLen w (k0+1) 0 e (by simpa [maxLen] using b2)
          simp only [maxLen] at hle
          generalize hcap:grownCap w (k0+1) 0 e=cap at hrun hge hle
          have hzs:ti.zero.cells.size=ti.size:=by simpa using hz
          have hzc:(Builtin.zeroCells ti.zero.cells (cap - (k0+1))).toList.length=(cap - (k0+1))*ti.size:=by rw [Array.length_toList,QbO,hzs]
          generalize Builtin.zeroCells ti.zero.cells (cap - (k0+1))=Z at hrun hzc
          have hal:Mem G U ((w.heap.size,.var (.agg (nw.toArray++Z)),e)::M) (w.drew.alloc (.cells (nw.toArray++Z) e)):=(hw.drawn (w.drawn+1)).alloc (.var (.agg (nw.toArray++Z))) e
          have hS':=hS.new hm ⟨w.heap.size,0,cap,Z.toList⟩ (g:=⟨e,ti.size,news,[]⟩) rfl hnd ⟨rfl,fun _=>⟨by
           show nw.length+Z.toList.length=cap*ti.size
           rw [hzc,hnl,← Nat.add_mul]; congr 1; omega,by show cap≤9223372036854775807; omega⟩⟩
          refine ⟨_,_,U,_,toExec a w _ _ hA hrun,?_,rfl,_,Le.snoc φ ⟨w.heap.size,0,cap,Z.toList⟩,?_,hS'⟩
          ·have e1:(nw++Z.toList).toArray=nw.toArray++Z:=by apply Array.ext'; simp
           simp only [ent,e1]
           exact hal
          ·simp only [SV.den,GV.den,C.den,← hS.len,Ja,Nat.add_zero,Nat.sub_zero]
        ·rename_i lev n
         obtain ⟨dv,hdv,rfl⟩:=Ve gx1'
         split at h
         ·rename_i g hgl
          cases hb:(Nat.ble mark lev && Nat.beq g.sz ti.size && Nat.beq g.ty e && Nat.blt 0 ti.size && Nat.ble ((n+(k0+1))*ti.bytes) 140737488355328 && Nat.ble (n+(k0+1)) 9223372036854775807)
          ·rw [hb] at h; cases h
          ·rw [hb,cond_true] at h
           simp only [Bool.and_eq_true] at hb
           obtain ⟨⟨⟨⟨⟨-,b1⟩,b2⟩,-⟩,b4⟩,b5⟩:=hb
           replace b1:=Nat.eq_of_beq_eq_true b1
           replace b2:=Nat.eq_of_beq_eq_true b2
           replace b4:=Nat.le_of_ble_eq_true b4
           replace b5:=Nat.le_of_ble_eq_true b5
           have gfacts:=hS.get hgl
           obtain ⟨d',xs,R,g1,g2,g3,g4,glt,g5⟩:=gfacts
           rw [hdv,Option.some.injEq] at g1
           subst g1
           have hlx:=QK g2
           obtain ⟨gc1,gc2⟩:=g3.2 (by omega)
           have gd0:=g3.1
           rw [b1] at gc1
           obtain ⟨gty,gsz,gcl,gals⟩:=g
           simp only at b1 b2 hlx g2
           subst b1 b2
           have hrow0:∀ w,Mem G U M w→w.heap[dv.b]?=some (.cells (xs++dv.pad).toArray gty (0,0)):=fun w hw=>Mem.own_at (i:=0) (hw.perm g4) rfl
           have haddr:(⟨dv.b,dv.o+0,none⟩:Addr)=⟨dv.b,0,none⟩:=by rw [gd0]
           cases hroom:Nat.ble (n*ti.size+(k0+1)*ti.size) gcl.length
           ·rw [hroom,cond_false] at h
            cases hend:Nat.beq gcl.length (n*ti.size)
            ·rw [hend] at h; cases h
            ·rw [hend,cond_true,QZ,QG,QG,Qy] at h
             obtain ⟨hm,h⟩:=Vt h
             simp only [Option.some.injEq,Prod.mk.injEq] at h
             obtain ⟨rfl,rfl⟩:=h
             have hend':=Nat.eq_of_beq_eq_true hend
             have hxl:xs.length=n*ti.size:=hlx.trans hend'
             have hncap:n≤dv.c:=by
              have:n*ti.size≤dv.c*ti.size:=by omega
              exact Nat.le_of_mul_le_mul_right this h0
             obtain ⟨d2,xs2,R2,m1,m2,m3,m4,m5⟩:=hS.move hgl hm
             rw [hdv,Option.some.injEq] at m1
             subst m1
             rw [g2,Option.some.injEq] at m2
             subst m2
             refine eff fun a w hA hw=>?_
             by_cases hin:n+(k0+1)≤dv.c
             ·
              have hpl:(k0+1)*ti.size≤dv.pad.length:=by
               have:(n+(k0+1))*ti.size≤dv.c*ti.size:=Nat.mul_le_mul_right _ hin
               rw [Nat.add_mul] at this; omega
              have hrun:=run_append_room (P:=P) w t o.type gty inf hdd hi dv.b n dv.c _ (hrow0 w hw) a0 (k0+1) c' nw (by rw [hsz]; exact hnl) (hread w hw) (fun u hu=>(List.all_eq_true.1 h1c) u hu) hin (by
               rw [hsz,List.size_toArray,List.length_append,hnl]
               show n*ti.size+(k0+1)*ti.size≤_
               omega)
              have hS':=(m5 ⟨dv.b,0,dv.c,dv.pad.drop ((k0+1)*ti.size)⟩ gty ti.size (gcl++news) nw (JO g2 hnd) ⟨rfl,fun _=>⟨by
               show (xs++nw).length+(dv.pad.drop ((k0+1)*ti.size)).length=dv.c*ti.size
               rw [List.length_append,List.length_drop,hnl,← gc1]
               omega,gc2⟩⟩).1 rfl
              refine ⟨_,_,U,_,toExec a w _ _ hA (by simp only [haddr,Nat.sub_zero]; exact hrun),?_,rfl,_,Le.snoc φ ⟨dv.b,0,dv.c,dv.pad.drop ((k0+1)*ti.size)⟩,?_,hS'⟩
              ·have e1:(xs++dv.pad).toArray.toList.take (n*inf.size)++nw++(xs++dv.pad).toArray.toList.drop (n*inf.size+nw.length)=(xs++nw)++dv.pad.drop ((k0+1)*ti.size):=by
                rw [hsz,hnl]
                simp only
                rw [← hxl,List.take_left,List.drop_append]
                rw [List.drop_eq_nil_of_le (by omega),List.nil_append,Nat.add_sub_cancel_left]
               have:=Mem.setRow (hw.perm m4) (i:=0) (k' := .var (.agg ((xs++nw)++dv.pad.drop ((k0+1)*ti.size)).toArray)) (rfl:(ent dv ⟨gty,ti.size,gcl,gals⟩ xs::R2)[0]?=_) (cs:=((xs++nw)++dv.pad.drop ((k0+1)*ti.size)).toArray) rfl
               simp only [e1]
               exact this
              ·simp only [SV.den,GV.den,C.den,← hS.len,Ja,Nat.add_zero,Nat.sub_zero,haddr]
             ·
              have hold:∀ j u,xs[j]?=some u→w.cell? ((⟨dv.b,0,none⟩:Addr).add j)=some u:=fun j u hu=>by
               rw [QF,Mem.cellM (i:=0) (hw.perm g4) rfl]
               simp only [Blk.cells,Value.cells,List.getElem?_toArray,Nat.zero_add]
               rw [List.getElem?_append_left (List.getElem?_eq_some_iff.1 hu).1]; exact hu
              have hfitb:=growslice_fits (need:=n+(k0+1)) (old:=dv.c) (bytes:=inf.bytes) (by omega) (by rw [hby]; exact b4)
              have hrun:=run_append_grow (P:=P) w t o.type gty inf ti.zero hdd hi hiz ⟨dv.b,0,none⟩ n dv.c xs (by rw [hsz]; exact hxl) hold a0 (k0+1) c' nw (by rw [hsz]; exact hnl) (hread w hw) (by omega) (by omega) hfitb
              have hge:=grownCap_ge w (n+(k0+1)) dv.c gty
              have hle:=grownCap_le_maxLen w (n+(k0+1)) dv.c gty (by simpa [maxLen] using b5)
              simp only [maxLen] at hle
              generalize hcap:grownCap w (n+(k0+1)) dv.c gty=cap at hrun hge hle
              have hzs:ti.zero.cells.size=ti.size:=by simpa using hz
              have hzc:(Builtin.zeroCells ti.zero.cells (cap - (n+(k0+1)))).toList.length=(cap - (n+(k0+1)))*ti.size:=by rw [Array.length_toList,QbO,hzs]
              generalize Builtin.zeroCells ti.zero.cells (cap - (n+(k0+1)))=Z at hrun hzc
              have hal:Mem G U ((w.heap.size,.var (.agg (xs.toArray++nw.toArray++Z)),gty)::M) (w.drew.alloc (.cells (xs.toArray++nw.toArray++Z) gty)):=(hw.drawn (w.drawn+1)).alloc (.var (.agg (xs.toArray++nw.toArray++Z))) gty
              have hS':=(m5 ⟨w.heap.size,0,cap,Z.toList⟩ gty ti.size (gcl++news) nw (JO g2 hnd) ⟨rfl,fun _=>⟨by
               show (xs++nw).length+Z.toList.length=cap*ti.size
               rw [List.length_append,hzc,hnl,hxl,← Nat.add_mul,← Nat.add_mul]; congr 1; omega,by show cap≤9223372036854775807; omega⟩⟩).2
              have hle':Le φ (Phi.snoc ⟨φ.l,ent dv ⟨gty,ti.size,gcl,gals⟩ xs::φ.j⟩ ⟨w.heap.size,0,cap,Z.toList⟩):=⟨(Le.snoc φ ⟨w.heap.size,0,cap,Z.toList⟩).g,[ent dv ⟨gty,ti.size,gcl,gals⟩ xs],rfl⟩
              refine ⟨_,_,U,_,toExec a w _ _ hA (by simp only [haddr,Nat.sub_zero]; exact hrun),?_,rfl,_,hle',?_,hS'⟩
              ·have e1:((xs++nw)++Z.toList).toArray=xs.toArray++nw.toArray++Z:=by apply Array.ext'; simp
               simp only [ent,e1]
               exact hal
              ·have hg':(Phi.snoc ⟨φ.l,ent dv ⟨gty,ti.size,gcl,gals⟩ xs::φ.j⟩ ⟨w.heap.size,0,cap,Z.toList⟩).l[m.n]?=some ⟨w.heap.size,0,cap,Z.toList⟩:=by rw [← hS.len]; exact Ja φ _
               simp only [SV.den,GV.den,C.den,hg',Nat.add_zero,Nat.sub_zero]
           ·rw [hroom,cond_true,QZ,QG,Qy] at h
            simp only [Option.some.injEq,Prod.mk.injEq] at h
            obtain ⟨rfl,rfl⟩:=h
            have hroom':=Nat.le_of_ble_eq_true hroom
            have hin:n+(k0+1)≤dv.c:=by
             have:(n+(k0+1))*ti.size≤dv.c*ti.size:=by rw [Nat.add_mul]; omega
             exact Nat.le_of_mul_le_mul_right this h0
            have hfit:n*ti.size+nw.length≤xs.length:=by rw [hnl,hlx]; exact hroom'
            refine eff fun a w hA hw=>?_
            have hrun:=run_append_room (P:=P) w t o.type gty inf hdd hi dv.b n dv.c _ (hrow0 w hw) a0 (k0+1) c' nw (by rw [hsz]; exact hnl) (hread w hw) (fun u hu=>(List.all_eq_true.1 h1c) u hu) hin (by
             rw [hsz,List.size_toArray,List.length_append]
             show n*ti.size+nw.length≤_
             omega)
            have hS':=g5 ⟨gty,ti.size,setSegC gcl (n*ti.size) news,[]⟩ _ rfl (Va g2 hnd) ⟨g3.1,fun hz=>by rw [qR hfit]; exact g3.2 hz⟩
            refine ⟨_,_,U,_,toExec a w _ _ hA (by simp only [haddr,Nat.sub_zero]; exact hrun),?_,rfl,φ,Le.refl φ,?_,hS'⟩
            ·have e1:(xs++dv.pad).toArray.toList.take (n*inf.size)++nw++(xs++dv.pad).toArray.toList.drop (n*inf.size+nw.length)=setSeg xs (n*ti.size) nw++dv.pad:=by
              rw [hsz]
              exact qL (pad:=dv.pad) hfit
             have:=Mem.setRow (hw.perm g4) (i:=0) (k' := .var (.agg (setSeg xs (n*ti.size) nw++dv.pad).toArray)) (rfl:(ent dv ⟨gty,ti.size,gcl,gals⟩ xs::R)[0]?=_) (cs:=(setSeg xs (n*ti.size) nw++dv.pad).toArray) rfl
             simp only [e1]
             exact this
            ·simp only [SV.den,GV.den,C.den,hdv,Nat.sub_zero,haddr]
         ·cases h
        ·cases h
       ·cases h
     ·cases h
    ·cases h
  ·cases h
 ·cases h
end Go.Gx
