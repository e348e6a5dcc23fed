/- Texts of this seat's own, merged: each begins with its own remark. -/
import Derived.Test.YtnjpkncacddplaaGreatDoorM90
import Derived.Test.YtnjpkncacddplaaGreatDoorM19
import Derived.Test.YtnjpkncacddplaaGreatDoorM96
/- Regions in runs by the kernel. No condition. -/
namespace Go.Gx
open Go.Hp
variable {P:Program} {T:TT} {K:Kont} {N:Nat} {G:World} {E:Env} {U:UH} {M Fr:MH} {L:List Oper} {l:List Ent} {f:Bool} {i:Nat} {o:Oper} {φ:Phi} {env:Tr SV} {Q:Tab} {m:Mm}
theorem jb {α:Type}:∀ {t:Tr α} {e:Nat × α},e ∈ t.ents→t.get e.1=some e.2
 | .nil,e,h=>by cases h
 | .node a v b,e,h=>by
  simp only [Tr.ents,List.mem_append,List.mem_map] at h
  rcases h with h | ⟨x,hx,rfl⟩ | ⟨x,hx,rfl⟩
  ·cases v with
   | none=>cases h
   | some y =>
    simp only [List.mem_singleton] at h
    subst h
    rfl
  ·have:=jb hx
   have e1:(2*x.1+1)≠0:=by omega
   have e2:(2*x.1+1) % 2=1:=by omega
   have e3:(2*x.1+1) / 2=x.1:=by omega
   rw [Tr.get_node,beq0 e1,cond_false,e2,e3]; exact this
  ·have:=jb hx
   have e1:(2*x.1+2)≠0:=by omega
   have e2:(2*x.1+2) % 2=0:=by omega
   have e3:(2*x.1+2) / 2 - 1=x.1:=by omega
   rw [Tr.get_node,beq0 e1,cond_false,e2,e3]; exact this
theorem Vb {α:Type}:∀ (t:Tr α),t.ents.Pairwise fun a b=>a.1≠b.1
 | .nil=>List.Pairwise.nil
 | .node a v b=>by
  simp only [Tr.ents]
  have ha:=(Vb a)
  have hb:=(Vb b)
  refine List.pairwise_append.2 ⟨?_,List.pairwise_append.2 ⟨?_,?_,?_⟩,?_⟩
  ·cases v<;>simp
  ·exact List.pairwise_map.2 (ha.imp fun h e=>h (by simp only at e; omega))
  ·exact List.pairwise_map.2 (hb.imp fun h e=>h (by simp only at e; omega))
  ·intro x hx y hy
   obtain ⟨x',_,rfl⟩:=List.mem_map.1 hx
   obtain ⟨y',_,rfl⟩:=List.mem_map.1 hy
   simp only; omega
  ·intro x hx y hy
   have hx0:x.1=0:=by
    cases v with
    | none=>cases hx
    | some z=>simp only [List.mem_singleton] at hx; subst hx; rfl
   rw [hx0]
   rcases List.mem_append.1 hy with hy | hy
   ·obtain ⟨y',_,rfl⟩:=List.mem_map.1 hy; simp only; omega
   ·obtain ⟨y',_,rfl⟩:=List.mem_map.1 hy; simp only; omega
theorem qK {α:Type}:∀ {a b:List (Nat × α)},(a.Pairwise fun x y=>x.1≠y.1)→(∀ e ∈ a,e ∈ b)→∃ r,b.Perm (r++a)
 | [],b,_,_=>⟨b,by simp⟩
 | x::a,b,hn,h=>by
  obtain ⟨s,t,rfl⟩:=List.append_of_mem (h x (List.mem_cons_self ..))
  obtain ⟨h1,h2⟩:=List.pairwise_cons.1 hn
  obtain ⟨r,hr⟩:=qK (b:=s++t) h2 fun e he=>by
   have:=h e (List.mem_cons_of_mem _ he)
   simp only [List.mem_append,List.mem_cons] at this ⊢
   rcases this with h3 | rfl | h3
   ·exact .inl h3
   ·exact absurd rfl (h1 e he)
   ·exact .inr h3
  exact ⟨r,List.perm_middle.trans ((hr.cons x).trans List.perm_middle.symm)⟩
def Keep (mark:Nat) (m m':Mm):Prop:=∀ k,k < mark→m'.t.get k=m.t.get k
theorem Keep.refl (mark:Nat) (m:Mm):Keep mark m m:=fun _ _=>rfl
theorem Keep.trans {mark:Nat} {a b c:Mm} (h:Keep mark a b) (k:Keep mark b c):Keep mark a c:=fun i hi=>(k i hi).trans (h i hi)
theorem MemR.uniq {φ:Phi}:∀ {es:List (Nat × GB)} {M M':MH},MemR φ es M→MemR φ es M'→M=M'
 | [],_,_,h,h'=>by cases h; cases h'; rfl
 | (l,g)::r,_,_,⟨d,xs,M1,h1,h2,h3,h4,h5⟩,⟨d',xs',M1',k1,k2,k3,k4,k5⟩=>by
  rw [h1,Option.some.injEq] at k1
  subst k1
  rw [h2,Option.some.injEq] at k2
  subst k2
  rw [h4,k4,h5.uniq k5]
theorem lc (a b c:MH):(a++(b++c)).Perm (b++(a++c)):=by
 rw [← List.append_assoc,← List.append_assoc]; exact List.perm_append_comm.append_right c
theorem SR.made {φ φ':Phi} {m m':Mm} {Fr M M2 M'':MH} (h:SR φ m Fr M) (hl:Le φ φ') (hk:Keep m.n m m') (h':SR φ' m' (M2++Fr) M''):∃ D,M''.Perm (D++(M2++M))∧SR φ' m' Fr (D++M):=by
 obtain ⟨M1,h1,h2⟩:=h.mem
 obtain ⟨M1',h3,h4⟩:=h'.mem
 obtain ⟨J,hj⟩:=hl.j
 obtain ⟨news,hn⟩:=qK (b:=m'.t.ents) (Vb m.t) fun e he=>by
  have h5:=jb he
  have h6:=hk e.1 (h.keys _ _ h5).1
  rw [h5] at h6
  obtain ⟨r,hr,-⟩:=Tr.ents_get h6
  exact hr.mem_iff.2 (List.mem_cons_self ..)
 obtain ⟨Mx,h7,h8⟩:=h3.perm hn
 obtain ⟨D,My,rfl,h9,h10⟩:=h8.split
 obtain rfl:=h10.uniq (h1.le hl)
 refine ⟨D++J,?_,⟨M1',h3,?_⟩,h'.al,h'.len,h'.keys,h'.big⟩
 ·refine h4.symm.trans ((h7.append_right _).trans ?_)
  rw [hj]
  simp only [List.append_assoc]
  refine List.Perm.append_left D ((lc _ _ _).trans (List.Perm.append_left J ?_))
  refine (List.Perm.append_left My (lc _ _ _)).trans ((lc _ _ _).trans (List.Perm.append_left M2 ?_))
  exact h2
 ·refine (h7.append_right _).trans ?_
  rw [hj]
  simp only [List.append_assoc]
  refine List.Perm.append_left D ((lc _ _ _).trans (List.Perm.append_left J ?_))
  exact h2
theorem SR.wide {φ:Phi} {m:Mm} {Fr M:MH} (h:SR φ m Fr M) (M2:MH):SR φ m (M2++Fr) (M2++M):=by
 obtain ⟨M1,h1,h2⟩:=h.mem
 refine ⟨⟨M1,h1,?_⟩,h.al,h.len,h.keys,h.big⟩
 refine (List.Perm.append_left M1 (lc _ _ _)).trans ((lc _ _ _).trans (List.Perm.append_left M2 h2))
noncomputable def gokG (L:List Oper) (env:Tr SV):Option (Nat × Bool)→Option Bool
 | none=>some true
 | some (j,want)=>match nth L j with
  | some o=>match o.dst with
   | some d=>match env.get d with
    | some (.one (.one (.bo b)))=>some (bif want then b else !b)
    | some (.tup _)=>some false
    | _=>none
   | none=>none
  | none=>none
theorem QaP (hE:ER φ env E) {g:Option (Nat × Bool)} {b:Bool} (h:gokG L env g=some b):gok L E g=some b:=by
 unfold gokG at h
 unfold gok
 split at h
 ·exact h
 ·rename_i j want
  simp only
  split at h
  ·rename_i o' ho
   rw [ho]
   simp only
   split at h
   ·rename_i d hd
    rw [hd]
    simp only
    split at h
    ·rename_i b' hb
     obtain ⟨x,h1,h2⟩:=hE _ _ hb
     obtain rfl:=YI (Qi h1)
     rw [h2]; exact h
    ·rename_i xs hb
     obtain ⟨x,h1,h2⟩:=hE _ _ hb
     simp only [SV.den] at h1
     split at h1
     ·simp only [Option.some.injEq] at h1
      subst h1
      rw [h2]; exact h
     ·cases h1
    ·cases h
   ·cases h
  ·cases h
abbrev CallF:=Nat→Nat→List GV→Mm→Option (SV × Mm)
def Ret (w:World) (U:UH) (G:World) (φ:Phi) (m':Mm) (Fr:MH) (r:SV) (e:Ending) (w':World):Prop :=
 ∃ v M' φ',e = .returned v∧Le φ φ'∧r.den φ'=some v∧SR φ' m' Fr M'∧Mem G U M' w'
structure CallOK (P:Program) (U:UH) (call:CallF):Prop where
 ok:∀ f mark args m r m',call f mark args m=some (r,m')→callable P f=true∧(mark≤m.n→Keep mark m m'∧m.n≤m'.n) ∧
  ∀ φ Fr M ys G,SR φ m Fr M→gdens φ args=some ys→∀ w,Mem G U M w→Calls P f ys.toArray w (Ret w U G φ m' Fr r)
def caps:List (Nat × Nat)→List GV
 | []=>[]
 | (l,o)::r => .one (.pt l o)::caps r
theorem Qay:∀ {ps:List (Nat × Nat)} {vs:List Value},ptrs φ ps=some vs→gdens φ (caps ps)=some vs
 | [],vs,h=>h
 | (l,o)::r,vs,h=>by
  simp only [ptrs] at h
  split at h
  ·rename_i d hd
   split at h
   ·rename_i us hu
    simp only [Option.some.injEq] at h
    subst h
    exact JM (by simp only [GV.den,C.den,hd]) (Qay hu)
   ·cases h
  ·cases h
theorem jp:∀ {a b:List GV} {vs us:List Value},gdens φ a=some vs→gdens φ b=some us→gdens φ (a++b)=some (vs++us)
 | [],b,vs,us,ha,hb=>by simp [gdens] at ha; subst ha; simpa using hb
 | c::r,b,vs,us,ha,hb=>by
  obtain ⟨u,ws,h1,h2,rfl⟩:=QN ha
  exact JM h1 (jp h2 hb)
noncomputable def valG (Q:Tab) (fl:Bool) (mark:Nat) (env:Tr SV) (m:Mm) (o:Op):Option (SV × Mm) :=
 match o with
 | .load t x=>match evG env x with
  | some v=>(match loadG Q m t v with
   | some r=>some (r,m)
   | none=>none)
  | none=>none
 | .alloc _=>mkG Q env m o
 | .box _ _=>mkG Q env m o
 | .makeSlice _ _ _=>mkG Q env m o
 | .buildSlice _ _ _=>mkG Q env m o
 | .slice _ _ _ _ _=>sliceG Q env m o
 | .call ⟨.builtin .append,_,_⟩=>bif fl then none else appG Q mark env m o
 | .makeFunc _ _ _=>bif fl then none else (match pureG Q env o with
  | some r=>some (r,m)
  | none=>none)
 | _=>match pureG Q env o with
  | some r=>some (r,m)
  | none=>none
theorem QdQ {v:SV} (h:pureG Q env o.op=some v) (hq:∀ t i,Q.ty.get t=some i→lkT T t=some i) (hm:∀ a b c,o.op ≠ .makeFunc a b c):isY (kd T o.op)=true:=by
 generalize o.op=op at h hm
 cases op<;>simp only [pureG,reduceCtorEq] at h<;>try rfl
 case convert s d x =>
  split at h
  ·rename_i k0 n ti k sz bt z hx hs hd
   simp only [kd,hq _ _ hd]; rfl
  ·cases h
 case call c =>
  split at h
  ·rename_i x t hc ha ht; simp only [kd,hc]; rfl
  ·rename_i x y tl hc ha; simp only [kd,hc]; rfl
  ·rename_i x y tl hc ha; simp only [kd,hc]; rfl
  ·rename_i tl x y z hc ha; simp only [kd,hc]; rfl
  ·rename_i tl x y z hc ha; simp only [kd,hc]; rfl
  ·cases h
 case makeFunc a b c=>exact absurd rfl (hm a b c)
theorem QeI (hQ:TabOK P T Q U) (hE:ER φ env E) (hS:SR φ m Fr M) (hg:gok L E o.guard=some true) {d:Nat} (hd:o.dst=some d) (hN:Nat.blt d N=true) {mark:Nat} {r:SV} {m':Mm} (h:valG Q f mark env m o.op=some (r,m'))
  (k:∀ φ' x M',Le φ φ'→r.den φ'=some x→SR φ' m' Fr M'→SL P T L K N G l ((d,x)::E) U M'):SL P T L K N G ((f,i,o)::l) E U M:=by
 have pure:∀ {r:SV},pureG Q env o.op=some r→(f=false∨∀ a b c,o.op ≠ .makeFunc a b c)→(∀ x,r.den φ=some x→SL P T L K N G l ((d,x)::E) U M)→SL P T L K N G ((f,i,o)::l) E U M:=by
  intro r hp hf kk
  obtain ⟨x,h1,h2⟩:=QbJ (N:=N) (G:=G) (M:=M) hQ hE hp
  refine sl_y h2 ?_ hd hN hg (kk x h1)
  rcases hf with rfl | hf
  ·rfl
  ·simp [yB,QdQ hp hQ.ty hf]
 unfold valG at h
 split at h
 ·rename_i t x ho
  split at h
  ·rename_i v hv
   split at h
   ·rename_i r' hr
    simp only [Option.some.injEq,Prod.mk.injEq] at h
    obtain ⟨rfl,rfl⟩:=h
    obtain ⟨a,h1,h2⟩:=Qh hE hv
    obtain ⟨y,h3,h4⟩:=QcY (N:=N) (G:=G) (E:=E) hQ hS h1 hr
    exact qB (h4 o x ho h2) (by rw [ho]; rfl) hd hN hg (k φ y M (Le.refl φ) h3 hS)
   ·cases h
  ·cases h
 ·exact yj hQ hE hS hg hd hN h k
 ·exact yj hQ hE hS hg hd hN h k
 ·exact yj hQ hE hS hg hd hN h k
 ·exact yj hQ hE hS hg hd hN h k
 ·exact Qbl hQ hE hS hg hd hN h k
 ·cases hf:f
  ·rw [hf,cond_false] at h
   subst hf
   exact Qex hQ hE hS hg rfl hd hN h k
  ·rw [hf,cond_true] at h; cases h
 ·cases hf:f
  ·rw [hf,cond_false] at h
   split at h
   ·rename_i r' hr
    simp only [Option.some.injEq,Prod.mk.injEq] at h
    obtain ⟨rfl,rfl⟩:=h
    have:=pure hr (.inl hf) fun x hx=>k φ x M (Le.refl φ) hx hS
    rwa [hf] at this
   ·cases h
  ·rw [hf,cond_true] at h; cases h
 ·rename_i op hn1 hn2 hn3 hn4 hn5 hn6 hn7 hn8
  split at h
  ·rename_i r' hr
   simp only [Option.some.injEq,Prod.mk.injEq] at h
   obtain ⟨rfl,rfl⟩:=h
   exact pure hr (.inr hn8) fun x hx=>k φ x M (Le.refl φ) hx hS
  ·cases h
end Go.Gx

/- One operation, and regions, in runs by the kernel. No condition. -/
namespace Go.Gx
open Go.Hp
variable {P:Program} {T:TT} {K:Kont} {N:Nat} {G:World} {E:Env} {U:UH} {M Fr:MH} {L:List Oper} {l:List Ent} {f:Bool} {i:Nat} {o:Oper} {φ:Phi} {env:Tr SV} {Q:Tab} {m:Mm}
def WM (m:Mm):Prop:=m.n≤fuelM∧∀ k g,m.t.get k=some g→k < m.n
structure Kp (mark:Nat) (m m':Mm):Prop where
 wm:WM m→WM m'
 keep:WM m→mark≤m.n→Keep mark m m'
 le:m.n≤m'.n
theorem Kp.refl (mark:Nat) (m:Mm):Kp mark m m:=⟨id,fun _ _=>Keep.refl _ _,Nat.le_refl _⟩
theorem Kp.trans {mark:Nat} {a b c:Mm} (h:Kp mark a b) (k:Kp mark b c):Kp mark a c :=
 ⟨fun w=>k.wm (h.wm w),fun w hm=>(h.keep w hm).trans (k.keep (h.wm w) (Nat.le_trans hm h.le)),Nat.le_trans h.le k.le⟩
theorem Kp.lower {mark:Nat} {a b:Mm} (h:Kp a.n a b):Kp mark a b:=⟨h.wm,fun w hm k hk=>h.keep w (Nat.le_refl _) k (by omega),h.le⟩
theorem Qfz {mark:Nat} {g:GB} {a:Tr GB} (hb:m.n < fuelM):Kp mark m ⟨Tr.put fuelM m.t m.n (some g),m.n+1,a⟩:=by
 refine ⟨fun w=>⟨hb,fun k g' hk=>?_⟩,fun w hm k hk=>?_,Nat.le_succ _⟩
 ·rw [Tr.get_put _ _ _ _ _ hb] at hk
  show k < m.n+1
  cases e:Nat.beq k m.n
  ·rw [e] at hk; have:=w.2 k g' hk; omega
  ·have:=Nat.eq_of_beq_eq_true e; omega
 ·rw [Tr.get_put _ _ _ _ _ hb,Qr (by omega)]; rfl
theorem Qad {mark lev:Nat} {g:GB} {x:Option GB} {a:Tr GB} (hg:m.t.get lev=some g) (hm:mark≤lev):Kp mark m ⟨Tr.put fuelM m.t lev x,m.n,a⟩:=by
 refine ⟨fun w=>⟨w.1,fun k g' hk=>?_⟩,fun w hm' k hk=>?_,Nat.le_refl _⟩
 ·have hlt:=w.2 _ _ hg
  have hb:lev < fuelM:=Nat.lt_of_lt_of_le hlt w.1
  rw [Tr.get_put _ _ _ _ _ hb] at hk
  cases e:Nat.beq k lev
  ·rw [e] at hk; exact w.2 k g' hk
  ·rw [Nat.eq_of_beq_eq_true e]; exact hlt
 ·have hlt:=w.2 _ _ hg
  have hb:lev < fuelM:=Nat.lt_of_lt_of_le hlt w.1
  rw [Tr.get_put _ _ _ _ _ hb,Qr (by omega)]; rfl
theorem YW {mark:Nat} {g:GB} {q:Mm→Option (SV × Mm)} {r:SV × Mm} (h:newG m g q=some r) (hq:∀ m1 r,q m1=some r→r.2=m1):Kp mark m r.2:=by
 obtain ⟨hb,h⟩:=Vt h
 rw [hq _ _ h]
 exact Qfz hb
theorem yC {mark:Nat} {op:Op} {r:SV × Mm} (h:mkG Q env m op=some r):Kp mark m r.2:=by
 cases op<;>simp only [mkG,reduceCtorEq] at h
 case alloc t =>
  split at h
  ·split at h
   ·exact YW h fun m1 r hr=>by cases hr; rfl
   ·cases h
  ·cases h
 case box t x =>
  split at h
  ·exact YW h fun m1 r hr=>by cases hr; rfl
  ·cases h
 case makeSlice t x y =>
  split at h
  ·split at h
   ·split at h
    ·rename_i p q ti _ _ _ _ cs _
     cases hb:(Nat.ble p q && Nat.blt 0 ti.size && Nat.beq cs.length ti.size && Nat.ble (ti.bytes*q) 281474976710656 && Nat.ble q 9223372036854775807)
     ·rw [hb] at h; cases h
     ·rw [hb,cond_true,QZ] at h
      exact YW h fun m1 r hr=>by cases hr; rfl
    ·cases h
   ·cases h
  ·cases h
 case buildSlice t len parts =>
  split at h
  ·split at h
   ·rename_i ti vs _ _
    cases hb:(seqB 0 parts.toList && Nat.beq vs.length len && allSz ti.size vs && Nat.beq ti.zero.cells.toList.length ti.size && Nat.ble (len*ti.size) 16777216 && Nat.ble len 9223372036854775807)
    ·rw [hb] at h; cases h
    ·rw [hb,cond_true,QZ] at h
     exact YW h fun m1 r hr=>by cases hr; rfl
   ·cases h
  ·cases h
theorem Qby {mark t:Nat} {a:SV} {v:GV} {m':Mm} (h:storeG Q mark m t a v=some m'):Kp mark m m':=by
 unfold storeG at h
 split at h
 ·rename_i lev off
  split at h
  ·rename_i g ti hgl ht
   cases hb:(Nat.ble mark lev && Nat.beq v.cells.length ti.size && Nat.ble (off+ti.size) g.cells.length)
   ·rw [hb] at h; cases h
   ·rw [hb,cond_true,QZ,QG,Option.some.injEq] at h
    subst h
    simp only [Bool.and_eq_true] at hb
    exact Qad hgl (Nat.le_of_ble_eq_true hb.1.1)
  ·cases h
 ·cases h
theorem QbG {mark:Nat} {op:Op} {r:SV × Mm} (h:sliceG Q env m op=some r):Kp mark m r.2:=by
 have skip:m.n < fuelM→Kp mark m ⟨m.t,m.n+1,m.al⟩:=fun hb=>⟨fun w=>⟨hb,fun k g hk=>by have:=w.2 k g hk; show k < m.n+1; omega⟩,fun _ _ _ _=>rfl,Nat.le_succ _⟩
 unfold sliceG at h
 split at h
 ·split at h
  ·rename_i e tsz tbt tz p hT hx hp
   split at h
   ·rename_i ti q he hq
    cases hb:(Nat.beq p 0 && Nat.beq q 0)
    ·rw [hb] at h; cases h
    ·rw [hb] at h; cases h; exact Kp.refl _ _
   ·cases h
  ·rename_i e tsz tbt tz lev off j n p hT hx hp
   split at h
   ·rename_i ti q he hq
    cases hq0:Nat.beq q 0
    ·rw [hq0,cond_false] at h
     split at h
     ·rename_i g hgl
      cases hb:(Nat.blt 0 g.sz && Nat.ble ((j+q)*g.sz) g.cells.length)
      ·rw [hb] at h; cases h
      ·rw [hb,cond_true] at h
       cases hp0:Nat.beq p 0
       ·rw [hp0,cond_false] at h
        cases hpq:Nat.blt p q
        ·rw [hpq,cond_false] at h
         cases hpe:(Nat.beq p q && Nat.blt m.n fuelM)
         ·rw [hpe] at h; cases h
         ·rw [hpe,cond_true,Qy] at h
          cases h
          simp only [Bool.and_eq_true] at hpe
          exact skip (Nat.le_of_ble_eq_true hpe.2)
        ·rw [hpq,cond_true,Qy,Qy,Qy] at h
         cases h; exact Kp.refl _ _
       ·rw [hp0] at h; cases h; exact Kp.refl _ _
     ·cases h
    ·rw [hq0,cond_true] at h
     cases hp0:Nat.beq p 0
     ·rw [hp0] at h; cases h
     ·rw [hp0] at h; cases h; exact Kp.refl _ _
   ·cases h
  ·cases h
 ·cases h
theorem QeX {mark e sz bytes k:Nat} {news:List C} {c:C} {r:SV × Mm} (h:addG mark m e sz bytes k news c=some r):Kp mark m r.2:=by
 unfold addG at h
 split at h
 ·cases hb:(Nat.ble (k*bytes) 140737488355328 && Nat.ble k 9223372036854775807)
  ·rw [hb] at h; cases h
  ·rw [hb,cond_true] at h
   exact YW h fun m1 r hr=>by cases hr; rfl
 ·rename_i lev n
  split at h
  ·rename_i g hgl
   cases hb:(Nat.ble mark lev && Nat.beq g.sz sz && Nat.beq g.ty e && Nat.blt 0 sz && Nat.ble ((n+k)*bytes) 140737488355328 && Nat.ble (n+k) 9223372036854775807)
   ·rw [hb] at h; cases h
   ·rw [hb,cond_true] at h
    simp only [Bool.and_eq_true] at hb
    have hml:=Nat.le_of_ble_eq_true hb.1.1.1.1.1
    cases hroom:Nat.ble (n*sz+k*sz) g.cells.length
    ·rw [hroom,cond_false] at h
     cases hend:Nat.beq g.cells.length (n*sz)
     ·rw [hend] at h; cases h
     ·rw [hend,cond_true,QZ,QG,QG,Qy] at h
      exact (Qad (a:=Tr.put fuelM m.al lev (some g)) hgl hml).trans (YW h fun m1 r hr=>by cases hr; rfl)
    ·rw [hroom,cond_true,QZ,QG,Qy] at h
     cases h
     exact Qad hgl hml
  ·cases h
 ·cases h
theorem QdO {mark:Nat} {op:Op} {r:SV × Mm} (h:appG Q mark env m op=some r):Kp mark m r.2:=by
 unfold appG at h
 split at h
 ·split at h
  ·rename_i x y t t' _ _ _
   cases htt:Nat.beq t t'
   ·rw [htt] at h; cases h
   ·rw [htt,cond_true] at h
    split at h
    ·rename_i x' y' _ _ _ _ _ _ _
     split at h
     ·rename_i ti _
      cases hzb:(Nat.beq ti.zero.cells.toList.length ti.size && Nat.blt 0 ti.size)
      ·rw [hzb] at h; cases h
      ·rw [hzb,cond_true] at h
       split at h
       ·cases hf:fitG m ti.size x'
        ·rw [hf] at h; cases h
        ·rw [hf] at h; cases h; exact Kp.refl _ _
       ·exact QeX h
       ·cases h
     ·cases h
    ·cases h
  ·cases h
 ·cases h
theorem QeA {fl:Bool} {mark:Nat} {op:Op} {r:SV × Mm} (h:valG Q fl mark env m op=some r):Kp mark m r.2:=by
 unfold valG at h
 split at h
 ·split at h
  ·split at h
   ·cases h; exact Kp.refl _ _
   ·cases h
  ·cases h
 ·exact yC h
 ·exact yC h
 ·exact yC h
 ·exact yC h
 ·exact QbG h
 ·cases fl
  ·rw [cond_false] at h; exact QdO h
  ·cases h
 ·cases fl
  ·rw [cond_false] at h
   split at h
   ·cases h; exact Kp.refl _ _
   ·cases h
  ·cases h
 ·split at h
  ·cases h; exact Kp.refl _ _
  ·cases h
abbrev CallF':=CallF
structure CallsOK (P:Program) (U:UH) (call:CallF):Prop where
 kp:∀ f mark args m r m',call f mark args m=some (r,m')→Kp mark m m'
 ok:∀ f mark args m r m',call f mark args m=some (r,m')→callable P f=true ∧
  ∀ φ Fr M ys G,SR φ m Fr M→gdens φ args=some ys→∀ w,Mem G U M w→Calls P f ys.toArray w (Ret w U G φ m' Fr r)
noncomputable def callV (env:Tr SV) (x:Operand) (args:List Operand):Option (Nat × List GV) :=
 match evG env x,evGs env args with
 | some (.one (.one (.fn g ps))),some vs=>some (g,vs++caps ps)
 | _,_=>none
noncomputable def setG (N:Nat) (dst:Option Nat) (r:SV) (env:Tr SV) (m:Mm):Option (Tr SV × Mm) :=
 match dst with
 | some d=>bif Nat.blt d N then putK fuelE env d (some r) fun env=>some (env,m) else none
 | none=>none
noncomputable def opG (call:CallF) (Q:Tab) (mark N:Nat) (L:List Oper) (fl:Bool) (o:Oper) (env:Tr SV) (m:Mm):Option (Tr SV × Mm) :=
 match gokG L env o.guard with
 | some true=>match o.op with
  | .store t x y=>(match o.dst,evG env x,evG env y with
   | none,some a,some (.one v)=>(match storeG Q mark m t a v with
    | some m'=>some (env,m')
    | none=>none)
   | _,_,_=>none)
  | .call ⟨.value x,args,_⟩=>(match callV env x args.toList with
   | some (g,vs)=>(match call g (bif fl then m.n else mark) vs m with
    | some (r,m')=>(match o.dst with
     | some d=>setG N (some d) r env m'
     | none=>bif fl then none else some (env,m'))
    | none=>none)
   | none=>none)
  | op=>match valG Q fl mark env m op with
   | some (r,m')=>setG N o.dst r env m'
   | none=>none
 | some false=>setG N o.dst (.tup []) env m
 | none=>none
theorem JU {dst:Option Nat} {r:SV} {env':Tr SV} {m' m'':Mm} (h:setG N dst r env m'=some (env',m'')):∃ d,dst=some d∧Nat.blt d N=true∧env'=Tr.put fuelE env d (some r)∧m''=m':=by
 unfold setG at h
 split at h
 ·rename_i d
  cases hb:Nat.blt d N
  ·rw [hb] at h; cases h
  ·rw [hb,cond_true,QG] at h
   cases h
   exact ⟨d,rfl,hb,rfl,rfl⟩
 ·cases h
theorem QfA {call:CallF} (hC:CallsOK P U call) {mark:Nat} {fl:Bool} {env':Tr SV} {m':Mm} (h:opG call Q mark N L fl o env m=some (env',m')):Kp mark m m':=by
 unfold opG at h
 split at h
 ·split at h
  ·split at h
   ·split at h
    ·rename_i hs
     cases h
     exact Qby hs
    ·cases h
   ·cases h
  ·split at h
   ·split at h
    ·rename_i r m1 hcall
     have k1:=hC.kp _ _ _ _ _ _ hcall
     have k2:Kp mark m m1:=by
      cases fl
      ·exact k1
      ·exact k1.lower
     split at h
     ·obtain ⟨d,-,-,-,rfl⟩:=JU h; exact k2
     ·cases fl
      ·cases h; exact k2
      ·cases h
    ·cases h
   ·cases h
  ·split at h
   ·rename_i hv
    obtain ⟨d,-,-,-,rfl⟩:=JU h
    exact QeA hv
   ·cases h
 ·obtain ⟨d,-,-,-,rfl⟩:=JU h; exact Kp.refl _ _
 ·cases h
theorem QcC (hE:ER φ env E) {x:Operand} {args:List Operand} {g:Nat} {vs:List GV} (h:callV env x args=some (g,vs)) :
  ∃ cs ys,ev E x=some (.func (.func g) #[] cs.toArray)∧evs E args=some ys∧gdens φ vs=some (ys++cs):=by
 unfold callV at h
 split at h
 ·rename_i g' ps vs' hx hv
  simp only [Option.some.injEq,Prod.mk.injEq] at h
  obtain ⟨rfl,rfl⟩:=h
  obtain ⟨z,h1,h2⟩:=Qh hE hx
  have h1':C.den φ (.fn g' ps)=some z:=h1
  simp only [C.den] at h1'
  split at h1'
  ·rename_i cs hcs
   simp only [Option.some.injEq] at h1'
   subst h1'
   obtain ⟨ys,h3,h4⟩:=qb hE hv
   exact ⟨cs,ys,h2,h4,jp h3 (Qay hcs)⟩
  ·cases h1'
 ·cases h
theorem QfZ (hQ:TabOK P T Q U) {call:CallF} (hC:CallsOK P U call) (hE:ER φ env E) (hS:SR φ m Fr M) (hN:N≤fuelE) {mark:Nat} {env':Tr SV} {m':Mm} (h:opG call Q mark N L f o env m=some (env',m'))
  (k:∀ φ' E' M',Le φ φ'→ER φ' env' E'→SR φ' m' Fr M'→SL P T L K N G l E' U M'):SL P T L K N G ((f,i,o)::l) E U M:=by
 have hdN:∀ {d},Nat.blt d N=true→d < fuelE:=fun hd=>Nat.lt_of_lt_of_le (Nat.le_of_ble_eq_true hd) hN
 unfold opG at h
 split at h
 ·rename_i hg
  have hg:=QaP hE hg
  split at h
  ·rename_i t x y ho
   split at h
   ·rename_i a v hd ha hv
    split at h
    ·rename_i m1 hs
     simp only [Option.some.injEq,Prod.mk.injEq] at h
     obtain ⟨rfl,rfl⟩:=h
     exact Qbn hQ hE hS hg (by simp [xB,ho,kd,isX]) hd ho ha hv hs fun M' h1=>k φ E M' (Le.refl φ) hE h1
    ·cases h
   ·cases h
  ·rename_i x args tys ho
   split at h
   ·rename_i g vs hv
    obtain ⟨cs,ys,h1,h2,h3⟩:=QcC hE hv
    have ho':o.op = .call { callee := .value x,args:=args.toList.toArray,argTypes:=tys }:=by rw [ho]
    split at h
    ·rename_i r m1 hcall
     have kk:∀ d,o.dst=some d→Nat.blt d N=true→env'=Tr.put fuelE env d (some r)→m'=m1→∀ φ' x M',Le φ φ'→r.den φ'=some x→SR φ' m1 Fr M'→SL P T L K N G l ((d,x)::E) U M':=by
      intro d hd hdn he hm φ' x M' g1 g2 g3
      subst he hm
      exact k φ' _ M' g1 ((hE.le g1).put g2 (hdN hdn)) g3
     obtain ⟨hcb,hok⟩:=hC.ok _ _ _ _ _ _ hcall
     cases hf:f
     ·
      rw [hf] at hcall h
      have hcx:Cx P g (ys++cs) G U M fun v U' M'=>U'=U∧∃ φ',Le φ φ'∧r.den φ'=some v∧SR φ' m1 Fr M':=by
       refine ⟨hcb,fun w hw=>(hok φ Fr M _ G hS h3 w hw).mono ?_⟩
       rintro e w' ⟨v,M',φ',rfl,g1,g2,g3,g4⟩
       exact ⟨v,U,M',rfl,ULe.refl U,g4,rfl,φ',g1,g2,g3⟩
      cases hd:o.dst with
      | some d =>
       rw [hd] at h
       obtain ⟨d',hd',hdn,he,hm⟩:=JU h
       cases hd'
       refine QbD ho' h1 h2 rfl hd hdn hg hcx ?_
       rintro v U' M' - ⟨rfl,φ',g1,g2,g3⟩
       exact kk d hd hdn he hm φ' v M' g1 g2 g3
      | none =>
       rw [hd] at h
       simp only [cond_false,Option.some.injEq,Prod.mk.injEq] at h
       obtain ⟨rfl,rfl⟩:=h
       refine vJ ho' h1 h2 rfl hd hg hcx ?_
       rintro v U' M' - ⟨rfl,φ',g1,g2,g3⟩
       exact k φ' E M' g1 (hE.le g1) g3
     ·rw [hf] at hcall h
      cases hd:o.dst with
      | some d =>
       rw [hd] at h
       obtain ⟨d',hd',hdn,he,hm⟩:=JU h
       cases hd'
       have hwm:WM m:=⟨hS.big,fun k g hk=>(hS.keys k g hk).1⟩
       have hkeep:=(hC.kp _ _ _ _ _ _ hcall).keep hwm (Nat.le_refl _)
       simp only [cond_true] at hkeep
       refine .gr (R:=fun v U' D=>U'=U∧∃ φ',Le φ φ'∧r.den φ'=some v∧SR φ' m1 Fr (D++M)) (.inr (by rw [ho]; rfl)) hd hdn (fun M2 a w ha hm'=>?_) ?_
       ·unfold wpV
        rw [QA hg ha,if_pos rfl,VT ho' h1 h2 hcb ha w]
        refine (hok φ (M2++Fr) (M2++M) _ G (hS.wide M2) h3 w hm').mono ?_
        rintro e w' ⟨v,M',φ',rfl,g1,g2,g3,g4⟩
        obtain ⟨D,g5,g6⟩:=hS.made g1 hkeep g3
        exact ⟨v,rfl,U,D,ULe.refl U,g4.perm g5,rfl,φ',g1,g2,g6⟩
       ·rintro v U' D - ⟨rfl,φ',g1,g2,g3⟩
        exact kk d hd hdn he hm φ' v _ g1 g2 g3
      | none =>
       rw [hd] at h
       cases h
    ·cases h
   ·cases h
  ·rename_i op hn1 hn2
   split at h
   ·rename_i r m1 hv
    obtain ⟨d,hd,hdn,rfl,rfl⟩:=JU h
    refine QeI hQ hE hS hg hd hdn hv fun φ' x M' g1 g2 g3=>?_
    exact k φ' _ M' g1 ((hE.le g1).put g2 (hdN hdn)) g3
   ·cases h
 ·rename_i hg
  have hg:=QaP hE hg
  obtain ⟨d,hd,hdn,rfl,rfl⟩:=JU h
  exact Qff hg hd hdn (k φ _ M (Le.refl φ) (hE.put (x:=undef) rfl (hdN hdn)) hS)
 ·cases h
noncomputable def regG (call:CallF) (Q:Tab) (mark N:Nat) (L:List Oper):List Ent→Tr SV→Mm→Option (Tr SV × Mm)
 | []=>fun env m=>some (env,m)
 | (fl,_,o)::r=>fun env m=>match opG call Q mark N L fl o env m with
  | some (env,m)=>regG call Q mark N L r env m
  | none=>none
theorem Jb {call:CallF} (hC:CallsOK P U call) {mark:Nat}:∀ {l:List Ent} {env:Tr SV} {m:Mm} {env':Tr SV} {m':Mm},regG call Q mark N L l env m=some (env',m')→Kp mark m m'
 | [],env,m,env',m',h=>by simp only [regG,Option.some.injEq,Prod.mk.injEq] at h; rw [h.2]; exact Kp.refl _ _
 | (fl,i,o)::r,env,m,env',m',h=>by
  simp only [regG] at h
  split at h
  ·rename_i e1 m1 ho
   exact (QfA hC ho).trans (Jb hC h)
  ·cases h
theorem JW (hQ:TabOK P T Q U) {call:CallF} (hC:CallsOK P U call) (hN:N≤fuelE) {mark:Nat}:∀ {l:List Ent} {env:Tr SV} {m:Mm} {φ:Phi} {E:Env} {M:MH} {env':Tr SV} {m':Mm},ER φ env E→SR φ m Fr M→regG call Q mark N L l env m=some (env',m') →
  (∀ φ' E' M',Le φ φ'→ER φ' env' E'→SR φ' m' Fr M'→SK K N G .normal E' U M')→SL P T L K N G l E U M
 | [],env,m,φ,E,M,env',m',hE,hS,h,k=>by
  simp only [regG,Option.some.injEq,Prod.mk.injEq] at h
  obtain ⟨rfl,rfl⟩:=h
  exact .nil (k φ E M (Le.refl φ) hE hS)
 | (fl,i,o)::r,env,m,φ,E,M,env',m',hE,hS,h,k=>by
  simp only [regG] at h
  split at h
  ·rename_i e1 m1 ho
   exact QfZ hQ hC hE hS hN ho fun φ' E' M' g1 g2 g3=>JW hQ hC hN g2 g3 h fun φ'' E'' M'' j1 j2 j3=>k φ'' E'' M'' (g1.trans j1) j2 j3
  ·cases h
inductive X where
 | n
 | r
 | e (id:Nat)
def X.ex:X→Exit
 | .n => .normal
 | .r => .ret
 | .e id => .exit id
end Go.Gx

/- Regions in runs by the kernel: a store and a plain operation beside it may come up in either order. No condition. -/
namespace Go.Gx
open Go.Hp
variable {P:Program} {T:TT} {K:Kont} {N:Nat} {G:World} {E:Env} {U:UH} {M Fr:MH} {L:List Oper} {o:Oper} {φ:Phi} {env:Tr SV} {Q:Tab} {m:Mm}
def notT (d:Nat):Operand→Bool
 | .tmp t => !Nat.beq t d
 | _=>true
def swB (b s:Oper):Bool:=match b.op,b.guard,b.dst,s.op,s.guard,s.dst with
 | .binOp _ _ _ _ _,none,some d,.store _ x y,none,none=>notT d x && notT d y
 | _,_,_,_,_,_=>false
def swp (L:List Oper):List Nat→Option (List Nat × (Nat × Nat))
 | i::j::r=>match nth L i,nth L j with
  | some b,some s=>bif swB b s then some (j::i::r,(i,j)) else (match swp L (j::r) with
   | some (od,p)=>some (i::od,p)
   | none=>none)
  | _,_=>none
 | _=>none
def drawS (T:TT) (N:Nat) (L:List Oper) (late od:List Nat):Bool:=match swp L od with
 | some (od2,(x,y))=>downB 0 L && okTM T N L late [] (.node x y (.leaf od) (.leaf od2))
 | none=>false
def drawX (T:TT) (N:Nat) (L:List Oper) (late od:List Nat):Bool:=drawM T N L late od || drawS T N L late od
theorem Qau {d:Nat} {v:SV} {x:Operand} (hd:d < fuelE) (h:notT d x=true):evG (Tr.put fuelE env d (some v)) x=evG env x:=by
 cases x with
 | tmp t =>
  simp only [notT,Bool.not_eq_true'] at h
  simp only [evG]
  rw [Tr.get_put _ _ _ _ _ hd,h,cond_false]
 | _=>rfl
theorem Qeb {call:CallF} {mark:Nat} {f1 f2:Bool} {b s:Oper} (hN:N≤fuelE) (h:swB b s=true) {r:List Ent} {i j:Nat} {x:Tr SV × Mm} (hr:regG call Q mark N L ((f1,i,b)::(f2,j,s)::r) env m=some x) :
  regG call Q mark N L ((f2,j,s)::(f1,i,b)::r) env m=some x:=by
 unfold swB at h
 split at h
 ·rename_i op ty u v yt d t px py h1 h2 h3 h4 h5 h6
  rw [Bool.and_eq_true] at h
  have hb:∀ m:Mm,opG call Q mark N L f1 b env m=(match valG Q f1 mark env m (.binOp op ty u v yt) with
   | some (r,m')=>setG N (some d) r env m'
   | none=>none):=fun m=>by
   unfold opG
   rw [h2,h1,h3]
   rfl
  have hs:∀ (env:Tr SV) (m:Mm),opG call Q mark N L f2 s env m=(match evG env px,evG env py with
   | some a,some (.one v)=>(match storeG Q mark m t a v with
    | some m'=>some (env,m')
    | none=>none)
   | _,_=>none):=fun env m=>by
   unfold opG
   rw [h5,h4,h6]
   show (match (none:Option Tmp),evG env px,evG env py with
    | none,some a,some (.one v)=>(match storeG Q mark m t a v with
     | some m'=>some (env,m')
     | none=>none)
    | _,_,_=>none)=_
   cases evG env px with
   | none=>rfl
   | some a=>cases evG env py with
    | none=>rfl
    | some v=>cases v<;>rfl
  simp only [regG] at hr ⊢
  rw [hb] at hr
  have hv:∀ m:Mm,valG Q f1 mark env m (.binOp op ty u v yt)=(match pureG Q env (.binOp op ty u v yt) with
   | some r=>some (r,m)
   | none=>none):=fun m=>rfl
  rw [hv] at hr
  cases hp:pureG Q env (.binOp op ty u v yt) with
  | none=>rw [hp] at hr; cases hr
  | some w =>
   rw [hp] at hr
   simp only at hr
   cases hset:setG N (some d) w env m with
   | none=>rw [hset] at hr; cases hr
   | some em =>
    obtain ⟨e1,m1⟩:=em
    obtain ⟨d',hd',hdn,rfl,rfl⟩:=JU hset
    cases hd'
    have hdN:d < fuelE:=Nat.lt_of_lt_of_le (Nat.le_of_ble_eq_true hdn) hN
    rw [hset] at hr
    simp only at hr
    rw [hs,Qau hdN h.1,Qau hdN h.2] at hr
    rw [hs]
    split at hr
    ·rename_i e2 m2 hst
     split at hst
     ·rename_i a g ha hg
      split at hst
      ·rename_i m3 hm3
       cases hst
       simp only
       rw [hb,hv,hp]
       simp only
       have hset2:setG N (some d) w env m2=some (Tr.put fuelE env d (some w),m2):=by
        show (bif Nat.blt d N then putK fuelE env d (some w) fun env=>some (env,m2) else none)=_
        rw [hdn,cond_true,QG]
       rw [hset2]
       exact hr
      ·cases hst
     ·cases hst
    ·cases hr
 ·cases h
theorem yH {call:CallF} {mark:Nat} {late:List Nat} (hN:N≤fuelE):∀ {od od2:List Nat} {p:Nat × Nat} {env:Tr SV} {m:Mm} {x:Tr SV × Mm},swp L od=some (od2,p)→regG call Q mark N L (pickM L late od) env m=some x→regG call Q mark N L (pickM L late od2) env m=some x
 | [],_,_,_,_,_,h,_=>by cases h
 | [_],_,_,_,_,_,h,_=>by cases h
 | i::j::r,od2,p,env,m,x,h,hr=>by
  unfold swp at h
  split at h
  ·rename_i b s hi hj
   cases hsw:swB b s
   ·rw [hsw,cond_false] at h
    split at h
    ·rename_i od3 p3 h3
     cases h
     have e1:pickM L late (i::j::r)=(!late.any (Nat.beq i),i,b)::pickM L late (j::r):=by
      show (match nth L i with
       | some o=>_
       | none=>_)=_
      rw [hi]
     have e2:pickM L late (i::od3)=(!late.any (Nat.beq i),i,b)::pickM L late od3:=by
      show (match nth L i with
       | some o=>_
       | none=>_)=_
      rw [hi]
     rw [e1] at hr
     rw [e2]
     simp only [regG] at hr ⊢
     split at hr
     ·rename_i env1 m1 ho
      exact yH hN h3 hr
     ·cases hr
    ·cases h
   ·rw [hsw,cond_true] at h
    cases h
    have e:∀ r,pickM L late (i::j::r)=(!late.any (Nat.beq i),i,b)::(!late.any (Nat.beq j),j,s)::pickM L late r:=fun r=>by
     simp only [pickM,hi,hj]
    have e2:∀ r,pickM L late (j::i::r)=(!late.any (Nat.beq j),j,s)::(!late.any (Nat.beq i),i,b)::pickM L late r:=fun r=>by
     simp only [pickM,hi,hj]
    rw [e] at hr
    rw [e2]
    exact Qeb hN hsw hr
  ·cases h
theorem Qde {id:Nat} (hQ:TabOK P T Q U) {call:CallF} (hC:CallsOK P U call) (hN:N≤fuelE) {mark:Nat} (late od:List Nat) {env':Tr SV} {m':Mm} (hd:drawX T N L late od=true) (hE:ER φ env E) (hS:SR φ m Fr M) (h:regG call Q mark N L (pickM L late od) env m=some (env',m'))
  (k:∀ φ' E' M',Le φ φ'→ER φ' env' E'→SR φ' m' Fr M'→SK K N G .normal E' U M'):St P K N G (.region id L.toArray true) E U M:=by
 unfold drawX at hd
 rw [Bool.or_eq_true] at hd
 rcases hd with hd | hd
 ·exact QbM late od hQ.sym hd (JW hQ hC hN hE hS h k)
 ·unfold drawS at hd
  split at hd
  ·rename_i od2 x y hsw
   rw [Bool.and_eq_true] at hd
   exact Qbm late _ hQ.sym hd.1 hd.2 (QbE (jz (JW hQ hC hN hE hS h k)) (jz (JW hQ hC hN hE hS (yH hN hsw h) k)))
  ·cases hd
end Go.Gx

/- Code and calls in runs by the kernel. No condition. -/
namespace Go.Gx
open Go.Hp
variable {P:Program} {T:TT} {U:UH} {φ:Phi} {Q:Tab}
structure FI where
 N:Nat
 body:Code
 res:List ResultVar
 ords:Tr (List Nat × List Nat)
noncomputable def okC (T:TT) (N:Nat) (ords:Tr (List Nat × List Nat)):Code→Bool
 | .region id ops draw => !draw || (match ords.get id with
  | some (late,od)=>drawX T N ops.toList late od
  | none=>true)
 | .seq a b=>okC T N ords a && okC T N ords b
 | .cond _ a b=>okC T N ords a && okC T N ords b
 | .block _ a=>okC T N ords a
 | .loop a=>okC T N ords a
 | _=>true
structure FOK (P:Program) (T:TT) (F:Tr FI):Prop where
 ok : ∀ f fi, F.get f = some fi → ∃ fn, P.funcs[f]? = some fn ∧ fn.body = some fi.body ∧ fn.ntmps = fi.N ∧ (fn.name == "runtime.NumGoroutine") = false ∧ fn.results = fi.res.toArray ∧ okC T fi.N fi.ords fi.body = true ∧ fi.N ≤ fuelE
noncomputable def argsG {α:Type}:Nat→List GV→(Tr SV→Option α)→Option α
 | _,[],q=>q .nil
 | k,v::r,q=>argsG (k+1) r fun t=>putK fuelE t k (some (.one v)) q
noncomputable def argT:Nat→List GV→Tr SV
 | _,[] => .nil
 | k,v::r=>Tr.put fuelE (argT (k+1) r) k (some (.one v))
theorem qN {α:Type}:∀ (l:List GV) (k:Nat) (q:Tr SV→Option α),argsG k l q=q (argT k l)
 | [],_,_=>rfl
 | v::r,k,q=>by simp only [argsG,argT,qN r,QG]
theorem jS:∀ {l:List GV} {k:Nat} {ys:List Value},gdens φ l=some ys→k+l.length≤fuelE→ER φ (argT k l) (argEnv k ys)
 | [],k,ys,h,_=>by
  intro t v hv
  cases hv
 | v::r,k,ys,h,hk=>by
  obtain ⟨u,us,h1,h2,rfl⟩:=QN h
  simp only [List.length_cons] at hk
  exact (jS h2 (by omega)).put (v := .one v) h1 (by omega)
noncomputable def loadR (Q:Tab) (m:Mm) (t l:Nat):Option SV:=match m.t.get l,Q.ty.get t with
 | some g,some ti=>match ti.k with
  | .struct _=>bif Nat.ble (0+ti.size) g.cells.length then frL ((g.cells.drop 0).take ti.size) fun cs=>some (.one (.agg cs)) else none
  | .other=>none
  | _=>match nth g.cells 0 with
   | some c=>one1 c
   | none=>none
 | _,_=>none
noncomputable def resG (Q:Tab) (env:Tr SV) (m:Mm):List ResultVar→Option (List GV)
 | []=>some []
 | .tmp t::r=>match env.get t with
  | some (.one v)=>(match resG Q env m r with
   | some vs=>some (v::vs)
   | none=>none)
  | _=>none
 | .cell a t::r=>match env.get a with
  | some (.one (.one (.pt l 0)))=>(match loadR Q m t l with
   | some (.one v)=>(match resG Q env m r with
    | some vs=>some (v::vs)
    | none=>none)
   | _=>none)
  | _=>none
def tupG:List GV→SV
 | [v] => .one v
 | vs => .tup vs
noncomputable def callG (ih:FI→Code→Nat→Tr SV→Mm→Option (X × Tr SV × Mm)) (F:Tr FI) (S:CallF) (Q:Tab):CallF:=fun f mark args m =>
 match F.get f with
 | some fi=>bif Nat.ble args.length fi.N then argsG 0 args fun env=>(match ih fi fi.body mark env m with
  | some (.e _,_,_)=>none
  | some (_,env,m)=>(match resG Q env m fi.res with
   | some vs=>some (tupG vs,m)
   | none=>none)
  | none=>none) else none
 | none=>S f mark args m
noncomputable def exG (F:Tr FI) (S:CallF) (Q:Tab) (fuel:Nat):FI→Code→Nat→Tr SV→Mm→Option (X × Tr SV × Mm) :=
 Nat.rec (motive:=fun _=>FI→Code→Nat→Tr SV→Mm→Option (X × Tr SV × Mm)) (fun _ _ _ _ _=>none) (fun _ ih fi c mark env m =>
  match c with
  | .skip=>some (.n,env,m)
  | .ret=>some (.r,env,m)
  | .exit id=>some (.e id,env,m)
  | .region id ops true=>(match fi.ords.get id with
   | some (late,od)=>(match regG (callG ih F S Q) Q mark fi.N ops.toList (pickM ops.toList late od) env m with
    | some (env,m)=>some (.n,env,m)
    | none=>none)
   | none=>none)
  | .region _ ops false=>(match regG (callG ih F S Q) Q mark fi.N ops.toList (idx 0 ops.toList) env m with
   | some (env,m)=>some (.n,env,m)
   | none=>none)
  | .seq a b=>(match ih fi a mark env m with
   | some (.n,env,m)=>ih fi b mark env m
   | some (.r,env,m)=>some (.r,env,m)
   | some (.e id,env,m)=>some (.e id,env,m)
   | none=>none)
  | .cond x a b=>(match evG env x with
   | some (.one (.one (.bo true)))=>ih fi a mark env m
   | some (.one (.one (.bo false)))=>ih fi b mark env m
   | _=>none)
  | .block id a=>(match ih fi a mark env m with
   | some (.e id',env,m)=>bif Nat.beq id' id then some (.n,env,m) else some (.e id',env,m)
   | some (.n,env,m)=>some (.n,env,m)
   | some (.r,env,m)=>some (.r,env,m)
   | none=>none)
  | .loop a=>(match ih fi a mark env m with
   | some (.n,env,m)=>ih fi (.loop a) mark env m
   | some (.r,env,m)=>some (.r,env,m)
   | some (.e id,env,m)=>some (.e id,env,m)
   | none=>none)
  | _=>none) fuel
structure Says (P:Program) (T:TT) (U:UH) (run:FI→Code→Nat→Tr SV→Mm→Option (X × Tr SV × Mm)):Prop where
 kp:∀ fi c mark env m x env' m',run fi c mark env m=some (x,env',m')→Kp mark m m'
 ok:∀ fi c mark env m x env' m',run fi c mark env m=some (x,env',m')→okC T fi.N fi.ords c=true→fi.N≤fuelE →
  ∀ φ Fr E M K G,ER φ env E→SR φ m Fr M→(∀ φ' E' M',Le φ φ'→ER φ' env' E'→SR φ' m' Fr M'→SK K fi.N G x.ex E' U M')→St P K fi.N G c E U M
theorem qr (hQ:TabOK P T Q U) {env:Tr SV} {m:Mm} {E:Env} {Fr M:MH} (hE:ER φ env E) (hS:SR φ m Fr M):∀ {rs:List ResultVar} {vs:List GV},resG Q env m rs=some vs→∃ ys,gdens φ vs=some ys∧RVs T E M rs ys
 | [],vs,h=>by simp only [resG,Option.some.injEq] at h; subst h; exact ⟨[],rfl,.nil⟩
 | .tmp t::r,vs,h=>by
  simp only [resG] at h
  split at h
  ·rename_i v hv
   split at h
   ·rename_i us hu
    simp only [Option.some.injEq] at h
    subst h
    obtain ⟨y,h1,h2⟩:=hE _ _ hv
    obtain ⟨ys,h3,h4⟩:=qr hQ hE hS hu
    exact ⟨y::ys,JM h1 h3,.cons (.tmp h2) h4⟩
   ·cases h
  ·cases h
 | .cell a t::r,vs,h=>by
  simp only [resG] at h
  split at h
  ·rename_i l hv
   split at h
   ·rename_i v hl
    split at h
    ·rename_i us hu
     simp only [Option.some.injEq] at h
     subst h
     obtain ⟨y,h1,h2⟩:=hE _ _ hv
     obtain ⟨d,hd,rfl⟩:=qY (Qi h1)
     obtain ⟨ys,h3,h4⟩:=qr hQ hE hS hu
     obtain ⟨x,h5,h6⟩:=cellG_ok hQ hS hd hl
     obtain ⟨i,old,tb,h7,h8,h9⟩:=h6
     refine ⟨x::ys,JM h5 h3,.cons (.cell i ?_ h7 h8) h4⟩
     rw [h2,h9]
    ·cases h
   ·cases h
  ·cases h
where
 cellG_ok {P:Program} {T:TT} {U:UH} {φ:Phi} {Q:Tab} (hQ:TabOK P T Q U) {m:Mm} {Fr M:MH} (hS:SR φ m Fr M) {t l:Nat} {v:GV} {d:Lv} (hd:φ.l[l]?=some d) (h:loadR Q m t l=some (.one v)) :
   ∃ x,v.den φ=some x∧∃ i old tb,nth M i=some (d.b,.var old,tb)∧ldv T t old 0=some x∧d.o+0=0:=by
  simp only [loadR] at h
  split at h
  ·rename_i g ti hg ht
   obtain ⟨d',xs,R,h1,h2,h3,h4,-,-⟩:=hS.get hg
   rw [hd,Option.some.injEq] at h1
   subst h1
   have hT:=hQ.ty _ _ ht
   obtain ⟨i,hi⟩:=List.mem_iff_getElem?.1 (h4.mem_iff.2 (List.mem_cons_self ..):ent d g xs ∈ M)
   have hi':nth M i=some (d.b,.var (.agg (xs++d.pad).toArray),g.ty):=by rw [Qw]; exact hi
   have hlen:=QK h2
   split at h
   ·rename_i fs hk
    cases hb:Nat.ble (0+ti.size) g.cells.length
    ·rw [hb] at h; cases h
    ·rw [hb,cond_true,QZ] at h
     simp only [Option.some.injEq,SV.one.injEq] at h
     subst h
     have hle:=Nat.le_of_ble_eq_true hb
     have h5:=Ye ti.size (Yi 0 h2)
     refine ⟨.agg ((xs.drop 0).take ti.size).toArray,by simp only [GV.den,h5],i,_,_,hi',?_,by rw [h3.1]⟩
     rw [QdX hT hk (by rw [List.length_append]; omega)]
     rw [List.drop_append_of_le_length (by omega),List.take_append_of_le_length (by rw [List.length_drop]; omega)]
   ·cases h
   ·rename_i hn1 hn2
    split at h
    ·rename_i c hc
     simp only [one1,Option.some.injEq,SV.one.injEq] at h
     subst h
     obtain ⟨x,h5,h6⟩:=qD h2 hc
     refine ⟨x,h5,i,_,_,hi',QeL hT ?_ (yl h6),by rw [h3.1]⟩
     cases hk:ti.k<;>first | rfl | exact absurd hk (hn1 _) | exact absurd hk hn2
    ·cases h
  ·cases h
theorem QaT {vs:List GV} {ys:List Value} (h:gdens φ vs=some ys):(tupG vs).den φ=some (tup ys):=by
 cases vs with
 | nil=>simp [gdens] at h; subst h; rfl
 | cons v r=>cases r with
  | nil =>
   obtain ⟨u,us,h1,h2,rfl⟩:=QN h
   simp [gdens] at h2
   subst h2
   exact h1
  | cons v' r =>
   obtain ⟨u,us,h1,h2,rfl⟩:=QN h
   obtain ⟨u',us',h3,h4,rfl⟩:=QN h2
   have:SV.den φ (tupG (v::v'::r))=some (.tuple (u::u'::us').toArray):=by
    show SV.den φ (.tup (v::v'::r))=_
    simp only [SV.den,h]
   exact this
theorem QdG (hQ:TabOK P T Q U) {F:Tr FI} (hF:FOK P T F) {S:CallF} (hS:CallsOK P U S) {run:FI→Code→Nat→Tr SV→Mm→Option (X × Tr SV × Mm)} (hr:Says P T U run):CallsOK P U (callG run F S Q):=by
 have split:∀ {f mark args m r m'},callG run F S Q f mark args m=some (r,m')→(S f mark args m=some (r,m')) ∨
   ∃ fi x env' vs,F.get f=some fi∧args.length≤fi.N∧run fi fi.body mark (argT 0 args) m=some (x,env',m')∧(x = .n∨x = .r)∧resG Q env' m' fi.res=some vs∧r=tupG vs:=by
  intro f mark args m r m' h
  unfold callG at h
  split at h
  ·rename_i fi hfi
   cases hb:Nat.ble args.length fi.N
   ·rw [hb] at h; cases h
   ·rw [hb,cond_true,qN] at h
    refine .inr ?_
    split at h
    ·cases h
    ·rename_i x env' m1 hn hrun
     split at h
     ·rename_i vs hvs
      simp only [Option.some.injEq,Prod.mk.injEq] at h
      obtain ⟨rfl,rfl⟩:=h
      refine ⟨fi,x,env',vs,hfi,Nat.le_of_ble_eq_true hb,hrun,?_,hvs,rfl⟩
      cases x with
      | n=>exact .inl rfl
      | r=>exact .inr rfl
      | e id=>exact (hn id rfl).elim
     ·cases h
    ·cases h
  ·exact .inl h
 refine ⟨fun f mark args m r m' h=>?_,fun f mark args m r m' h=>?_⟩
 ·rcases split h with h | ⟨fi,x,env',vs,h1,h2,h3,h4,h5,rfl⟩
  ·exact hS.kp _ _ _ _ _ _ h
  ·exact hr.kp _ _ _ _ _ _ _ _ h3
 ·rcases split h with h | ⟨fi,x,env',vs,h1,h2,h3,h4,h5,rfl⟩
  ·exact hS.ok _ _ _ _ _ _ h
  ·obtain ⟨fn,f1,f2,f3,f4,f5,f6,f7⟩:=hF.ok _ _ h1
   have cx:∀ φ Fr M ys G,SR φ m Fr M→gdens φ args=some ys→Cx P f ys G U M fun v U' M'=>U'=U∧∃ φ',Le φ φ'∧(tupG vs).den φ'=some v∧SR φ' m' Fr M':=by
    intro φ Fr M ys G hs hy
    have hlen:=YN hy
    refine QdH (N:=fi.N) f1 f2 f3 f4 (Nat.ble_eq_true_of_le (by omega)) ?_
    refine hr.ok _ _ _ _ _ _ _ _ h3 f6 f7 φ Fr _ M _ G (jS hy (by omega)) hs fun φ' E' M' g1 g2 g3=>?_
    obtain ⟨zs,h6,h7⟩:=qr hQ g2 g3 h5
    have hR:U=U∧∃ φ',Le φ φ'∧(tupG vs).den φ'=some (tup zs)∧SR φ' m' Fr M':=⟨rfl,φ',g1,QaT h6,g3⟩
    refine Qem hQ.sym f5 h7 (ULe.refl U) (List.Sublist.refl _) ?_ hR
    rcases h4 with rfl | rfl
    ·exact .inr rfl
    ·exact .inl rfl
   refine ⟨by simp [Hp.callable,f1,f2,f4],fun φ Fr M ys G hs hy w hw=>((cx φ Fr M ys G hs hy).calls w hw).mono ?_⟩
   rintro e w' ⟨v,U',M',rfl,-,g4,rfl,φ',g1,g2,g3⟩
   exact ⟨v,M',φ',rfl,g1,g2,g3,g4⟩
end Go.Gx

/- Runs by the kernel: what they say holds of the machine. No condition. -/
namespace Go.Gx
open Go.Hp
variable {P:Program} {T:TT} {U:UH} {Q:Tab}
def nrm:Env→Env
 | []=>[]
 | (k,v)::r=>(k,v)::(nrm r).filter fun e => !Nat.beq e.1 k
theorem Qam:∀ {E:Env} {e:Nat × Value},e ∈ nrm E→lk E e.1=some e.2
 | [],e,h=>by cases h
 | (k,v)::r,e,h=>by
  rcases List.mem_cons.1 h with rfl | h
  ·exact Qn
  ·obtain ⟨h1,h2⟩:=List.mem_filter.1 h
   have:k≠e.1:=fun e2=>by subst e2; simp at h2
   rw [Qj this]
   exact Qam h1
theorem VL {k t:Nat} (h:k≠t):∀ (E:Env),lk (E.filter fun e => !Nat.beq e.1 k) t=lk E t
 | []=>rfl
 | (j,v)::r=>by
  by_cases hj:j=k
  ·subst hj
   rw [List.filter_cons_of_neg (by simp),VL h r,Qj h]
  ·rw [List.filter_cons_of_pos (by rw [Qr hj]; rfl)]
   by_cases ht:j=t
   ·subst ht; rw [Qn,Qn]
   ·rw [Qj ht,Qj ht,VL h r]
theorem Qdu:∀ (E:Env) (t:Nat),lk (nrm E) t=lk E t
 | [],_=>rfl
 | (k,v)::r,t=>by
  by_cases h:k=t
  ·subst h; simp only [nrm]; rw [Qn,Qn]
  ·simp only [nrm]; rw [Qj h,Qj h,VL h,Qdu r t]
theorem QbZ:∀ {F E:Env},(∀ e ∈ F,lk E e.1=some e.2)→Sub F E
 | [],_,_=>trivial
 | (k,v)::r,E,h=>⟨h (k,v) (List.mem_cons_self ..),QbZ fun e he=>h e (List.mem_cons_of_mem _ he)⟩
theorem Qal (E:Env):Sub (nrm E) E:=QbZ fun _ he=>Qam he
theorem QcK {φ:Phi} {env:Tr SV} {E:Env} (h:ER φ env E):ER φ env (nrm E):=fun t v hv=>by
 obtain ⟨x,h1,h2⟩:=h t v hv
 exact ⟨x,h1,by rw [Qdu]; exact h2⟩
end Go.Gx

/- Runs by the kernel: the contract of a call; tables. No condition. -/
namespace Go.Gx
open Go.Hp
variable {P:Program} {T:TT} {U:UH} {Q:Tab}
noncomputable def bld {α:Type}:List (Nat × α)→Tr α
 | [] => .nil
 | (k,v)::r=>Tr.put fuelE (bld r) k (some v)
def keysB {α:Type}:List (Nat × α)→Bool
 | []=>true
 | (k,_)::r=>Nat.blt k fuelE && keysB r
theorem qq {α:Type}:∀ {l:List (Nat × α)},keysB l=true→∀ {k:Nat} {x:α},(bld l).get k=some x→(k,x) ∈ l
 | [],_,_,_,h=>by cases h
 | (j,v)::r,hk,k,x,h=>by
  simp only [keysB,Bool.and_eq_true] at hk
  have hj:j < fuelE:=Nat.le_of_ble_eq_true hk.1
  simp only [bld] at h
  rw [Tr.get_put _ _ _ _ _ hj] at h
  cases e:Nat.beq k j
  ·rw [e,cond_false] at h; exact List.mem_cons_of_mem _ (qq hk.2 h)
  ·rw [e,cond_true,Option.some.injEq] at h
   subst h
   rw [Nat.eq_of_beq_eq_true e]; exact List.mem_cons_self ..
theorem QcA:∀ {l:TT},keysB l=true→∀ {k:Nat} {x:TI},(bld l).get k=some x→lkT l k=some x
 | [],_,_,_,h=>by cases h
 | (j,v)::r,hk,k,x,h=>by
  simp only [keysB,Bool.and_eq_true] at hk
  have hj:j < fuelE:=Nat.le_of_ble_eq_true hk.1
  simp only [bld] at h
  rw [Tr.get_put _ _ _ _ _ hj] at h
  cases e:Nat.beq k j
  ·rw [e,cond_false] at h
   simp only [lkT]
   rw [Qr (fun e2=>by subst e2; simp at e),cond_false]
   exact QcA hk.2 h
  ·rw [e,cond_true,Option.some.injEq] at h
   subst h
   obtain rfl:=Nat.eq_of_beq_eq_true e
   simp [lkT]
noncomputable def FI.of (fn:Func) (ords:List (Nat × (List Nat × List Nat))):FI:=⟨fn.ntmps,fn.body.getD .skip,fn.results.toList,bld ords⟩
noncomputable def okE (T:TT) (fn:Func) (ords:List (Nat × (List Nat × List Nat))):Bool :=
 fn.body.isSome && !(fn.name == "runtime.NumGoroutine") && okC T fn.ntmps (bld ords) (fn.body.getD .skip) && Nat.ble fn.ntmps fuelE
def FE (P : Program) (T : TT) (e : Nat × FI) : Prop := ∃ fn, P.funcs[e.1]? = some fn ∧ fn.body = some e.2.body ∧ fn.ntmps = e.2.N ∧ (fn.name == "runtime.NumGoroutine") = false ∧ fn.results = e.2.res.toArray ∧ okC T e.2.N e.2.ords e.2.body = true ∧ e.2.N ≤ fuelE
theorem Qb {f:Nat} {fn:Func} {ords:List (Nat × (List Nat × List Nat))} (hf:P.funcs[f]?=some fn) (h:okE T fn ords=true):FE P T (f,FI.of fn ords):=by
 simp only [okE,Bool.and_eq_true,Bool.not_eq_true'] at h
 obtain ⟨⟨⟨h1,h2⟩,h3⟩,h4⟩:=h
 refine ⟨fn,hf,?_,rfl,h2,by simp [FI.of],h3,Nat.le_of_ble_eq_true h4⟩
 cases hb:fn.body with
 | none=>rw [hb] at h1; cases h1
 | some c=>simp [FI.of,hb]
theorem QdF:∀ e ∈ ([]:List (Nat × FI)),FE P T e:=fun _ h=>by cases h
theorem Qa {x:Nat × FI} {r:List (Nat × FI)} (h:FE P T x) (hr:∀ e ∈ r,FE P T e):∀ e ∈ x::r,FE P T e:=fun e he=>by
 rcases List.mem_cons.1 he with rfl | he
 ·exact h
 ·exact hr e he
theorem Qdp {l:List (Nat × FI)} (hk:keysB l=true) (h:∀ e ∈ l,FE P T e):FOK P T (bld l):=⟨fun _ _ hf=>h _ (qq hk hf)⟩
theorem Qcq (M:MH):SR ⟨[],[]⟩ ⟨.nil,0,.nil⟩ M M:=⟨⟨[],rfl,by simp⟩,(fun _ _ h=>by cases h),rfl,(fun _ _ h=>by cases h),Nat.zero_le _⟩
def noCall:CallF:=fun _ _ _ _=>none
theorem Jg:CallsOK P U noCall:=⟨fun _ _ _ _ _ _ h=>(by cases h),fun _ _ _ _ _ _ h=>(by cases h)⟩
noncomputable def runG (F:Tr FI) (S:CallF) (Q:Tab) (fuel f:Nat) (args:List GV):Option (SV × Mm):=callG (exG F S Q fuel) F S Q f 0 args ⟨.nil,0,.nil⟩
def isTrue:Option (SV × Mm)→Bool
 | some (.one (.one (.bo true)),_)=>true
 | _=>false
def isFn:Option TypeDesc→Bool
 | some (.func _ _ _)=>true
 | _=>false
def fnB (P:Program):List (Nat × Unit)→Bool
 | []=>true
 | e::r=>(match P.info? e.1 with
  | some i=>(match i.zero with
   | some .nilFunc=>Nat.beq i.size 1 && Nat.beq i.bytes 8
   | _=>false)
  | none=>false) && isFn (P.underlying e.1) && fnB P r
theorem Qcp:∀ {l:List (Nat × Unit)},fnB P l=true→∀ e ∈ l,TI.ok P e.1 ⟨.other,1,8,.nilFunc⟩∧∃ a b c,P.underlying e.1=some (.func a b c)
 | [],_,e,he=>by cases he
 | x::r,h,e,he=>by
  simp only [fnB,Bool.and_eq_true] at h
  rcases List.mem_cons.1 he with rfl | he
  ·have hd:∃ a b c,P.underlying e.1=some (.func a b c):=by
    have h2:=h.1.2
    unfold isFn at h2
    split at h2
    ·rename_i a b c hd; exact ⟨a,b,c,hd⟩
    ·cases h2
   refine ⟨⟨?_,?_⟩,hd⟩
   ·have h1:=h.1.1
    split at h1
    ·rename_i i hi
     split at h1
     ·rename_i hz
      simp only [Bool.and_eq_true] at h1
      rw [hi,Option.map_some,hz,Nat.eq_of_beq_eq_true h1.1,Nat.eq_of_beq_eq_true h1.2]
     ·cases h1
    ·cases h1
   ·obtain ⟨a,b,c,hd⟩:=hd
    rw [hd]; rfl
  ·exact Qcp h.2 e he
end Go.Gx
