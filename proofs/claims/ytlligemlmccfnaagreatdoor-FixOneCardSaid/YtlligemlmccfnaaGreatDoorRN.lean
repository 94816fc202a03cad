/- Iterators over maps: a step, an entry, whatever comes first. -/
import Derived.Test.YtlligemlmccfnaaGreatDoorR4
import Derived.Laws.IdiomRangeMap
set_option linter.unusedSimpArgs false
set_option linter.unusedVariables false
namespace Go.RR
open Go.RowKit
variable {P:Program} {g:GW}
theorem zxF {w:World} {r bm since last:Nat} {seen:Array Nat} {es:Array MapEntry} {clock:Nat} {ty:TypeId} (hr:w.heap[r]? = some (.mapIter (some bm) since seen last)) (hb:w.heap[bm]? = some (.map es clock)) (hold:∀ x∈es.toList,x.born<since) (hsc:since≤last) :
  ((leftOf es seen).size=0∧(Instr.next (.pointer (some ⟨r,0,none⟩)) false ty).run P w=.ok (.tuple #[.bool false]) w) ∨
  ∃ e∈(leftOf es seen).toList,∃ d,(Instr.next (.pointer (some ⟨r,0,none⟩)) false ty).run P w=.ok (.tuple #[.bool true,e.key,e.val]) { w with heap:=w.heap.setIfInBounds r (.mapIter (some bm) since (seen.push e.born) clock),drawn:=d }:=by
 simp only [Instr.next,getObj,Sem.run_bind,Sem.run,hr,hb,Result.andThen,next_test_false seen es since last hold hsc,Bool.false_eq_true,if_false]
 unfold leftOf
 have hmem:∀ x∈(Array.filter (fun e=>!seen.contains e.born) es).toList,x.born<since:=fun x hx=>hold x (by simp at hx ⊢;exact hx.1)
 generalize Array.filter (fun e=>!seen.contains e.born) es=L at hmem ⊢
 have e1:L.filter (fun x=>decide (x.born<since))=L:=Array.filter_eq_self.2 (fun x hx=>by simpa using hmem x (by simpa using hx))
 have e2:L.filter (fun x=>decide (x.born≥since))=#[]:=by
  rw [Array.filter_eq_empty_iff]
  intro x hx
  have:=hmem x (by simpa using hx)
  simp
  omega
 simp only [e1,e2,Array.append_empty]
 by_cases h0:L.size=0
 ·left
  have:L=#[]:=Array.eq_empty_of_size_eq_zero h0
  subst this
  refine ⟨rfl,?_⟩
  simp [choose,Sem.run,Question.forced]
 ·right
  have hne:L.isEmpty=false:=by simp [Array.isEmpty,h0]
  simp only [hne,Bool.false_eq_true,if_false,Array.empty_append,Array.size_map]
  have hch:∃ (j:Nat) (d:Nat),j<L.size∧(choose (Question.mapNext L.size)).run P w=.ok j { w with drawn:=d }:=by
   by_cases hf:L.size≤1
   ·exact ⟨0,w.drawn,by omega,by simp [choose,Sem.run,Question.forced,hf]⟩
   ·exact ⟨w.tape w.drawn (Question.mapNext L.size) % L.size,w.drawn+1,Nat.mod_lt _ (by omega),by
     simp only [choose,Sem.run,Question.forced,decide_eq_true_eq,hf,if_false,Question.cut]⟩
  obtain ⟨j,d,hj,hrun⟩:=hch
  refine ⟨L[j],by simp,d,?_⟩
  simp only [hrun,Array.getElem?_map,Array.getElem?_eq_getElem hj,Option.map_some,Sem.run_bind,Result.andThen]
  simp only [setObj,Sem.run,hr]
  rfl
theorem zA1 {w:World} {r bm since:Nat} {seen:Array Nat} {es:Array MapEntry} {clock:Nat} (e:MapEntry) (hr:w.heap[r]? = some (.mapIter (some bm) since (seen.push e.born) clock)) (hb:w.heap[bm]? = some (.map es clock)) (he:e∈es.toList) (hn:(es.toList.map (·.born)).Nodup) :
  (Instr.entry (.pointer (some ⟨r,0,none⟩))).run P w=.ok (.tuple #[e.key,e.val]) w:=by
 have hf:es.find? (·.born==e.born)=some e:=by rw [←Array.find?_toList];exact find_born e es.toList hn he
 simp only [Instr.entry,getObj,Sem.run_bind,Sem.run,hr,hb,Result.andThen,Array.back?_push,bne_self_eq_false,Bool.false_eq_true,if_false,hf]
 rfl
def unseen (es:List (V×V×Nat)) (seen:List Nat):List (V×V×Nat):=es.filter fun e=>!seen.contains e.2.2
theorem zqM {w:World} {M:Nat→Prop} {ν:Nu} {es:List (V×V×Nat)} {seen:List Nat} {ent:Array MapEntry} (hl:ent.size=es.length) (hr:∀ i (hi:i<es.length),∃ e,ent[i]? = some e∧Rel w M ν es[i].1 e.key∧Rel w M ν es[i].2.1 e.val∧e.born=es[i].2.2) :
  (∀ e∈(leftOf ent seen.toArray).toList,∃ x∈unseen es seen,Rel w M ν x.1 e.key∧Rel w M ν x.2.1 e.val∧e.born=x.2.2∧e∈ent.toList)∧(unseen es seen≠[]→(leftOf ent seen.toArray).size≠0):=by
 have key:∀ i (hi:i<es.length),∃ hi':i<ent.size,Rel w M ν es[i].1 ent[i].key∧Rel w M ν es[i].2.1 ent[i].val∧ent[i].born=es[i].2.2:=fun i hi=>by
  obtain ⟨e,h1,h2,h3,h4⟩:=hr i hi
  obtain ⟨hi',rfl⟩:=Array.getElem?_eq_some_iff.1 h1
  exact ⟨hi',h2,h3,h4⟩
 constructor
 ·intro e he
  unfold leftOf at he
  simp only [Array.toList_filter,List.mem_filter,Bool.not_eq_true',Array.mem_toList_iff] at he
  obtain ⟨h1,h2⟩:=he
  obtain ⟨i,hi,rfl⟩:=Array.getElem_of_mem h1
  obtain ⟨hi2,k1,k2,k3⟩:=key i (by omega)
  refine ⟨es[i]'(by omega),?_,k1,k2,k3,by simp⟩
  unfold unseen
  rw [List.mem_filter]
  refine ⟨List.getElem_mem _,?_⟩
  rw [←k3]
  simpa using h2
 ·intro hne h0
  obtain ⟨x,hx⟩:=List.exists_mem_of_ne_nil _ hne
  unfold unseen at hx
  rw [List.mem_filter] at hx
  obtain ⟨i,hi,rfl⟩:=List.mem_iff_getElem.1 hx.1
  obtain ⟨hi',k1,k2,k3⟩:=key i hi
  have hm:ent[i]∈leftOf ent seen.toArray:=by
   unfold leftOf
   rw [Array.mem_filter]
   refine ⟨Array.getElem_mem hi',?_⟩
   rw [k3]
   simpa using hx.2
  have:=Array.size_pos_of_mem hm
  omega
theorem zsz {w:World} {M:Nat→Prop} {ν:Nu} {es:List (V×V×Nat)} {ent:Array MapEntry} (hl:ent.size=es.length) (hr:∀ i (hi:i<es.length),∃ e,ent[i]? = some e∧Rel w M ν es[i].1 e.key∧Rel w M ν es[i].2.1 e.val∧e.born=es[i].2.2):ent.toList.map (·.born)=es.map (·.2.2):=by
 apply List.ext_getElem
 ·simp [hl]
 ·intro i h1 h2
  simp at h1 h2
  obtain ⟨e,k1,k2,k3,k4⟩:=hr i h2
  obtain ⟨hi',rfl⟩:=Array.getElem?_eq_some_iff.1 k1
  simpa using k4
variable {P:Program} {g:GW} {w:World} {M:Nat→Prop} {ν:Nu} {h:List Ob}
theorem zDY (hh:HR w M ν h) {mid c:Nat} {es:List (V×V×Nat)} (hm:h[mid]? = some (.map es c)) {Lm:Lc} (hL:ν mid=some Lm) :
  ∃ ν',Pst w M ν h (w.alloc (.mapIter (some Lm.b) c #[] c)) M ν' (h++[.itr mid [] c c])∧Rel (w.alloc (.mapIter (some Lm.b) c #[] c)) M ν' (.mp h.length) (.pointer (some ⟨w.heap.size,0,none⟩)):=by
 have hml:=(List.getElem?_eq_some_iff.1 hm).1
 have hold:∀ k,k<w.heap.size→(w.alloc (.mapIter (some Lm.b) c #[] c)).heap[k]? = w.heap[k]?:=zoh rfl
 have hnew:(w.alloc (.mapIter (some Lm.b) c #[] c)).heap[w.heap.size]? = some (.mapIter (some Lm.b) c #[] c):=zn4 rfl
 have hb:HOb (w.alloc (.mapIter (some Lm.b) c #[] c)) M (fun i=>if i=h.length then some (⟨w.heap.size,0,0,2,0,0,default⟩:Lc) else ν i) ⟨w.heap.size,0,0,2,0,0,default⟩ (.itr mid [] c c):=
  ⟨rfl,rfl,fun hb=>Nat.lt_irrefl _ (hh.lt _ hb),Lm.b,Lm,by simp [Nat.ne_of_lt hml,hL],fun _=>rfl,hnew⟩
 obtain ⟨a1,a2,a3,-⟩:=HR.add (x:=.itr mid [] c c) (L:=⟨w.heap.size,0,0,2,0,0,default⟩) hh (nid:=h.length) (hh.new _ (Nat.le_refl _)) (Nat.le_refl _) (fun hi=>absurd hi (Nat.lt_irrefl _)) (w':=w.alloc (.mapIter (some Lm.b) c #[] c)) hold (by show w.heap.size≤(w.heap.push _).size;simp) (Nat.le_refl _) hb
 rw [zvK] at a1 a3
 refine ⟨_,⟨a1,fun _ hb=>hb,fun _ hb=>.inl hb,a2,ziF (w:=w) (w1:=w.alloc (.mapIter (some Lm.b) c #[] c)) (x:=.mapIter (some Lm.b) c #[] c) rfl rfl rfl rfl _,a3⟩,.mp (L:=⟨w.heap.size,0,0,2,0,0,default⟩) (by simp) rfl (fun _=>rfl)⟩
theorem zDp (hh:HR w M ν h) {itid mid since last last':Nat} {seen seen':List Nat} (hi:h[itid]? = some (.itr mid seen since last)) {Li:Lc} (hL:ν itid=some Li) {d:Nat} {bm:Nat} (hbm:∃ Lm,ν mid=some Lm∧(Lm.tot=0→Lm.b=bm)) (hne:mid≠itid) :
  ∃ ν',Pst w M ν h { w with heap:=w.heap.setIfInBounds Li.b (.mapIter (some bm) since seen'.toArray last'),drawn:=d } M ν' (h.set itid (.itr mid seen' since last')):=by
 obtain ⟨hid,hx⟩:=List.getElem?_eq_some_iff.1 hi
 have hlv:live h[itid]=true:=by rw [hx];rfl
 obtain ⟨L,h1,h2⟩:=hh.ob itid hid hlv
 rw [hL] at h1
 cases h1
 rw [hx] at h2
 obtain ⟨c1,c2,c3,bm0,Lm0,c4,c5,c6⟩:=h2
 have hlt:=(Array.getElem?_eq_some_iff.1 c6).1
 obtain ⟨Lm,d1,d2⟩:=hbm
 obtain ⟨w',hw'⟩:∃ w':World,w'={ w with heap:=w.heap.setIfInBounds Li.b (.mapIter (some bm) since seen'.toArray last'),drawn:=d }:=⟨_,rfl⟩
 have hold:∀ k,k≠Li.b→w'.heap[k]? = w.heap[k]?:=fun k hk=>by
  rw [hw']
  simp only
  rw [Array.getElem?_setIfInBounds_ne (Ne.symm hk)]
 have hsz:w'.heap.size=w.heap.size:=by rw [hw'];simp
 have hat:w'.heap[Li.b]? = some (.mapIter (some bm) since seen'.toArray last'):=by rw [hw'];simp [hlt]
 have hb:HOb w' M (fun i=>if i=itid then some Li else ν i) Li (.itr mid seen' since last'):=⟨c1,c2,c3,bm,Lm,by simp [hne,d1],d2,hat⟩
 obtain ⟨a1,a2,a3,-⟩:=HR.upd (x:=.itr mid seen' since last') hh hid hlv hL (w':=w') (L':=Li) (fun k _ hk=>hold k hk) (Nat.le_of_eq hsz.symm) (Nat.le_refl _) (fun _=>rfl) (.inl rfl) hb
 have ew:wr h (some (itid,.itr mid seen' since last'))=h.set itid (.itr mid seen' since last'):=by rw [zuL,if_pos hid]
 rw [ew] at a1 a3
 rw [←hw']
 exact ⟨_,a1,fun _ hb=>hb,fun _ hb=>.inl hb,a2,⟨by rw [hw'],by rw [hw'],by rw [hw'],Nat.le_of_eq hsz.symm,fun k hk hm=>hold k fun e=>hm ⟨itid,hid,hlv,Li,hL,e.symm⟩⟩,a3⟩
theorem HR.kill (hh:HR w M ν h) (id:Nat):HR w M ν (h.set id .dead)∧∀ b,Mine ν (h.set id .dead) b→Mine ν h b:=by
 have key:∀ i (hi:i<(h.set id .dead).length),live (h.set id .dead)[i]=true→∃ hi':i<h.length,(h.set id Ob.dead)[i]=h[i]:=by
  intro i hi hl
  have hi':i<h.length:=by simpa using hi
  refine ⟨hi',?_⟩
  by_cases e:id=i
  ·subst e
   simp [live] at hl
  ·rw [List.getElem_set_ne e]
 refine ⟨⟨fun i hi hl=>?_,fun i j hi hj Li Lj hne hli hlj=>?_,fun i hi=>hh.new i (by simpa using hi),hh.lt⟩,fun b hb=>?_⟩
 ·obtain ⟨hi',e⟩:=key i hi hl
  rw [e] at hl ⊢
  exact hh.ob i hi' hl
 ·obtain ⟨hi',e⟩:=key i hi hli
  obtain ⟨hj',e'⟩:=key j hj hlj
  rw [e] at hli
  rw [e'] at hlj
  exact hh.apart i j hi' hj' Li Lj hne hli hlj
 ·obtain ⟨i,hi,hl,L,k1,k2⟩:=hb
  obtain ⟨hi',e⟩:=key i hi hl
  rw [e] at hl
  exact ⟨i,hi',hl,L,k1,k2⟩
structure Rm where
 pre:List In
 m:O
 it:Nat
 kA:Option (List Nat)
 b0:Nat
 nx:Nat
 bl:List In
 kB:Option (List Nat)
 ok:O
 b1:Nat
 en:Nat
 dl:List In
 kD:Option (List Nat)
 body:IR
inductive RN where
 | det (i:IR)
 | seq (a b:RN)
 | rm (x:Rm)
noncomputable def zFh (C:Cx) (X:Rm) (v:V) (fr:Fr) (h:List Ob):Option Rs:=ziR X.kB (zak (crw C y0) X.bl (zdI fr (some X.nx) v) h)
noncomputable def insD (C:Cx) (X:Rm) (v:V) (fr:Fr) (h:List Ob):Option Rs:=ziR X.kD (zak (crw C y0) X.dl (zdI fr (some X.en) v) h)
noncomputable def zFf (C:Cx) (X:Rm) (itid mid since:Nat) (Q:Rs→Prop):Nat→List Nat→Nat→Fr→List Ob→Prop
 | 0,seen,last,fr,h=>get fr X.it=.mp itid∧∃ es c,h[mid]? = some (.map es c)∧h[itid]? = some (.itr mid seen since last)∧since≤last∧(∀ e∈es,e.2.2<since)∧unseen es seen=[] ∧
   ∃ fr1,zFh C X (.tup [.bool false]) fr h=some (.nrm,fr1,h)∧X.ok.ev fr1=.bool false∧Q (.nrm,fr1,h.set itid .dead)
 | k+1,seen,last,fr,h=>get fr X.it=.mp itid∧∃ es c,h[mid]? = some (.map es c)∧h[itid]? = some (.itr mid seen since last)∧since≤last∧(∀ e∈es,e.2.2<since)∧unseen es seen≠[]∧since≤c∧(es.map (·.2.2)).Nodup ∧
   ∀ e∈unseen es seen,∃ fr1 fr2 x fr3 h3,zFh C X (.tup [.bool true,e.1,e.2.1]) fr (h.set itid (.itr mid (seen++[e.2.2]) since c))=some (.nrm,fr1,h.set itid (.itr mid (seen++[e.2.2]) since c))∧X.ok.ev fr1=.bool true∧get fr1 X.it=.mp itid ∧
    insD C X (.tup [e.1,e.2.1]) fr1 (h.set itid (.itr mid (seen++[e.2.2]) since c))=some (.nrm,fr2,h.set itid (.itr mid (seen++[e.2.2]) since c)) ∧
    evw C y0 X.body fr2 (h.set itid (.itr mid (seen++[e.2.2]) since c))=some (x,fr3,h3)∧(x=.nrm∨x=.ext X.b1)∧zFf C X itid mid since Q k (seen++[e.2.2]) c fr3 h3
noncomputable def rnP (C:Cx):RN→Fr→List Ob→(Rs→Prop)→Prop
 | .det i,fr,h,Q=>∃ r,evw C y0 i fr h=some r∧Q r
 | .seq a b,fr,h,Q=>rnP C a fr h fun r=>match r with
  | (.nrm,fr1,h1)=>rnP C b fr1 h1 Q
  | r=>Q r
 | .rm X,fr,h,Q=>∃ fr1 h1 mid es c,zak (crw C y0) X.pre fr h=some (.nrm,fr1,h1)∧X.m.ev fr1=.mp mid∧h1[mid]? = some (.map es c) ∧
   zFf C X h1.length mid c Q es.length [] c (zv9 X.kA (zdI fr1 (some X.it) (.mp h1.length))) (h1++[.itr mid [] c c])
theorem zvm {C:Cx} {X:Rm} {itid mid since:Nat} {Q Q':Rs→Prop}:∀ (k k':Nat) (seen:List Nat) (last:Nat) (fr:Fr) (h:List Ob),zFf C X itid mid since Q k seen last fr h→zFf C X itid mid since Q' k' seen last fr h→∃ r,Q r∧Q' r
 | 0,0,seen,last,fr,h,⟨a,es,c,b1,b2,b3,b4,b5,fr1,c1,c2,c3⟩,⟨a',es',c',b1',b2',b3',b4',b5',fr1',c1',c2',c3'⟩=>by
  rw [c1] at c1'
  cases c1'
  exact ⟨_,c3,c3'⟩
 | 0,k'+1,seen,last,fr,h,⟨a,es,c,b1,b2,b3,b4,b5,b6⟩,⟨a',es',c',b1',b2',b3',b4',b5',b6'⟩=>by
  rw [b1] at b1'
  cases b1'
  exact absurd b5 b5'
 | k+1,0,seen,last,fr,h,⟨a,es,c,b1,b2,b3,b4,b5,b6⟩,⟨a',es',c',b1',b2',b3',b4',b5',b6'⟩=>by
  rw [b1] at b1'
  cases b1'
  exact absurd b5' b5
 | k+1,k'+1,seen,last,fr,h,⟨a,es,c,b1,b2,b3,b4,b5,b6,b7,b8⟩,⟨a',es',c',b1',b2',b3',b4',b5',b6',b7',b8'⟩=>by
  rw [b1] at b1'
  cases b1'
  obtain ⟨e,he⟩:=List.exists_mem_of_ne_nil _ b5
  obtain ⟨fr1,fr2,x,fr3,h3,c1,c2,c3,c4,c5,c6,c7⟩:=b8 e he
  obtain ⟨fr1',fr2',x',fr3',h3',c1',c2',c3',c4',c5',c6',c7'⟩:=b8' e he
  rw [c1] at c1'
  cases c1'
  rw [c4] at c4'
  cases c4'
  rw [c5] at c5'
  cases c5'
  exact zvm k k' _ _ _ _ c7 c7'
theorem zuf {C:Cx}:∀ (t:RN) (fr:Fr) (h:List Ob) (Q Q':Rs→Prop),rnP C t fr h Q→rnP C t fr h Q'→∃ r,Q r∧Q' r
 | .det i,fr,h,Q,Q',⟨r,a,b⟩,⟨r',a',b'⟩=>by
  rw [a] at a'
  cases a'
  exact ⟨r,b,b'⟩
 | .seq a b,fr,h,Q,Q',p,p'=>by
  obtain ⟨r,q,q'⟩:=zuf a fr h _ _ p p'
  obtain ⟨x,fr1,h1⟩:=r
  cases x with
  | nrm=>exact zuf b fr1 h1 Q Q' q q'
  | _=>exact ⟨_,q,q'⟩
 | .rm X,fr,h,Q,Q',⟨fr1,h1,mid,es,c,a1,a2,a3,a4⟩,⟨fr1',h1',mid',es',c',a1',a2',a3',a4'⟩=>by
  rw [a1] at a1'
  cases a1'
  rw [a2] at a2'
  cases a2'
  rw [a3] at a3'
  cases a3'
  exact zvm _ _ _ _ _ _ a4 a4'
variable {P:Program} {g:GW}
def mRA (P:Program) (n:Nat) (ops:Array Oper) (X:Rm):List Oper→List In→Bool
 | [o],[]=>(match o.op with
  | .range t m=>(zAb P t).isSome&&mO m X.m
  | _=>false)&&(o.dst==some X.it)&&decide (X.it<n)&&o.guard.isNone
 | o::l,x::xs=>mIn P n ops o x&&mRA P n ops X l xs
 | _,_=>false
def mRB (P:Program) (n:Nat) (ops:Array Oper) (X:Rm):List Oper→Bool
 | o::l=>(match o.op with
  | .next m false=>mO m (.t X.it)
  | _=>false)&&(o.dst==some X.nx)&&decide (X.nx<n)&&o.guard.isNone&&zvs P n ops l X.bl
 | _=>false
def mRD (P:Program) (n:Nat) (ops:Array Oper) (X:Rm):List Oper→Bool
 | o::l=>(match o.op with
  | .entry m=>mO m (.t X.it)
  | _=>false)&&(o.dst==some X.en)&&decide (X.en<n)&&o.guard.isNone&&zvs P n ops l X.dl
 | _=>false
def mRm (P:Program) (n:Nat):Code→Rm→Bool
 | .seq (.region _ opsA dA) (.block b0 (.loop (.seq (.region _ opsB dB) (.seq (.cond c0 .skip (.exit b0')) (.block b1 (.seq (.region _ opsD dD) body)))))),X=>
  !dA&&mRA P n opsA X opsA.toList X.pre&&b0==X.b0&&b0'==X.b0&&!dB&&mRB P n opsB X opsB.toList&&mO c0 X.ok&&b1==X.b1&&!dD&&mRD P n opsD X opsD.toList&&mC P n body X.body
 | _,_=>false
def mRN (P:Program) (n:Nat):Code→RN→Bool
 | c,.det i=>mC P n c i
 | .seq a b,.seq x y=>mRN P n a x&&mRN P n b y
 | c,.rm X=>mRm P n c X
 | _,_=>false
theorem zAw {C:Cx} (hg:g.yl=.no) (hT:∀ f F,C.T f=some F→mF P f F=true) (hS:SOK P g C.S) (hH:zdV P g C.H) {ir:IR} {c:Code} {n:Nat} (hm:mC P n c ir=true):Snd P g n (evw C y0 ir) (fun Q a w=>c.wpIn (FW none) 0 P Q a w):=by
 intro fr h x fr' h' he
 obtain ⟨m,hm'⟩:=evw_iff.1 he
 cases m with
 | zero=>cases hm'
 | succ m=>
  have hg0:(g.at .no)=g:=by cases g;simp only [GW.at] at *;rw [hg]
  obtain ⟨k1,k2⟩:=zrI hg hT hS hH m y0 .no (YOK.y0 _ _)
  rw [hg0] at k1 k2
  exact znQ k2 (fun ρ=>k1 ρ n) none (.inl rfl) hm _ _ _ _ _ hm'
theorem crw_ok {C:Cx} (hg:g.yl=.no) (hT:∀ f F,C.T f=some F→mF P f F=true) (hS:SOK P g C.S) (hH:zdV P g C.H):CRok P g (crw C y0):=by
 have hg0:(g.at .no)=g:=by cases g;simp only [GW.at] at *;rw [hg]
 refine ⟨?_,YOK.y0 _ _,fun Y e hY=>?_⟩
 ·rw [hg0]
  intro f args h out h' he
  obtain ⟨m,hm⟩:=acw_iff.1 he
  exact zsP hg hT hS hH m _ _ _ _ _ hm
 ·intro f args h out h' he
  obtain ⟨m,hm⟩:=itw_iff.1 he
  exact (zrI hg hT hS hH m Y e hY).2.it Y e hY _ _ _ _ _ hm
variable {P:Program} {g:GW}
theorem zvq {k:Option (List Nat)} {r:Option Rs} {fr:Fr} {h:List Ob} (e:ziR k r=some (.nrm,fr,h)):∃ fr0,r=some (.nrm,fr0,h)∧fr=zv9 k fr0:=by
 unfold ziR at e
 split at e
 ·rename_i fr1 h1
  cases e
  exact ⟨fr1,rfl,rfl⟩
 ·rename_i hne
  exact absurd e (hne _ _)
theorem zwA {C:Cx} (hcr:CRok P g (crw C y0)) {n:Nat} {ops:Array Oper} {X:Rm} {mid c:Nat} {es:List (V×V×Nat)}:∀ {l:List Oper} {xs:List In},mRA P n ops X l xs=true→∀ fr h fr1 h1,zak (crw C y0) xs fr h=some (.nrm,fr1,h1)→X.m.ev fr1=.mp mid→h1[mid]? = some (.map es c) →
  ∀ a w M ν,ziU w M ν n fr a→HR w M ν h→Inv g w M ν→∀ Q:Exit→Act→World→Prop,
  (∀ a' w' M' ν',ziU w' M' ν' n (zdI fr1 (some X.it) (.mp h1.length)) a'→Pst w M ν h w' M' ν' (h1++[.itr mid [] c c])→a'.defers=a.defers→Q .normal a' w')→wpListIn (FW none) 0 P ops Q l a w
 | [o],[],hm=>by
  intro fr h fr1 h1 he hmv hmm a w M ν hf hh hi Q hQ
  simp only [zak] at he
  cases he
  simp only [mRA,Bool.and_eq_true,beq_iff_eq,decide_eq_true_eq] at hm
  obtain ⟨⟨⟨hm,hd⟩,hn⟩,hgd⟩:=hm
  split at hm<;>try contradiction
  rename_i t m e
  simp only [Bool.and_eq_true] at hm
  obtain ⟨ht,hm⟩:=hm
  obtain ⟨⟨kt,et⟩,ht⟩:=Option.isSome_iff_exists.1 ht
  have r1:=zaM hf.fr hm
  rw [hmv] at r1
  have hmo:zgc h (.mp mid)=some (some (mid,es,c)):=by simp [zgc,hmm]
  obtain ⟨-,hid,hx,L,hL,hmp,hu⟩:=zfw hh r1 hmo
  obtain ⟨ent,hb,hl,hel⟩:=hmp.blk
  obtain ⟨ν',p,hv⟩:=zDY hh hmm hL
  have hgd:o.guard=none:=by simpa using hgd
  unfold wpListIn
  rw [if_pos (by simp [Region.wanted,hgd])]
  refine Oper.wpR_in (fun c' e'=>by rw [e] at e';cases e') (Oper.wpR_value (v:=.pointer (some ⟨w.heap.size,0,none⟩)) (w':=w.alloc (.mapIter (some L.b) c #[] c)) ?_ ?_)
  ·simp [execOp,e,hu,run_range_map w t kt et L.b ent c (zc9 ht) hb]
  ·unfold wpListIn
   rw [hd]
   exact hQ _ _ _ _ ((hf.step hh p).put (d:=some X.it) (fun t e=>by cases e;exact hn) hv) p (put_defers' ..)
 | o::l,x::xs,hm=>by
  intro fr h fr1 h1 he hmv hmm a w M ν hf hh hi Q hQ
  simp only [mRA,Bool.and_eq_true] at hm
  obtain ⟨hm,hms⟩:=hm
  have hm0:=hm
  simp only [mIn,Bool.and_eq_true] at hm
  obtain ⟨⟨hd,hg⟩,hx⟩:=hm
  obtain ⟨ed,hdn⟩:=zri hd
  have ih:=zwA hcr (mid:=mid) (c:=c) (es:=es) hms
  simp only [zak] at he
  unfold wpListIn
  split at he<;>try contradiction
  ·rename_i hw
   rw [if_pos (zcu hf hg hw)]
   refine Oper.wpR_in (zsG hx) ?_
   split at he<;>try contradiction
   ·rename_i v h2 hs
    have:=zcL (P:=P) hcr hm0 hf hh hi hs (ρ:=none) (K:=wpListIn (FW none) 0 P ops Q l) (Q:=Q)
    refine this fun u w1 M1 ν1 hv p=>?_
    have hf1:=(hf.step hh p).put hdn hv
    rw [ed]
    refine ih _ _ _ _ he hmv hmm _ _ _ _ hf1 p.hr (hi.step (p.same hh) p.hM p.le) Q fun a' w' M' ν' hf' p' hd'=>?_
    exact hQ a' w' M' ν' hf' (p.trans p') (by rw [hd',put_defers'])
   ·cases he
  ·rename_i hw
   rw [if_neg (by rw [zcu hf hg hw];simp)]
   refine ⟨fun _ _=>trivial,?_⟩
   have hf1:=hf.put hdn (v:=.tup []) (u:=undef) zp3
   rw [ed]
   refine ih _ _ _ _ he hmv hmm _ _ _ _ hf1 hh hi Q fun a' w' M' ν' hf' p' hd'=>?_
   exact hQ a' w' M' ν' hf' p' (by rw [hd',put_defers'])
 | [],[],hm=>by simp [mRA] at hm
 | [],_::_,hm=>by simp [mRA] at hm
 | _::_::_,[],hm=>by simp [mRA] at hm
variable {P:Program} {g:GW}
theorem zzC {w:World} {M:Nat→Prop} {ν:Nu} {h:List Ob} (hh:HR w M ν h) {itid mid since last c:Nat} {seen:List Nat} {es:List (V×V×Nat)} (hm:h[mid]? = some (.map es c)) (hi:h[itid]? = some (.itr mid seen since last)) :
  mid≠itid∧∃ Li Lm ent,ν itid=some Li∧Li.tot=0∧Li.ref=.pointer (some ⟨Li.b,0,none⟩)∧w.heap[Li.b]? = some (.mapIter (some Lm.b) since seen.toArray last)∧ν mid=some Lm∧w.heap[Lm.b]? = some (.map ent c)∧ent.size=es.length∧(∀ i (hi:i<es.length),∃ e,ent[i]? = some e∧Rel w M ν es[i].1 e.key∧Rel w M ν es[i].2.1 e.val∧e.born=es[i].2.2):=by
 have hne:mid≠itid:=fun e=>by
  rw [e,hi] at hm
  cases hm
 refine ⟨hne,?_⟩
 obtain ⟨hid,hx⟩:=List.getElem?_eq_some_iff.1 hi
 obtain ⟨Li,h1,h2⟩:=hh.ob itid hid (by rw [hx];rfl)
 rw [hx] at h2
 obtain ⟨c1,c2,c3,bm,Lm,c4,c5,c6⟩:=h2
 obtain ⟨hmd,hx'⟩:=List.getElem?_eq_some_iff.1 hm
 obtain ⟨Lm',k1,k2⟩:=hh.ob mid hmd (by rw [hx'];rfl)
 rw [hx'] at k2
 obtain ⟨d1,d2,d3,ent,d4,d5,d6⟩:=k2
 rw [k1] at c4
 cases c4
 have:=c5 d1
 subst this
 exact ⟨Li,Lm,ent,h1,c1,by simp [Lc.ref,c2],c6,k1,d4,d5,d6⟩
theorem Pst.kill {w:World} {M:Nat→Prop} {ν:Nu} {h:List Ob} (hh:HR w M ν h) (id:Nat):Pst w M ν h w M ν (h.set id .dead):=
 ⟨(hh.kill id).1,fun _ hb=>hb,fun _ hb=>.inl hb,Nu.le_refl _,Stp.refl _ _,fun b hb=>.inl ((hh.kill id).2 b hb)⟩
theorem zzf {C:Cx} (hcr:CRok P g (crw C y0)) {n:Nat} {opsB opsD:Array Oper} {X:Rm} {iB iD b0:Nat} {c0:Operand} {body:Code} (hB:mRB P n opsB X opsB.toList=true) (hD:mRD P n opsD X opsD.toList=true) (hc0:mO c0 X.ok=true)
  (hev:Snd P g n (evw C y0 X.body) (fun Q a w=>body.wpIn (FW none) 0 P Q a w)) {itid mid since:Nat} {Q:Rs→Prop} :
  ∀ (k:Nat) (seen:List Nat) (last:Nat) (fr:Fr) (h:List Ob),zFf C X itid mid since Q k seen last fr h→∀ a w M ν,ziU w M ν n fr a→HR w M ν h→Inv g w M ν→∀ Q':Exit→Act→World→Prop,
  (∀ fr1 h1,Q (.nrm,fr1,h1)→∀ a' w' M' ν',ziU w' M' ν' n fr1 a'→Pst w M ν h w' M' ν' h1→Dfr w w' M' ν' h1 a a'→Q' .normal a' w') →
  Code.roundsIn (FW none) 0 P (.seq (.region iB opsB false) (.seq (.cond c0 .skip (.exit b0)) (.block X.b1 (.seq (.region iD opsD false) body)))) (Exit.inBlock b0 Q') (k+1) a w:=by
 intro k seen last fr h hR a w M ν hf hh hi Q' hQ
 -- what the first operation of a round does
 have hB':=hB
 generalize hlB:opsB.toList=lB at hB'
 cases lB with
 | nil=>simp [mRB] at hB'
 | cons o l=>
 simp only [mRB,Bool.and_eq_true,beq_iff_eq,decide_eq_true_eq] at hB'
 obtain ⟨⟨⟨⟨hm,hd⟩,hn⟩,hgd⟩,hins⟩:=hB'
 split at hm<;>try contradiction
 rename_i m e
 have hgd:o.guard=none:=by simpa using hgd
 have first:∀ {a:Act} {w:World} {M:Nat→Prop} {ν:Nu} {fr:Fr} {h:List Ob} {v u:Value} {w1:World} {M1:Nat→Prop} {ν1:Nu} {h1:List Ob} {vv:V} {frB:Fr} {K:Exit→Act→World→Prop},ziU w M ν n fr a→HR w M ν h→Inv g w M ν→a.eval m=v→(Instr.next v false o.type).run P w=.ok u w1→Pst w M ν h w1 M1 ν1 h1→Rel w1 M1 ν1 vv u→zFh C X vv fr h1=some (.nrm,frB,h1) →
   (∀ a' w' M' ν',ziU w' M' ν' n frB a'→Pst w M ν h w' M' ν' h1→a'.defers=a.defers→K .normal a' w')→(Code.region iB opsB false).wpIn (FW none) 0 P K a w:=by
  intro a w M ν fr h v u w1 M1 ν1 h1 vv frB K hf hh hi hv hrun p hrel hb hK
  refine wpIn_region_list ?_
  rw [hlB]
  unfold wpListIn
  rw [if_pos (by simp [Region.wanted,hgd])]
  refine Oper.wpR_in (fun c' e'=>by rw [e] at e';cases e') (Oper.wpR_value (v:=u) (w':=w1) ?_ ?_)
  ·simp [execOp,e,hv,hrun]
  ·rw [hd]
   obtain ⟨fr0,hb0,rfl⟩:=zvq hb
   refine zcw hcr hins _ _ _ _ _ hb0 _ _ _ _ ((hf.step hh p).put (d:=some X.nx) (fun t e=>by cases e;exact hn) hrel) p.hr (hi.step (p.same hh) p.hM p.le) _ fun e' a' w' M' ν' hx hf' p' hd'=>?_
   cases hx
   exact hK a' w' M' ν' (hf'.keep _) (p.trans p') (by rw [hd',put_defers'])
 have hD':=hD
 generalize hlD:opsD.toList=lD at hD'
 cases lD with
 | nil=>simp [mRD] at hD'
 | cons o2 l2=>
 simp only [mRD,Bool.and_eq_true,beq_iff_eq,decide_eq_true_eq] at hD'
 obtain ⟨⟨⟨⟨hm2,hd2⟩,hn2⟩,hgd2⟩,hins2⟩:=hD'
 split at hm2<;>try contradiction
 rename_i m2 e2
 have hgd2:o2.guard=none:=by simpa using hgd2
 induction k generalizing seen last fr h a w M ν Q' with
 | zero=>
  obtain ⟨q1,es,c,q2,q3,q4,q5,q6,fr1,q7,q8,q9⟩:=hR
  obtain ⟨hne,Li,Lm,ent,s1,s2,s3,s4,s5,s6,s7,s8⟩:=zzC hh q2 q3
  have rv:=zaM hf.fr hm
  have ev1:(O.t X.it).ev fr=.mp itid:=q1
  rw [ev1] at rv
  have hv:a.eval m=.pointer (some ⟨Li.b,0,none⟩):=by
   generalize a.eval m=u at rv
   cases rv with
   | mp hv _ hm'=>
    rw [s1] at hv
    cases hv
    rw [hm' s2,s3]
  have hold:∀ x∈ent.toList,x.born<since:=fun x hx=>by
   have hb:=zsz s7 s8
   have:x.born∈es.map (·.2.2):=by rw [←hb];exact List.mem_map.2 ⟨x,hx,rfl⟩
   obtain ⟨y,hy,ey⟩:=List.mem_map.1 this
   rw [←ey]
   exact q5 y hy
  rw [roundsIn_succ]
  refine wpIn_seq ?_
  rcases zxF (P:=P) (ty:=o.type) s4 s6 hold q4 with ⟨-,hrun⟩|⟨x,hx,-⟩
  ·refine first hf hh hi hv hrun (.refl hh) (vv:=.tup [.bool false]) (.tup rfl fun i hi=>by
    obtain rfl:i=0:=by simp at hi;omega
    exact .bool) q7 fun a' w' M' ν' hf' p hd'=>?_
   show (Code.seq _ _).wpIn _ _ _ _ _ _
   refine wpIn_seq ?_
   have hc:=zaM hf'.fr hc0
   rw [q8] at hc
   refine wpIn_cond_false hc.bool_inv (wpIn_exit ?_)
   show (if b0=b0 then Q' .normal a' w' else Q' (.exit b0) a' w')
   rw [if_pos rfl]
   exact hQ fr1 _ q9 a' w' M' ν' hf' (p.trans (.kill p.hr itid)) (.of_eq hd')
  ·obtain ⟨y,hy,-⟩:=(zqM s7 s8).1 x hx
   rw [q6] at hy
   cases hy
 | succ k ih=>
  obtain ⟨q1,es,c,q2,q3,q4,q5,q6,q7,q8,q9⟩:=hR
  obtain ⟨hne,Li,Lm,ent,s1,s2,s3,s4,s5,s6,s7,s8⟩:=zzC hh q2 q3
  have rv:=zaM hf.fr hm
  have ev1:(O.t X.it).ev fr=.mp itid:=q1
  rw [ev1] at rv
  have hv:a.eval m=.pointer (some ⟨Li.b,0,none⟩):=by
   generalize a.eval m=u at rv
   cases rv with
   | mp hv _ hm'=>
    rw [s1] at hv
    cases hv
    rw [hm' s2,s3]
  have hold:∀ x∈ent.toList,x.born<since:=fun x hx=>by
   have hb:=zsz s7 s8
   have:x.born∈es.map (·.2.2):=by rw [←hb];exact List.mem_map.2 ⟨x,hx,rfl⟩
   obtain ⟨y,hy,ey⟩:=List.mem_map.1 this
   rw [←ey]
   exact q5 y hy
  rw [roundsIn_succ]
  refine wpIn_seq ?_
  rcases zxF (P:=P) (ty:=o.type) s4 s6 hold q4 with ⟨h0,-⟩|⟨x,hx,d,hrun⟩
  ·exact absurd h0 ((zqM s7 s8).2 q6)
  ·obtain ⟨y,hy,r1,r2,r3,-⟩:=(zqM s7 s8).1 x hx
   obtain ⟨fr1,fr2,z,fr3,h3,c1,c2,c3,c4,c5,c6,c7⟩:=q9 y hy
   obtain ⟨ν1,p1⟩:=zDp hh q3 s1 (d:=d) (seen':=seen++[y.2.2]) (last':=c) (bm:=Lm.b) ⟨Lm,s5,fun _=>rfl⟩ hne
   have epush:seen.toArray.push x.born=(seen++[y.2.2]).toArray:=by rw [r3];simp
   rw [epush] at hrun
   obtain ⟨h1,hh1⟩:∃ h1,h1=h.set itid (.itr mid (seen++[y.2.2]) since c):=⟨_,rfl⟩
   rw [←hh1] at c1 c4 c5 p1
   have hil:=(List.getElem?_eq_some_iff.1 q3).1
   have g1:h1[itid]? = some (.itr mid (seen++[y.2.2]) since c):=by rw [hh1];exact List.getElem?_set_self hil
   have g2:h1[mid]? = some (.map es c):=by rw [hh1,List.getElem?_set_ne (Ne.symm hne)];exact q2
   refine first hf hh hi hv hrun p1 (vv:=.tup [.bool true,y.1,y.2.1]) (.tup rfl fun i hi'=>by
    rcases (show i=0∨i=1∨i=2 by simp at hi';omega) with rfl|rfl|rfl
    ·exact .bool
    ·exact r1.step hh p1
    ·exact r2.step hh p1) c1 fun a' w' M' ν' hf' p hd'=>?_
   show (Code.seq _ _).wpIn _ _ _ _ _ _
   refine wpIn_seq ?_
   have hc:=zaM hf'.fr hc0
   rw [c2] at hc
   refine wpIn_cond_true hc.bool_inv (wpIn_skip ?_)
   show (Code.block _ _).wpIn _ _ _ _ _ _
   refine wpIn_block (wpIn_seq ?_)
   obtain ⟨-,Li',Lm',ent',t1,t2,t3,t4,t5,t6,t7,t8⟩:=zzC p.hr g2 g1
   have rv2:=zaM hf'.fr hm2
   have ev2:(O.t X.it).ev fr1=.mp itid:=c3
   rw [ev2] at rv2
   have hv2:a'.eval m2=.pointer (some ⟨Li'.b,0,none⟩):=by
    generalize a'.eval m2=u at rv2
    cases rv2 with
    | mp hv _ hm'=>
     rw [t1] at hv
     cases hv
     rw [hm' t2,t3]
   have hyes:y∈es:=(List.mem_filter.1 hy).1
   obtain ⟨i,hi1,hi2⟩:=List.mem_iff_getElem.1 hyes
   obtain ⟨x',k1,k2,k3,k4⟩:=t8 i hi1
   rw [hi2] at k2 k3 k4
   have hnd:(ent'.toList.map (·.born)).Nodup:=by rw [zsz t7 t8];exact q8
   have epush2:(seen++[y.2.2]).toArray=seen.toArray.push x'.born:=by rw [k4];simp
   rw [epush2] at t4
   have hx':x'∈ent'.toList:=by
    obtain ⟨hi3,rfl⟩:=Array.getElem?_eq_some_iff.1 k1
    simp
   have hrun2:=zA1 (P:=P) x' t4 t6 hx' hnd
   refine wpIn_region_list ?_
   rw [hlD]
   unfold wpListIn
   rw [if_pos (by simp [Region.wanted,hgd2])]
   refine Oper.wpR_in (fun c' e'=>by rw [e2] at e';cases e') (Oper.wpR_value (v:=.tuple #[x'.key,x'.val]) (w':=w') ?_ ?_)
   ·simp [execOp,e2,hv2,hrun2]
   rw [hd2]
   obtain ⟨fr0,hb0,rfl⟩:=zvq c4
   refine zcw hcr hins2 _ _ _ _ _ hb0 _ _ _ _ (hf'.put (d:=some X.en) (fun t e=>by cases e;exact hn2) (tup2 k2 k3)) p.hr (hi.step (p.same hh) p.hM p.le) _ fun e' a2 w2 M2 ν2 hx2 hf2 p2 hd2'=>?_
   cases hx2
   have p02:=p.trans p2
   show body.wpIn _ _ _ _ _ _
   refine hev _ _ _ _ _ c5 a2 w2 M2 ν2 (hf2.keep _) p02.hr (hi.step (p02.same hh) p02.hM p02.le) _ fun e3 a3 w3 M3 ν3 hx3 hf3 p3 hd3=>?_
   have p03:=p02.trans p3
   have hdd:Dfr w w3 M3 ν3 h3 a a3:=Dfr.trans p02.stp.size (.of_eq (by rw [hd2',put_defers',hd'])) p3 hd3
   have fin:Code.roundsIn (FW none) 0 P (.seq (.region iB opsB false) (.seq (.cond c0 .skip (.exit b0)) (.block X.b1 (.seq (.region iD opsD false) body)))) (Exit.inBlock b0 Q') (k+1) a3 w3:=by
    refine ih _ _ _ _ c7 a3 w3 M3 ν3 hf3 p03.hr (hi.step (p03.same hh) p03.hM p03.le) Q' fun fr4 h4 hq4 a4 w4 M4 ν4 hf4 p4 hd4=>?_
    exact hQ fr4 h4 hq4 a4 w4 M4 ν4 hf4 (p03.trans p4) (hdd.trans p03.stp.size p4 hd4)
   rcases c6 with rfl|rfl
   ·cases hx3
    exact fin
   ·cases hx3
    show (if X.b1=X.b1 then _ else _)
    rw [if_pos rfl]
    exact fin
variable {P:Program} {g:GW}
theorem zsS {C:Cx} (hg:g.yl=.no) (hT:∀ f F,C.T f=some F→mF P f F=true) (hS:SOK P g C.S) (hH:zdV P g C.H) {n:Nat}:∀ (t:RN) (c:Code),mRN P n c t=true→∀ fr h Q,rnP C t fr h Q→∀ a w M ν,ziU w M ν n fr a→HR w M ν h→Inv g w M ν→∀ Q':Exit→Act→World→Prop,
  (∀ r,Q r→∀ e a' w' M' ν',XR w' M' ν' r.1 e→ziU w' M' ν' n r.2.1 a'→Pst w M ν h w' M' ν' r.2.2→Dfr w w' M' ν' r.2.2 a a'→Q' e a' w')→c.wpIn (FW none) 0 P Q' a w
 | .det i,c,hm,fr,h,Q,⟨r,he,hq⟩,a,w,M,ν,hf,hh,hi,Q',hQ=>by
  obtain ⟨x,fr1,h1⟩:=r
  have hm:mC P n c i=true:=by cases c<;>exact hm
  exact zAw hg hT hS hH hm _ _ _ _ _ he a w M ν hf hh hi Q' fun e a' w' M' ν' hx hf' p hd=>hQ _ hq e a' w' M' ν' hx hf' p hd
 | .seq x y,c,hm,fr,h,Q,hr,a,w,M,ν,hf,hh,hi,Q',hQ=>by
  cases c<;>simp only [mRN,Bool.false_eq_true,Bool.and_eq_true] at hm
  rename_i c1 c2
  refine wpIn_seq ?_
  refine zsS hg hT hS hH x c1 hm.1 fr h _ hr a w M ν hf hh hi _ fun r hq e a1 w1 M1 ν1 hx hf1 p hd=>?_
  obtain ⟨z,fr1,h1⟩:=r
  cases z with
  | nrm=>
   cases hx
   show c2.wpIn _ _ _ _ _ _
   refine zsS hg hT hS hH y c2 hm.2 fr1 h1 Q hq a1 w1 M1 ν1 hf1 p.hr (hi.step (p.same hh) p.hM p.le) Q' fun r hq e a' w' M' ν' hx hf' p' hd'=>?_
   exact hQ r hq e a' w' M' ν' hx hf' (p.trans p') (hd.trans p.stp.size p' hd')
  | ext id=>
   have hk:=hQ _ hq e a1 w1 M1 ν1 hx hf1 p hd
   cases hx
   exact hk
  | ret=>
   have hk:=hQ _ hq e a1 w1 M1 ν1 hx hf1 p hd
   cases hx
   exact hk
  | pan v=>
   have hk:=hQ _ hq e a1 w1 M1 ν1 hx hf1 p hd
   obtain ⟨u,rfl,_⟩:=hx
   exact hk
  | gto l=>
   have hk:=hQ _ hq e a1 w1 M1 ν1 hx hf1 p hd
   cases hx
   exact hk
 | .rm X,c,hm,fr,h,Q,⟨fr1,h1,mid,es,cl,e1,e2,e3,e4⟩,a,w,M,ν,hf,hh,hi,Q',hQ=>by
  have hm:mRm P n c X=true:=by cases c<;>exact hm
  have hcr:=crw_ok hg hT hS hH
  unfold mRm at hm
  split at hm<;>try contradiction
  rename_i c' X' iA opsA dA b0 iB opsB dB c0 b0' b1 iD opsD dD body
  simp only [Bool.and_eq_true,Bool.not_eq_true',beq_iff_eq] at hm
  obtain ⟨⟨⟨⟨⟨⟨⟨⟨⟨⟨rfl,hA⟩,rfl⟩,rfl⟩,rfl⟩,hB⟩,hc0⟩,rfl⟩,rfl⟩,hD⟩,hbody⟩:=hm
  refine wpIn_seq (wpIn_region_list ?_)
  refine zwA hcr hA _ _ _ _ e1 e2 e3 a w M ν hf hh hi _ fun a1 w1 M1 ν1 hf1 p1 hd1=>?_
  show (Code.block _ _).wpIn _ _ _ _ _ _
  refine wpIn_block (wpIn_loop_rounds (es.length+1) ?_)
  refine zzf hcr hB hD hc0 (zAw hg hT hS hH hbody) es.length [] cl _ _ e4 a1 w1 M1 ν1 (hf1.keep _) p1.hr (hi.step (p1.same hh) p1.hM p1.le) Q' fun fr2 h2 hq a2 w2 M2 ν2 hf2 p2 hd2=>?_
  exact hQ _ hq .normal a2 w2 M2 ν2 rfl hf2 (p1.trans p2) (Dfr.trans p1.stp.size (.of_eq hd1) p2 hd2)
structure FN where
 body:RN
 res:List (Nat×Option (Bool×Nat))
def mFN (P:Program) (f:Nat) (F:FN):Bool:=
 match P.funcs[f]? with
 | some fn=>match fn.body with
  | some c=>mRN P fn.ntmps c F.body&&zCy P fn.results.toList F.res&&!(fn.name == "runtime.NumGoroutine")
  | none=>false
 | none=>false
open Classical in
noncomputable def zDv (C:Cx) (F:FN) (args:List V) (h:List Ob):Option (Out×List Ob):=
 if hx:∃ r,rnP C F.body (args.zipIdx.map fun p=>(p.2,p.1)) h (fun s=>fin F.res (some s)=some r) then some hx.choose else none
theorem zDj {C:Cx} {F:FN} {args:List V} {h:List Ob} {r:Out×List Ob} (e:rnP C F.body (args.zipIdx.map fun p=>(p.2,p.1)) h (fun s=>fin F.res (some s)=some r)):zDv C F args h=some r:=by
 unfold zDv
 have hx:∃ r,rnP C F.body (args.zipIdx.map fun p=>(p.2,p.1)) h (fun s=>fin F.res (some s)=some r):=⟨r,e⟩
 rw [dif_pos hx]
 obtain ⟨s,s1,s2⟩:=zuf _ _ _ _ _ e hx.choose_spec
 rw [s1] at s2
 exact s2.symm
theorem zyI {C:Cx} (hg:g.yl=.no) (hT:∀ f F,C.T f=some F→mF P f F=true) (hS:SOK P g C.S) (hH:zdV P g C.H) {f:Nat} {F:FN} (hm:mFN P f F=true) {args:List V} {h h':List Ob} {out:Out} (he:zDv C F args h=some (out,h'))
  {us:Array Value} {w:World} {M:Nat→Prop} {ν:Nu} (hl:us.size=args.length) (hr:∀ i (hi:i<args.length),Rel w M ν args[i] (us.getD i undef)) (hh:HR w M ν h) (hi:Inv g w M ν) :
  zyg P f∧Calls P f us w fun e w'=>∃ M' ν',zE1 w' M' ν' out e∧Pst w M ν h w' M' ν' h':=by
 unfold zDv at he
 split at he<;>try contradiction
 rename_i hx
 have hrn:=hx.choose_spec
 have he:=Option.some.inj he
 rw [he] at hrn
 unfold mFN at hm
 split at hm<;>try contradiction
 rename_i fn hfn
 split at hm<;>try contradiction
 rename_i c hc
 simp only [Bool.and_eq_true,Bool.not_eq_true'] at hm
 obtain ⟨⟨h1,h2⟩,h3⟩:=hm
 refine ⟨⟨fn,hfn,by simp [hc],h3⟩,(callsIn_wide (n:=0)).1 (callsIn_of_wp_marks hfn hc trivial ?_)⟩
 have hf:ziU w M ν fn.ntmps (args.zipIdx.map fun p=>(p.2,p.1)) { tmps:=us++Array.replicate (fn.ntmps-us.size) undef,defers:=[] }:=by
  refine ⟨fun t=>?_,by simp;omega⟩
  rw [zuX]
  simp only [Nat.zero_le,Nat.zero_add,true_and,Nat.sub_zero]
  by_cases ht:t<args.length
  ·rw [if_pos ht]
   have h2:t<us.size:=by omega
   have:=hr t ht
   simp only [Array.getD_eq_getD_getElem?] at this ⊢
   rw [Array.getElem?_append_left h2]
   simpa [ht] using this
  ·rw [if_neg ht]
   exact .und
 refine zsS hg hT hS hH _ c h1 _ _ _ hrn _ w M ν hf hh hi _ fun s hs e a' w' M' ν' hx hf' p hd=>?_
 obtain ⟨x,fr1,h1'⟩:=s
 clear hrn he
 cases x with
 | nrm=>
  simp only [fin] at hs
  cases hvs:zdP (res1 fr1 h1') F.res with
  | none=>rw [hvs] at hs;cases hs
  | some vs=>
  rw [hvs] at hs
  cases hs
  cases hx
  obtain ⟨Ds,d1,d2,d3⟩:=hd
  rw [List.append_nil] at d1
  show LeavesInM _ _ _ _ _ _ _ _ _
  rw [d1]
  refine zfg Ds (by simp) p d2 d3 fun w4 p4 hM4=>?_
  obtain ⟨u,r1,r2⟩:=znY (P:=P) p4.hr ⟨hf'.fr.mono hM4 (fun _ hb=>hb) (Nu.le_refl _),hf'.n⟩ h2 hvs
  exact ⟨u,r1,M',ν',⟨u,rfl,r2⟩,p4⟩
 | ret=>
  simp only [fin] at hs
  cases hvs:zdP (res1 fr1 h1') F.res with
  | none=>rw [hvs] at hs;cases hs
  | some vs=>
  rw [hvs] at hs
  cases hs
  cases hx
  obtain ⟨Ds,d1,d2,d3⟩:=hd
  rw [List.append_nil] at d1
  show LeavesInM _ _ _ _ _ _ _ _ _
  rw [d1]
  refine zfg Ds (by simp) p d2 d3 fun w4 p4 hM4=>?_
  obtain ⟨u,r1,r2⟩:=znY (P:=P) p4.hr ⟨hf'.fr.mono hM4 (fun _ hb=>hb) (Nu.le_refl _),hf'.n⟩ h2 hvs
  exact ⟨u,r1,M',ν',⟨u,rfl,r2⟩,p4⟩
 | pan v=>
  simp only [fin] at hs
  cases hs
  obtain ⟨u,rfl,hu⟩:=hx
  obtain ⟨Ds,d1,d2,d3⟩:=hd
  rw [List.append_nil] at d1
  show LeavesInM _ _ _ _ _ _ _ _ _
  rw [d1]
  refine zfg Ds (by simp) p d2 d3 fun w4 p4 hM4=>?_
  exact ⟨M',ν',⟨u,rfl,hu.mono hM4 (fun _ hb=>hb) (Nu.le_refl _)⟩,p4⟩
 | ext id=>simp [fin] at hs
 | gto l=>simp [fin] at hs
noncomputable def HN (C:Cx) (TN:Nat→Option FN) (f:Nat) (args:List V) (h:List Ob):Option (Out×List Ob):=match TN f with
 | some F=>zDv C F args h
 | none=>C.H f args h
theorem HN_ok {C:Cx} (hg:g.yl=.no) (hT:∀ f F,C.T f=some F→mF P f F=true) (hS:SOK P g C.S) (hH:zdV P g C.H) {TN:Nat→Option FN} (hN:∀ f F,TN f=some F→mFN P f F=true):zdV P g (HN C TN):=by
 intro f args h out h' he us w M ν hl hr hh hi
 unfold HN at he
 split at he
 ·rename_i F hF
  exact zyI hg hT hS hH (hN f F hF) he hl hr hh hi
 ·exact hH _ _ _ _ _ he us w M ν hl hr hh hi
end Go.RR
