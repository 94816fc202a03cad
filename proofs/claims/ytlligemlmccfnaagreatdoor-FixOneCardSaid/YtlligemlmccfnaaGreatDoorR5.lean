/- What comes in, read as values of the second reading. -/
import Derived.Test.YtlligemlmccfnaaGreatDoorR4
import Derived.Deep.Slices
import Derived.Carry
import Derived.OpenShut
import Derived.ChangeOld
import Derived.Handed
import Derived.Below
import Derived.ProofKit
import Derived.Sort.Row
import Derived.Sort.Grow
import Derived.Lib.SlicesCompact
import Derived.Lib.RowBridge
set_option linter.unusedSimpArgs false
set_option linter.unusedVariables false
set_option maxRecDepth 100000
namespace Go.RR
open Go.RowKit Go.ChangeShapes Go.WideShapes
mutual
inductive Sh where
 | int (k:IntKind)
 | bool
 | str
 | sl (e:Sh)
 | st (f:Fl)
inductive Fl where
 | nil
 | cons (s:Sh) (r:Fl)
end
mutual
def Sh.size:Sh→Nat
 | .st f=>f.size
 | .int _=>1
 | .bool=>1
 | .str=>1
 | .sl _=>1
def Fl.size:Fl→Nat
 | .nil=>0
 | .cons s r=>s.size+r.size
end
def Sh.mk:Sh→List V→V
 | .st _,cs=>.agg cs
 | _,cs=>cs.headD .und
def Sh.vmk:Sh→List Value→Value
 | .st _,cs=>.agg cs.toArray
 | _,cs=>cs.headD undef
mutual
def shB (P:Program):Sh→TypeId→Bool
 | .int k,t=>match P.underlying t with
  | some (.int k')=>k'==k
  | _=>false
 | .bool,t=>match P.underlying t with
  | some .bool=>true
  | _=>false
 | .str,t=>match P.underlying t with
  | some .string=>true
  | _=>false
 | .sl e,t=>match P.underlying t with
  | some (.slice e')=>shB P e e'&&P.cellsOf e'==e.size&&decide (0<e.size)
  | _=>false
 | .st f,t=>match P.underlying t with
  | some (.struct fs)=>flB P f 0 fs.toList&&P.cellsOf t==f.size
  | _=>false
def flB (P:Program):Fl→Nat→List Field→Bool
 | .nil,_,[]=>true
 | .cons s r,off,x::xs=>x.offset==off&&P.cellsOf x.type==s.size&&shB P s x.type&&flB P r (off+s.size) xs
 | _,_,_=>false
end
mutual
def Has:Sh→List V→Prop
 | .int k,vs=>∃ n,vs=[.int k n]∧(Lit.int k n).wf=true
 | .bool,vs=>∃ b,vs=[.bool b]
 | .str,vs=>∃ s,vs=[.str s]∧s.length≤maxLen
 | .sl e,vs=>∃ xs,vs=[.sl e.size xs]∧xs.length≤maxLen∧∀ x∈xs,∃ cs,x=e.mk cs∧Has e cs
 | .st f,vs=>HasF f vs
def HasF:Fl→List V→Prop
 | .nil,vs=>vs=[]
 | .cons s r,vs=>∃ a b,vs=a++b∧Has s a∧HasF r b
end
mutual
theorem Has.len:∀ {s:Sh} {vs:List V},Has s vs→vs.length=s.size
 | .int k,_,h=>by obtain ⟨n,rfl,_⟩:=h;rfl
 | .bool,_,h=>by obtain ⟨n,rfl⟩:=h;rfl
 | .str,_,h=>by obtain ⟨n,rfl,_⟩:=h;rfl
 | .sl e,_,h=>by simp only [Has] at h;obtain ⟨n,rfl,_⟩:=h;rfl
 | .st f,_,h=>by simp only [Has] at h;simp only [Sh.size];exact HasF.len h
theorem HasF.len:∀ {f:Fl} {vs:List V},HasF f vs→vs.length=f.size
 | .nil,_,h=>by simp only [HasF] at h;subst h;rfl
 | .cons s r,_,h=>by
  simp only [HasF] at h
  obtain ⟨a,b,rfl,ha,hb⟩:=h
  simp only [List.length_append,Fl.size]
  rw [Has.len ha,HasF.len hb]
end
mutual
theorem Has.one:∀ {s:Sh} {vs:List V},Has s vs→∀ v∈vs,v.one=true
 | .int k,_,h=>by obtain ⟨n,rfl,_⟩:=h;simp [V.one]
 | .bool,_,h=>by obtain ⟨n,rfl⟩:=h;simp [V.one]
 | .str,_,h=>by obtain ⟨n,rfl,_⟩:=h;simp [V.one]
 | .sl e,_,h=>by simp only [Has] at h;obtain ⟨n,rfl,_⟩:=h;simp [V.one]
 | .st f,_,h=>by simp only [Has] at h;exact HasF.one h
theorem HasF.one:∀ {f:Fl} {vs:List V},HasF f vs→∀ v∈vs,v.one=true
 | .nil,_,h=>by simp only [HasF] at h;subst h;simp
 | .cons s r,_,h=>by
  simp only [HasF] at h
  obtain ⟨a,b,rfl,ha,hb⟩:=h
  intro v hv
  rcases List.mem_append.1 hv with hv|hv
  ·exact Has.one ha v hv
  ·exact HasF.one hb v hv
end
theorem Has.good {s:Sh} {vs:List V} (h:Has s vs):s.mk vs≠.und∧(∀ ys,s.mk vs≠.tup ys)∧(s.mk vs).cells=vs:=by
 cases s with
 | int k=>obtain ⟨n,rfl,_⟩:=h;simp [Sh.mk,V.cells]
 | bool=>obtain ⟨n,rfl⟩:=h;simp [Sh.mk,V.cells]
 | str=>obtain ⟨n,rfl,_⟩:=h;simp [Sh.mk,V.cells]
 | sl e=>simp only [Has] at h;obtain ⟨n,rfl,_⟩:=h;simp [Sh.mk,V.cells]
 | st f=>simp [Sh.mk,V.cells]
def zD0 (w:World) (M:Nat→Prop) (vs:List V) (cs:List Value):Prop:=cs.length=vs.length∧∀ i (hi:i<vs.length),Rel w M nu0 vs[i] (cs.getD i undef)
theorem zD0.mk {w:World} {M:Nat→Prop} {s:Sh} {vs:List V} {cs:List Value} (h:Has s vs) (r:zD0 w M vs cs):Rel w M nu0 (s.mk vs) (s.vmk cs)∧(s.vmk cs).cells=cs.toArray:=by
 have one:(∀ f,s≠.st f)→vs.length=1→Rel w M nu0 (s.mk vs) (s.vmk cs)∧(s.vmk cs).cells=cs.toArray:=by
  intro hs h1
  obtain ⟨v,rfl⟩:=List.length_eq_one_iff.1 h1
  obtain ⟨c,rfl⟩:=List.length_eq_one_iff.1 (r.1.trans h1)
  have h2:=r.2 0 (by simp)
  simp only [List.getElem_cons_zero,List.getD_cons_zero] at h2
  have h3:=zr5 (h2.one (h.one v (by simp)))
  cases s with
  | st f=>exact absurd rfl (hs f)
  | _=>exact ⟨h2,h3⟩
 cases s with
 | int k=>exact one (fun f=>by simp) h.len
 | bool=>exact one (fun f=>by simp) h.len
 | str=>exact one (fun f=>by simp) h.len
 | sl e=>exact one (fun f=>by simp) h.len
 | st f=>
  refine ⟨.agg (by simpa using r.1) (h.one) fun i hi=>?_,rfl⟩
  have:=r.2 i hi
  simpa using this
theorem zD0.app {w:World} {M:Nat→Prop} {a b:List V} {cs ds:List Value} (h:zD0 w M a cs) (k:zD0 w M b ds):zD0 w M (a++b) (cs++ds):=by
 refine ⟨by simp [h.1,k.1],fun i hi=>?_⟩
 rcases Nat.lt_or_ge i a.length with h1|h1
 ·have:=h.2 i h1
  rw [List.getElem_append_left h1]
  have h2:i<cs.length:=by rw [h.1];exact h1
  simpa [List.getElem?_append_left h2] using this
 ·have:=k.2 (i-a.length) (by simp at hi;omega)
  rw [List.getElem_append_right h1]
  have h2:cs.length≤i:=by rw [h.1];exact h1
  simpa [List.getElem?_append_right h2,h.1] using this
variable {H:Type} {enc:TypeId×Value→H} {P:Program} {w:World} {spare:Nat→Bool} {held:Bool}
mutual
theorem zuP:∀ {s:Sh} {t:TypeId} {fuel:Nat} {cs:List Value} {x:DataW H×List MemPlace},shB P s t=true→DataW.trod enc P w 0 spare held fuel t cs=some x→∃ vs,Has s vs∧zD0 w (fun b=>b<w.heap.size) vs cs
 | .int k,t,fuel,cs,x,hs,h=>by
  simp only [shB] at hs
  split at hs<;>try contradiction
  rename_i k' hu
  rw [beq_iff_eq.1 hs] at hu
  obtain ⟨n,rfl,_,hw⟩:=DataW.trod_int hu h
  exact ⟨[.int k n],⟨n,rfl,hw⟩,rfl,fun i hi=>by
   have:i=0:=by simpa using hi
   subst this
   exact .int⟩
 | .bool,t,fuel,cs,x,hs,h=>by
  simp only [shB] at hs
  split at hs<;>try contradiction
  rename_i hu
  obtain ⟨n,rfl,_⟩:=DataW.trod_bool hu h
  exact ⟨[.bool n],⟨n,rfl⟩,rfl,fun i hi=>by
   have:i=0:=by simpa using hi
   subst this
   exact .bool⟩
 | .str,t,fuel,cs,x,hs,h=>by
  simp only [shB] at hs
  split at hs<;>try contradiction
  rename_i hu
  obtain ⟨s,rfl,_,hw⟩:=DataW.trod_string hu h
  exact ⟨[.str s.data.toList],⟨s.data.toList,rfl,by rw [Array.length_toList];exact hw⟩,rfl,fun i hi=>by
   have:i=0:=by simpa using hi
   subst this
   exact zDB s _ _ _⟩
 | .sl e,t,fuel,cs,x,hs,h=>by
  simp only [shB] at hs
  split at hs<;>try contradiction
  rename_i e' hu
  simp only [Bool.and_eq_true,beq_iff_eq,decide_eq_true_eq] at hs
  obtain ⟨⟨h1,h2⟩,h3⟩:=hs
  rcases DataW.trod_slice hu h with ⟨rfl,_⟩|⟨a,len,cap,elems,rest,n,_,rfl,rfl,hb,hl,hm,hlen,hel,_⟩
  ·exact ⟨[.sl e.size []],by simp only [Has];exact ⟨[],rfl,Nat.zero_le _,fun x hx=>by cases hx⟩,rfl,fun i hi=>by
    have:i=0:=by simpa using hi
    subst this
    exact .sl0⟩
  ·have key:∀ i,i<len→∃ p:List V×List Value,Has e p.1∧zD0 w (fun b=>b<w.heap.size) p.1 p.2∧p.2.length=e.size∧∀ k,k<e.size→w.cell? ((a.add (i*e.size)).add k)=p.2[k]?:=fun i hi=>by
    have hi':=hel i hi
    rw [List.getElem?_eq_getElem (by omega)] at hi'
    obtain ⟨cs',g1,g2⟩:=Option.bind_eq_some_iff.1 hi'
    rw [h2] at g1
    obtain ⟨_,g3,g4⟩:=World.cells?_some g1
    obtain ⟨vs,g5,g6⟩:=zuP (s:=e) h1 g2
    exact ⟨(vs,cs'),g5,g6,g3,g4⟩
   obtain ⟨f,hf⟩:=Go.Deep.choose_lt (α:=List V×List Value) key
   refine ⟨[.sl e.size ((List.range len).map fun i=>e.mk (f i).1)],?_,rfl,fun i hi=>?_⟩
   ·simp only [Has]
    refine ⟨_,rfl,by simp;omega,fun x hx=>?_⟩
    obtain ⟨i,hi,rfl⟩:=List.mem_map.1 hx
    exact ⟨_,rfl,(hf i (List.mem_range.1 hi)).1⟩
   ·have:i=0:=by simpa using hi
    subst this
    simp only [List.getElem_cons_zero,List.getD_cons_zero]
    rcases Nat.eq_zero_or_pos len with rfl|hpos
    ·exact .sl0
    ·have hsp:a.spot=none:=by
      obtain ⟨k1,k2,k3,k4⟩:=hf 0 hpos
      have:=k4 0 h3
      rw [Nat.zero_mul] at this
      simp only [Addr.add,if_true] at this
      rw [List.getElem?_eq_getElem (by omega)] at this
      unfold World.cell? at this
      split at this<;>try contradiction
      split at this<;>try contradiction
      rename_i hx
      simpa using hx
     have hblk:a.block<w.heap.size:=by
      obtain ⟨k1,k2,k3,k4⟩:=hf 0 hpos
      have:=k4 0 h3
      rw [Nat.zero_mul] at this
      simp only [Addr.add,if_true] at this
      rw [List.getElem?_eq_getElem (by omega)] at this
      unfold World.cell? at this
      split at this<;>try contradiction
      rename_i hx
      exact (Array.getElem?_eq_some_iff.1 hx).1
     obtain ⟨b,o,sp⟩:=a
     simp only at hsp hblk
     subst hsp
     have hrow:((List.range len).map fun i=>e.mk (f i).1).length=len:=by simp
     conv=>rhs;rw [←hrow]
     refine .sl (fun i=>e.vmk (f i).2) (by omega) hblk h3 (fun i hi=>?_) (fun x hx=>?_) (fun i hi=>?_) (fun i hi k hk=>?_)
     ·have hi':i<len:=by simpa using hi
      simp only [List.getElem_map,List.getElem_range]
      exact ((hf i hi').2.1.mk (hf i hi').1).1
     ·obtain ⟨i,hi,rfl⟩:=List.mem_map.1 hx
      have:=(hf i (List.mem_range.1 hi)).1.good
      exact ⟨this.1,this.2.1⟩
     ·have hi':i<len:=by simpa using hi
      rw [((hf i hi').2.1.mk (hf i hi').1).2]
      simpa using (hf i hi').2.2.1
     ·have hi':i<len:=by simpa using hi
      rw [((hf i hi').2.1.mk (hf i hi').1).2]
      have:=(hf i hi').2.2.2 k hk
      rw [zfb,zfb] at this
      simpa using this
 | .st f,t,fuel,cs,x,hs,h=>by
  simp only [shB] at hs
  split at hs<;>try contradiction
  rename_i fs hu
  simp only [Bool.and_eq_true,beq_iff_eq] at hs
  obtain ⟨xs,n,_,rfl,hl,hxs,hel⟩:=DataW.trod_struct hu h
  rw [hs.2] at hl
  obtain ⟨vs,ds,k1,k2,k3⟩:=trodF_has (f:=f) (off:=0) (fs:=fs.toList) (cs:=cs) (n:=n) hs.1 (by omega) (fun i x hx=>by
   have hx':fs[i]? = some x:=by simpa using hx
   have:=hel i x hx'
   have hi:i<xs.length:=by rw [hxs];exact (Array.getElem?_eq_some_iff.1 hx').1
   rw [List.getElem?_eq_getElem hi] at this
   exact ⟨_,this⟩)
  refine ⟨vs,by simp only [Has];exact k1,?_⟩
  have e:ds=cs:=by
   rw [k3,List.drop_zero]
   exact List.take_of_length_le (by omega)
  rw [←e]
  exact k2
theorem trodF_has:∀ {f:Fl} {off:Nat} {fs:List Field} {cs:List Value} {n:Nat},flB P f off fs=true→off+f.size≤cs.length→(∀ (i:Nat) (x:Field),fs[i]? = some x→∃ y,DataW.trod enc P w 0 spare held n x.type ((cs.drop x.offset).take (P.cellsOf x.type))=some y) →
  ∃ vs ds,HasF f vs∧zD0 w (fun b=>b<w.heap.size) vs ds∧ds=(cs.drop off).take f.size
 | .nil,off,fs,cs,n,hs,hl,h=>⟨[],[],by simp [HasF],⟨rfl,fun i hi=>by simp at hi⟩,by simp [Fl.size]⟩
 | .cons s r,off,[],cs,n,hs,hl,h=>by simp [flB] at hs
 | .cons s r,off,x::xs,cs,n,hs,hl,h=>by
  simp only [flB,Bool.and_eq_true,beq_iff_eq] at hs
  obtain ⟨⟨⟨h1,h2⟩,h3⟩,h4⟩:=hs
  simp only [Fl.size] at hl ⊢
  obtain ⟨y,hy⟩:=h 0 x rfl
  obtain ⟨a,g1,g2⟩:=zuP (s:=s) h3 hy
  obtain ⟨b,ds,k1,k2,k3⟩:=trodF_has (f:=r) (off:=off+s.size) (fs:=xs) (cs:=cs) (n:=n) h4 (by omega) (fun i x hx=>h (i+1) x hx)
  rw [h1,h2] at g2
  refine ⟨a++b,(cs.drop off).take s.size++ds,by simp only [HasF];exact ⟨a,b,rfl,g1,k1⟩,g2.app k2,?_⟩
  rw [k3,List.take_add,List.drop_drop]
end
theorem zuM {s:Sh} {t:TypeId} {r:Reach} {b0:Nat} {v:Value} {d:DataW H} {ps:List MemPlace} (hs:shB P s t=true) (hval:Value.okWide P w r b0 t v) (h:DataW.Trod enc P w 0 spare held t v d ps) :
  ∃ vs,Has s vs∧Rel w (fun b=>b<w.heap.size) nu0 (s.mk vs) v:=by
 obtain ⟨fuel,hf⟩:=h
 obtain ⟨vs,h1,h2⟩:=zuP hs hf
 refine ⟨vs,h1,?_⟩
 have:=(h2.mk h1).1
 suffices e:s.vmk v.cells.toList=v by rw [←e];exact this
 cases s with
 | int k=>
  simp only [shB] at hs
  split at hs<;>try contradiction
  rename_i k' hu
  obtain ⟨n,rfl⟩:=okWide_int hu hval
  rfl
 | bool=>
  simp only [shB] at hs
  split at hs<;>try contradiction
  rename_i hu
  obtain ⟨n,rfl⟩:=okWide_bool hu hval
  rfl
 | str=>
  simp only [shB] at hs
  split at hs<;>try contradiction
  rename_i hu
  obtain ⟨n,rfl⟩:=okWide_string hu hval
  rfl
 | sl e=>
  simp only [shB] at hs
  split at hs<;>try contradiction
  rename_i e' hu
  obtain ⟨a,len,cap,rfl⟩:=okWide_slice hu hval
  rfl
 | st f=>
  simp only [shB] at hs
  split at hs<;>try contradiction
  rename_i fs hu
  unfold Value.okWide at hval
  rw [hu] at hval
  obtain ⟨cs,rfl,_⟩:=hval
  simp [Sh.vmk,Value.cells]
end Go.RR
namespace Go.RR
open Go.RowKit
variable {P:Program} {g:GW}
def cl0 (z:Nat):List In:=[⟨some 2,none,.mov (.c (.nsl z))⟩]
def cl3 (z:V) (by_:Nat):List In:=[⟨some 5,none,.bsl z 0 []⟩,⟨some 6,none,.mov (.t 0)⟩,⟨some 7,none,.app z.size by_ (.t 5) (.t 6)⟩,⟨some 2,none,.mov (.t 7)⟩]
def mNil (P:Program) (o:Oper):Bool:=
 o.dst==some 4&&o.guard.isNone&&(match o.op with
  | .binOp .eql t (.tmp 3) (.const (.slice none 0 0)) _=>(slB P t).isSome
  | _=>false)
def zzU (P:Program) (f:Nat) (z:V) (by_:Nat):Bool:=
 match P.funcs[f]? with
 | some fn=>match fn.body with
  | some (.seq (.region _ a false) (.seq (.seq (.region _ b false) (.cond (.tmp 4) (.seq (.region _ c false) .ret) .skip)) (.seq (.region _ d false) .ret)))=>
   zvs P fn.ntmps a a.toList (cl0 z.size)&&zvs P fn.ntmps c c.toList (cl0 z.size)&&zvs P fn.ntmps d d.toList (cl3 z by_)&&zCy P fn.results.toList [(2,none)]&&!(fn.name == "runtime.NumGoroutine")&&decide (4<fn.ntmps) &&
    (match b.toList with
     | [o1,o2]=>mIn P fn.ntmps b o1 ⟨some 3,none,.mov (.t 0)⟩&&mNil P o2
     | _=>false)
  | _=>false
 | none=>false
def zuW (z by_:Nat):List V→Option V
 | [.sl z' xs]=>if z'=z∧xs.length*by_≤70368744177664∧xs.length≤70368744177664∧dataL xs=true then some (.sl z xs) else none
 | _=>none
theorem zup {t:TypeId} {w:World} (ht:(slB P t).isSome=true) {u:Value} {a:Option Addr} {l c:Nat} (hu:u=.slice a l c) (x y:Operand) :
  (do eqGuard .eql t x y u (.slice none 0 0);binOp .eql t u (.slice none 0 0):Sem Value).run P w=.ok (.bool a.isNone) w:=by
 subst hu
 obtain ⟨e,he⟩:=Option.isSome_iff_exists.1 ht
 have hu:=zd1 he
 have:=zlc (P:=P) (w:=w) (t:=t) (u:=.slice a l c) (c:=.slice none 0 0) (x:=x) (y:=y) (b:=a.isNone) (neg:=false) (fun op=>by cases op<;>rfl) (fun d=>by
  cases a<;>simp [Op.equalIn,run_underlying hu]) rfl rfl
 simpa using this
theorem step1 {cr:zaw} (hcr:CRok P g cr) {n:Nat} {ops:Array Oper} {o:Oper} {x:In} (hm:mIn P n ops o x=true) {a:Act} {w:World} {M:Nat→Prop} {ν:Nu} {h:List Ob} {fr:Fr} (hf:ziU w M ν n fr a) (hh:HR w M ν h) (hi:Inv g w M ν) {v:V} {h':List Ob} (hs:step cr fr h x.i=some (.val v h'))
  {K:Act→World→Prop} {Q:Exit→Act→World→Prop} (hK:∀ u w' M' ν',Rel w' M' ν' v u→Pst w M ν h w' M' ν' h'→K (a.put o.dst u) w'):Oper.wpR none P o a w K Q:=
 zcL (ρ:=none) hcr hm hf hh hi hs (K:=K) (Q:=Q) hK
theorem zxt {f:Nat} {z:V} {by_:Nat} (hm:zzU P f z by_=true) {args:List V} {v:V} (hS:zuW z.size by_ args=some v) {us:Array Value} {w:World} {M:Nat→Prop} (hsz:us.size=args.length) (hr:∀ i (hi:i<args.length),Rel w M nu0 args[i] (us.getD i undef)) (hlt:∀ b,M b→b<w.heap.size) (hi:Inv g w M nu0) :
  zyg P f∧Calls P f us w fun e w'=>∃ u M',e=.returned u∧Rel w' M' nu0 v u∧(∀ b,M b→M' b)∧(∀ b,M' b→M b∨w.heap.size≤b)∧(∀ b,M' b→b<w'.heap.size)∧Stp w w' (fun _=>False):=by
 unfold zuW at hS
 split at hS<;>try contradiction
 rename_i z' xs
 split at hS<;>try contradiction
 rename_i hc
 cases hS
 obtain ⟨rfl,hb1,hb2,hd⟩:=hc
 have hx:=hr 0 (by simp)
 simp only [List.getElem_cons_zero] at hx
 unfold zzU at hm
 split at hm<;>try contradiction
 rename_i fn hfn
 split at hm<;>try contradiction
 rename_i i0 a i1 b i2 c i3 d hbody
 simp only [Bool.and_eq_true,Bool.not_eq_true',decide_eq_true_eq] at hm
 obtain ⟨⟨⟨⟨⟨⟨ma,mc⟩,md⟩,mr⟩,hname⟩,hnt⟩,mb⟩:=hm
 split at mb<;>try contradiction
 rename_i o1 o2 hb
 simp only [Bool.and_eq_true] at mb
 obtain ⟨mo1,mo2⟩:=mb
 refine ⟨⟨fn,hfn,by simp [hbody],hname⟩,(callsIn_wide (n:=0)).1 (callsIn_of_wp (F:=FW none) hfn hbody trivial ?_)⟩
 have hcr:CRok P g ⟨fun _ _ _=>none,y0,fun _ _ _ _=>none⟩:=⟨zdV.none,YOK.y0 _ _,fun _ _ _=>zdV.none⟩
 have hh0:HR w M nu0 []:=HR.nil hlt
 have hf:ziU w M nu0 fn.ntmps [(0,.sl z.size xs)] { tmps:=us++Array.replicate (fn.ntmps-us.size) undef,defers:=[] }:=by
  refine ⟨fun t=>?_,by simp;omega⟩
  simp only [zrO,zDQ]
  by_cases e:0=t
  ·subst e
   rw [if_pos rfl]
   have h0:0<us.size:=by simp at hsz;omega
   have:(us++Array.replicate (fn.ntmps-us.size) undef).getD 0 undef=us.getD 0 undef:=by
    simp only [Array.getD_eq_getD_getElem?]
    rw [Array.getElem?_append_left h0]
   rw [this]
   exact hx
  ·rw [if_neg e]
   exact .und
 have hd0:({ tmps:=us++Array.replicate (fn.ntmps-us.size) undef,defers:=[] }:Act).defers=[]:=rfl
 generalize ({ tmps:=us++Array.replicate (fn.ntmps-us.size) undef,defers:=[] }:Act)=act at hf hd0 ⊢
 -- the end: what is handed back
 have fin:∀ {M':Nat→Prop} {ν':Nu} {h':List Ob} {fr':Fr} {a':Act} {w':World} {v':V},ziU w' M' ν' fn.ntmps fr' a'→HR w' M' ν' h'→get fr' 2=v'→(∀ u,Rel w' M' ν' v' u→∃ M1,Rel w' M1 nu0 (.sl z.size xs) u∧(∀ b,M b→M1 b)∧(∀ b,M1 b→M b∨w.heap.size≤b)∧(∀ b,M1 b→b<w'.heap.size))→Stp w w' (fun _=>False) →
   ∃ u,(results fn a'.tmps).run P w'=.ok u w'∧∃ u' M1,Ending.returned u=.returned u'∧Rel w' M1 nu0 (.sl z.size xs) u'∧(∀ b,M b→M1 b)∧(∀ b,M1 b→M b∨w.heap.size≤b)∧(∀ b,M1 b→b<w'.heap.size)∧Stp w w' (fun _=>False):=by
  intro M' ν' h' fr' a' w' v' hf' hh' hg hrel hst
  obtain ⟨u,r1,r2⟩:=znY (P:=P) hh' hf' mr (vs:=[v']) (by simp [zdP,res1,hg])
  simp only [zzp] at r2
  obtain ⟨M1,k1,k2,k3,k4⟩:=hrel u r2
  exact ⟨u,r1,u,M1,rfl,k1,k2,k3,k4,hst⟩
 refine wpIn_seq ?_
 refine wpIn_region_list (zcw (ρ:=none) hcr ma _ _ _ _ _ (show zak _ _ [(0,.sl z.size xs)] []=some (.nrm,[(2,.nsl z.size),(0,.sl z.size xs)],[]) by simp only [cl0];simp [cl0]) act w M nu0 hf hh0 hi _ fun e a1 w1 M1 ν1 hx1 hf1 p1 hd1=>?_)
 cases hx1
 refine wpIn_seq (wpIn_seq ?_)
 refine wpIn_region_list ?_
 have hi1:=hi.step (p1.same hh0) p1.hM p1.le
 rw [hb]
 unfold wpListIn
 have hg1:o1.guard=none:=by
  simp only [mIn,mG,Bool.and_eq_true] at mo1
  have:=mo1.1.2
  split at this<;>first|assumption|contradiction
 have mx1:mX P o1.op (.mov (.t 0))=true:=by
  have:=mo1
  simp only [mIn,Bool.and_eq_true] at this
  exact this.2
 have hd1':o1.dst=some 3:=by
  simp only [mIn,Bool.and_eq_true] at mo1
  exact (zri mo1.1.1).1
 rw [if_pos (by simp [Region.wanted,hg1])]
 refine Oper.wpR_in (zsG mx1) ?_
 refine step1 hcr mo1 hf1 p1.hr hi1 (v:=.sl z.size xs) (h':=[]) (by simp [step,op1]) fun u2 w2 M2 ν2 hv2 p2=>?_
 have hf2:=(hf1.step p1.hr p2).put (d:=some 3) (fun t e=>by cases e;omega) hv2
 have hi2:=hi1.step (p2.same p1.hr) p2.hM p2.le
 have p02:=p1.trans p2
 have hd2:(a1.put o1.dst u2).defers=act.defers:=by rw [put_defers'];exact hd1
 rw [hd1'] at hd2 ⊢
 generalize a1.put (some 3) u2=a2 at hf2 hd2 ⊢
 have hx3:=hf2.fr 3
 simp only [zdI,zrO,if_true] at hx3
 have hslice:∃ ad c,a2.tmps.getD 3 undef=.slice ad xs.length c∧(ad=none→xs=[]):=by
  generalize a2.tmps.getD 3 undef=u0 at hx3
  cases hx3 with
  | sl0=>exact ⟨_,_,rfl,fun _=>rfl⟩
  | sl=>exact ⟨_,_,rfl,fun h=>by cases h⟩
 obtain ⟨ad,c0,hu0,hnil⟩:=hslice
 unfold mNil at mo2
 simp only [Bool.and_eq_true,beq_iff_eq] at mo2
 obtain ⟨⟨hdst,hgd⟩,mop⟩:=mo2
 have hgd':o2.guard=none:=by simpa using hgd
 split at mop<;>try contradiction
 rename_i ty yt hop
 unfold wpListIn
 rw [if_pos (by simp [Region.wanted,hgd'])]
 refine Oper.wpR_in (fun c hc=>by rw [hop] at hc;cases hc) ?_
 have hrun:(execOp a2.eval o2).run P w2=.ok (.value (.bool ad.isNone)) w2:=by
  have:=zup (P:=P) (w:=w2) mop hu0 (.tmp 3) (.const (.slice none 0 0))
  simp only [execOp,hop]
  have e1:a2.eval (.tmp 3)=a2.tmps.getD 3 undef:=rfl
  have e2:a2.eval (.const (.slice none 0 0))=.slice none 0 0:=rfl
  rw [e1,e2]
  simp only [Sem.run_bind] at this ⊢
  rw [this]
  simp
 refine Oper.wpR_value hrun ?_
 rw [hdst]
 unfold wpListIn
 have hf3:=hf2.put (d:=some 4) (fun t e=>by cases e;omega) (v:=.bool ad.isNone) (u:=.bool ad.isNone) .bool
 have hd3:(a2.put (some 4) (.bool ad.isNone)).defers=act.defers:=by rw [put_defers'];exact hd2
 generalize a2.put (some 4) (.bool ad.isNone)=a3 at hf3 hd3 ⊢
 have h4:=hf3.fr 4
 simp only [zdI,zrO,if_true] at h4
 have h4:=h4.bool_inv
 show (Code.cond (.tmp 4) (.seq (.region i2 c false) .ret) .skip).wpIn (FW none) 0 P _ a3 w2
 cases hn:ad.isNone with
 | true=>
  have hxs:xs=[]:=hnil (by simpa using hn)
  subst hxs
  rw [hn] at h4
  refine wpIn_cond_true h4 (wpIn_seq ?_)
  refine wpIn_region_list (zcw (ρ:=none) hcr mc _ _ _ _ _ (show zak _ _ _ []=some (.nrm,(2,.nsl z.size)::_,[]) by simp only [cl0,zC2];rfl) a3 w2 M2 ν2 hf3 p2.hr hi2 _ fun e a4 w4 M4 ν4 hx4 hf4 p4 hd4=>?_)
  cases hx4
  refine wpIn_ret ?_
  have p04:=p02.trans p4
  refine ⟨by rw [hd4,hd3,hd0],fin hf4 p4.hr rfl (fun u hu=>⟨M4,?_,p04.hM,fun b hb=>(p04.hM' b hb).imp _root_.id fun h1=>h1.elim (fun h1=>absurd h1 Mine.nil) _root_.id,p4.hr.lt⟩) ⟨p04.stp.os,p04.stp.tape,p04.stp.output,p04.stp.size,fun k hk _=>p04.stp.block k hk Mine.nil⟩⟩
  simp only [zrO,if_true] at hu
  cases hu
  exact .sl0
 | false=>
  rw [hn] at h4
  refine wpIn_cond_false h4 (wpIn_skip ?_)
  refine wpIn_seq ?_
  have hev:∃ fr' h',zak ⟨fun _ _ _=>none,y0,fun _ _ _ _=>none⟩ (cl3 z by_) (zdI (zdI [(2,.nsl z.size),(0,.sl z.size xs)] (some 3) (.sl z.size xs)) (some 4) (.bool ad.isNone)) []=some (.nrm,fr',h')∧get fr' 2=.own 0 0 xs.length xs.length∧h'=[.row z.size xs]:=by
   refine ⟨[(2,.own 0 0 xs.length xs.length),(7,.own 0 0 xs.length xs.length),(6,.sl z.size xs),(5,.own 0 0 0 0),(4,.bool ad.isNone),(3,.sl z.size xs),(2,.nsl z.size),(0,.sl z.size xs)],_,?_,rfl,rfl⟩
   by_cases e:xs=[]
   ·subst e
    simp only [cl3];simp [cl3,zit,op1,src,elems,zaF]
   ·simp only [cl3];simp [cl3,zit,op1,src,elems,zaF,e,hb1,hb2,comb]
  obtain ⟨fr',h',hev,hget,hh'⟩:=hev
  refine wpIn_region_list (zcw (ρ:=none) hcr md _ _ _ _ _ hev a3 w2 M2 ν2 hf3 p2.hr hi2 _ fun e a4 w4 M4 ν4 hx4 hf4 p4 hd4=>?_)
  cases hx4
  refine wpIn_ret ?_
  have p04:=p02.trans p4
  refine ⟨by rw [hd4,hd3,hd0],fin hf4 p4.hr hget (fun u hu=>⟨fun b=>M4 b∨Mine ν4 h' b,?_,fun b hb=>.inl (p04.hM b hb),fun b hb=>?_,fun b hb=>?_⟩) ⟨p04.stp.os,p04.stp.tape,p04.stp.output,p04.stp.size,fun k hk _=>p04.stp.block k hk Mine.nil⟩⟩
  ·refine zC7 p4.hr (fun b hb=>.inl hb) hu (by rw [hh'];simp [elems,zaF]) hd fun L hL=>.inr ⟨0,by rw [hh'];simp,by simp [hh',live],L,hL,rfl⟩
  ·rcases hb with hb|hb
   ·exact (p04.hM' b hb).imp _root_.id fun h1=>h1.elim (fun h1=>absurd h1 Mine.nil) _root_.id
   ·exact (p04.mine b hb).imp (fun h=>absurd h Mine.nil) id
  ·rcases hb with hb|hb
   ·exact p4.hr.lt b hb
   ·exact (hb.lt p4.hr).1
end Go.RR
namespace Go.RR
def Elt (ag:Bool) (sz:Nat) (v:V):Prop:=part ag v.cells 0 sz=some v
theorem zqD {k:IntKind} {n:Int}:Elt false 1 (.int k n):=rfl
theorem elt_sl {z:Nat} {xs:List V}:Elt false 1 (.sl z xs):=rfl
theorem zzM {xs:List V} {n:Nat} (h:xs.length=n):Elt true n (.agg xs):=by
 subst h
 simp [Elt]
def idx {α:Type} (p:α→Bool):List α→Int
 | []=>-1
 | x::r=>if p x=true then 0 else (if idx p r<0 then -1 else idx p r+1)
theorem zub {α:Type} (p:α→Bool):∀ l:List α,-1≤idx p l∧idx p l<l.length
 | []=>by simp [idx]
 | x::r=>by
  have:=zub p r
  simp only [idx,List.length_cons]
  split
  ·omega
  ·split<;>omega
theorem zwP {α:Type} (p:α→Bool):∀ l:List α,decide (0≤idx p l)=l.any p
 | []=>rfl
 | x::r=>by
  have h1:=zwP p r
  have h2:=zub p r
  simp only [idx,List.any_cons]
  by_cases hp:p x=true
  ·simp [hp]
  ·simp only [hp,if_false,Bool.false_or,←h1,Bool.false_eq_true]
   by_cases h3:idx p r<0
   ·have:¬0≤idx p r:=by omega
    simp [h3,this]
   ·have h4:0≤idx p r:=by omega
    have h5:0≤idx p r+1:=by omega
    simp [h3,h4,h5]
def zz3 (ag:Bool) (sz:Nat):IR:=.seq (.rg [⟨(some 9),none,.bin .lss (.t 8) (.t 7)⟩] (some [0,1,7,8,9]))
   (.seq (.cond (.t 9) (.skip) (.ext 0))
   (.seq (.blk 1 (.seq (.rg [⟨(some 10),none,.mov (.t 8)⟩,
  ⟨(some 5),none,.mov (.t 10)⟩] (some [0,1,5,7,8]))
   (.seq (.rg [⟨(some 11),none,.mov (.t 1)⟩,
  ⟨(some 12),none,.mov (.t 0)⟩,
  ⟨(some 13),none,.mov (.t 5)⟩,
  ⟨(some 14),none,.iad sz (.t 12) (.t 13)⟩,
  ⟨(some 15),none,.ld ag sz (.t 14)⟩,
  ⟨(some 16),none,.callv (.t 11) [(.t 15)]⟩] (some [0,1,5,7,8,16]))
   (.cond (.t 16) (.seq (.rg [⟨(some 17),none,.mov (.t 5)⟩,
  ⟨(some 4),none,.mov (.t 17)⟩] (some [4]))
   (.ret)) (.skip)))))
   (.rg [⟨(some 18),none,.bin .add (.t 8) (.c (.int .i64 1))⟩,
  ⟨(some 8),none,.mov (.t 18)⟩] (some [0,1,7,8]))))
def zCN (ag:Bool) (sz:Nat):IR:=.loop (zz3 ag sz)
def gIdx (ag:Bool) (sz:Nat):IR:=.seq (.rg [⟨(some 4),none,.mov (.c (.int .i64 0))⟩] (some [0,1]))
   (.seq (.seq (.rg [⟨(some 6),none,.mov (.t 0)⟩,
  ⟨(some 7),none,.len (.t 6)⟩,
  ⟨(some 8),none,.mov (.c (.int .i64 0))⟩] (some [0,1,7,8]))
   (.blk 0 (zCN ag sz)))
   (.seq (.rg [⟨(some 4),none,.mov (.c (.int .i64 (-1)))⟩] (some [4]))
   (.ret)))
section
variable {C:Cx} {α:Type} {enc:α→V} {ag:Bool} {sz:Nat} {g:Nat} {first cap:List V} {p:α→Bool}
theorem zAO {fr:Fr} {h:List Ob}:evw C y0 (zCN ag sz) fr h=nxt (evw C y0 (zz3 ag sz) fr h) fun fr h=>evw C y0 (zCN ag sz) fr h:=zal
theorem zCi (l:List α) (hl:l.length≤4611686018427387904) (he:∀ a∈l,Elt ag sz (enc a)) (hp:∀ a∈l,acw C g (first++[enc a]++cap) []=some (.ret (.bool (p a)),[])):∀ (d i:Nat),i+d=l.length →
  evw C y0 (zCN ag sz) [(0,.sl sz (l.map enc)),(1,.fn (.func g) first cap),(7,.int .i64 l.length),(8,.int .i64 i)] [] =
   some (if idx p (l.drop i)<0 then (.ext 0,[(0,.sl sz (l.map enc)),(1,.fn (.func g) first cap),(7,.int .i64 l.length),(8,.int .i64 l.length),(9,.bool false)],[]) else (.ret,[(4,.int .i64 (i+idx p (l.drop i)))],[])):=by
 intro d
 induction d with
 | zero=>
  intro i hi
  have:i=l.length:=by omega
  subst this
  rw [zAO,List.drop_length]
  simp [zz3,idx]
 | succ d ih=>
  intro i hi
  have hlt:i<l.length:=by omega
  have hm:=List.getElem_mem hlt
  have h1:=he _ hm
  have h2:=hp _ hm
  have hw:=zac hlt (by omega)
  have ih:=ih (i+1) (by omega)
  have hge:=zub p (l.drop (i+1))
  rw [zAO,List.drop_eq_getElem_cons hlt]
  simp only [idx]
  unfold Elt at h1
  by_cases hpx:p l[i]=true
  ·rw [hpx] at h2
   have h2':acw C g (first++(enc l[i]::cap)) []=some (.ret (.bool true),[]):=by simpa using h2
   simp [zz3,hlt,h1,h2',hpx]
  ·have hpx:p l[i]=false:=by simpa using hpx
   rw [hpx] at h2
   have h2':acw C g (first++(enc l[i]::cap)) []=some (.ret (.bool false),[]):=by simpa using h2
   simp only [Int.natCast_add,Int.cast_ofNat_Int] at ih
   simp [zz3,hlt,h1,h2',hpx,hw]
   refine ih.trans ?_
   by_cases h3:idx p (l.drop (i+1))<0
   ·simp [h3]
   ·have h4:¬(idx p (l.drop (i+1))+1<0):=by omega
    have h5:(i:Int)+1+idx p (l.drop (i+1))=(i:Int)+(idx p (l.drop (i+1))+1):=by omega
    simp only [h3,h4,if_false,h5]
theorem zzu {n:Nat} (hT:C.T n=some ⟨gIdx ag sz,[(4,none)],false⟩) (l:List α) (hl:l.length≤4611686018427387904) (he:∀ a∈l,Elt ag sz (enc a)) {f':V} {h:List Ob} (hf:frz h fdepth f'=some (.fn (.func g) first cap)) (hp:∀ a∈l,acw C g (first++[enc a]++cap) []=some (.ret (.bool (p a)),[])) :
  acw C n [.sl sz (l.map enc),f'] h=some (.ret (.int .i64 (idx p l)),h):=by
 refine zap (a2:=[.sl sz (l.map enc),.fn (.func g) first cap]) (h':=[]) (v:=.int .i64 (idx p l)) hT rfl ?_ ?_ rfl (by simp)
 ·simp only [zj4,zi8,hf,zcd,zn8]
  rfl
 ·have:=zCi l hl he hp l.length 0 (by omega)
  simp only [List.drop_zero,Int.cast_ofNat_Int,Int.zero_add] at this
  by_cases h3:idx p l<0
  ·have h4:=zub p l
   have h5:idx p l=-1:=by omega
   simp only [h3,if_true] at this
   simp [zaa,gIdx,this,h5]
  ·simp only [h3,if_false] at this
   simp [zaa,gIdx,this]
def gCon (n:Nat):IR:=.seq (.rg [⟨(some 4),none,.mov (.c (.bool false))⟩] (some [0,1]))
   (.seq (.rg [⟨(some 5),none,.mov (.t 0)⟩,
  ⟨(some 6),none,.mov (.t 1)⟩,
  ⟨(some 7),none,.call n [(.t 5),(.t 6)]⟩,
  ⟨(some 8),none,.bin .geq (.t 7) (.c (.int .i64 0))⟩,
  ⟨(some 4),none,.mov (.t 8)⟩] (some [4]))
   (.ret))
theorem zfr {m n:Nat} (hT:C.T n=some ⟨gIdx ag sz,[(4,none)],false⟩) (hT':C.T m=some ⟨gCon n,[(4,none)],false⟩) (l:List α) (hl:l.length≤4611686018427387904) (he:∀ a∈l,Elt ag sz (enc a)) {f':V} {h:List Ob} (hf:frz h fdepth f'=some (.fn (.func g) first cap))
  (hff:∀ h,frz h fdepth (.fn (.func g) first cap)=some (.fn (.func g) first cap)) (hp:∀ a∈l,acw C g (first++[enc a]++cap) []=some (.ret (.bool (p a)),[])) :
  acw C m [.sl sz (l.map enc),f'] h=some (.ret (.bool (l.any p)),h):=by
 refine zap (a2:=[.sl sz (l.map enc),.fn (.func g) first cap]) (h':=[]) (v:=.bool (l.any p)) hT' rfl ?_ ?_ rfl (by simp)
 ·simp only [zj4,zi8,hf,zcd,zn8]
  rfl
 ·have:=zzu hT l hl he (h:=[]) (hff []) hp
  have h2:=zwP p l
  simp [zaa,gCon,this,h2]
def all2 {α:Type} (p:α→α→Bool):List α→List α→Bool
 | [],[]=>true
 | x::r,y::s=>p x y&&all2 p r s
 | _,_=>false
theorem zuH {α:Type} {p:α→α→Bool}:∀ {l m:List α},l.length≠m.length→all2 p l m=false
 | [],[],h=>absurd rfl h
 | [],_::_,_=>rfl
 | _::_,[],_=>rfl
 | x::r,y::s,h=>by
  simp only [all2,zuH (l:=r) (m:=s) (by simpa using h),Bool.and_false]
def zzR (ag:Bool) (sz:Nat) (z:V):IR:=.seq (.rg [⟨(some 18),none,.bin .lss (.t 17) (.t 16)⟩] (some [1,2,15,16,17,18]))
   (.seq (.cond (.t 18) (.skip) (.ext 0))
   (.seq (.blk 1 (.seq (.rg [⟨(some 19),none,.mov (.t 17)⟩,
  ⟨(some 20),none,.iad sz (.t 15) (.t 17)⟩,
  ⟨(some 21),none,.ld ag sz (.t 20)⟩,
  ⟨(some 8),none,.new z⟩,
  ⟨(some 7),none,.mov (.t 19)⟩,
  ⟨none,none,.st sz (.t 8) (.t 21)⟩] (some [1,2,7,8,15,16,17]))
   (.seq (.rg [⟨(some 22),none,.mov (.t 1)⟩,
  ⟨(some 23),none,.mov (.t 7)⟩,
  ⟨(some 24),none,.iad sz (.t 22) (.t 23)⟩,
  ⟨(some 25),none,.ld ag sz (.t 24)⟩,
  ⟨(some 9),none,.new z⟩,
  ⟨none,none,.st sz (.t 9) (.t 25)⟩] (some [1,2,8,9,15,16,17]))
   (.seq (.rg [⟨(some 26),none,.mov (.t 2)⟩,
  ⟨(some 27),none,.ld ag sz (.t 8)⟩,
  ⟨(some 28),none,.ld ag sz (.t 9)⟩,
  ⟨(some 29),none,.callv (.t 26) [(.t 27),(.t 28)]⟩,
  ⟨(some 30),none,.un .not (.t 29)⟩] (some [1,2,15,16,17,30]))
   (.cond (.t 30) (.seq (.rg [⟨(some 6),none,.mov (.c (.bool false))⟩] (some [6]))
   (.ret)) (.skip))))))
   (.rg [⟨(some 31),none,.bin .add (.t 17) (.c (.int .i64 1))⟩,
  ⟨(some 17),none,.mov (.t 31)⟩] (some [1,2,15,16,17]))))
def zBw (ag:Bool) (sz:Nat) (z:V):IR:=.loop (zzR ag sz z)
def gEqf (ag:Bool) (sz:Nat) (z:V):IR:=.seq (.rg [⟨(some 6),none,.mov (.c (.bool false))⟩] (some [0,1,2]))
   (.seq (.seq (.rg [⟨(some 10),none,.mov (.t 0)⟩,
  ⟨(some 11),none,.len (.t 10)⟩,
  ⟨(some 12),none,.mov (.t 1)⟩,
  ⟨(some 13),none,.len (.t 12)⟩,
  ⟨(some 14),none,.bin .neq (.t 11) (.t 13)⟩] (some [0,1,2,14]))
   (.cond (.t 14) (.seq (.rg [⟨(some 6),none,.mov (.c (.bool false))⟩] (some [6]))
   (.ret)) (.skip)))
   (.seq (.seq (.rg [⟨(some 15),none,.mov (.t 0)⟩,
  ⟨(some 16),none,.len (.t 15)⟩,
  ⟨(some 17),none,.mov (.c (.int .i64 0))⟩] (some [1,2,15,16,17]))
   (.blk 0 (zBw ag sz z)))
   (.seq (.rg [⟨(some 6),none,.mov (.c (.bool true))⟩] (some [6]))
   (.ret))))
theorem zzD {z:V} {fr:Fr} {h:List Ob}:evw C y0 (zBw ag sz z) fr h=nxt (evw C y0 (zzR ag sz z) fr h) fun fr h=>evw C y0 (zBw ag sz z) fr h:=zal
theorem zCK {z:V} {q:α→α→Bool} (l m:List α) (hlm:l.length=m.length) (hl:l.length≤4611686018427387904) (he:∀ a,enc a=.agg (enc a).cells∧(enc a).cells.length=sz) (hzz:∃ zs,z=.agg zs∧zs.length=sz)
  (hp:∀ a∈l,∀ b∈m,∀ h,acw C g (first++[enc a,enc b]++cap) h=some (.ret (.bool (q a b)),h)):∀ (d i:Nat) (h:List Ob),i+d=l.length →
  ∃ fr' h',evw C y0 (zBw true sz z) [(1,.sl sz (m.map enc)),(2,.fn (.func g) first cap),(15,.sl sz (l.map enc)),(16,.int .i64 l.length),(17,.int .i64 i)] h =
   some (if all2 q (l.drop i) (m.drop i)=true then (.ext 0,fr',h') else (.ret,[(6,.bool false)],h')):=by
 intro d
 induction d with
 | zero=>
  intro i h hi
  have:i=l.length:=by omega
  subst this
  rw [zzD,List.drop_length,hlm,List.drop_length]
  exact ⟨[(1,.sl sz (m.map enc)),(2,.fn (.func g) first cap),(15,.sl sz (l.map enc)),(16,.int .i64 l.length),(17,.int .i64 l.length),(18,.bool false)],h,by simp [zzR,all2,hlm]⟩
 | succ d ih=>
  intro i h hi
  have hlt:i<l.length:=by omega
  have hlt':i<m.length:=by omega
  have h2:=hp _ (List.getElem_mem hlt) _ (List.getElem_mem hlt')
  have hw:=zac hlt (by omega)
  obtain ⟨zs,rfl,hzl⟩:=hzz
  obtain ⟨e1,e2⟩:=he l[i]
  obtain ⟨e3,e4⟩:=he m[i]
  obtain ⟨fr',h',ih⟩:=ih (i+1) (h++[.row sz [enc l[i]],.row sz [enc m[i]]]) (by omega)
  rw [zzD,List.drop_eq_getElem_cons hlt,List.drop_eq_getElem_cons hlt']
  simp only [all2]
  have h2':∀ h,acw C g (first++(enc l[i]::enc m[i]::cap)) h=some (.ret (.bool (q l[i] m[i])),h):=fun h=>by simpa using h2 h
  generalize hea:(enc l[i]).cells=ca at *
  generalize heb:(enc m[i]).cells=cb at *
  rw [e1] at ih h2'
  rw [e3] at ih h2'
  have k1:List.take sz ca=ca:=List.take_of_length_le (by omega)
  have k2:List.take sz cb=cb:=List.take_of_length_le (by omega)
  have k3:List.drop sz zs=[]:=List.drop_of_length_le (by omega)
  rcases Bool.eq_false_or_eq_true (q l[i] m[i]) with hq|hq
  ·rw [hq] at h2'
   refine ⟨fr',h',?_⟩
   simp only [hq,Bool.true_and,←ih]
   simp [zzR,hlt,hlt',e1,e2,e3,e4,hzl,h2',hw,k1,k2,k3]
  ·rw [hq] at h2'
   refine ⟨[],h++[.row sz [.agg ca],.row sz [.agg cb]],?_⟩
   simp [zzR,hlt,hlt',e1,e2,e3,e4,hzl,h2',hw,hq,k1,k2,k3]
theorem zzL {z:V} {n:Nat} {q:α→α→Bool} (hT:C.T n=some ⟨gEqf true sz z,[(6,none)],false⟩) (l m:List α) (hl:l.length≤4611686018427387904) (he:∀ a,enc a=.agg (enc a).cells∧(enc a).cells.length=sz) (hzz:∃ zs,z=.agg zs∧zs.length=sz)
  {f':V} {h:List Ob} (hf:frz h fdepth f'=some (.fn (.func g) first cap)) (hp:∀ a∈l,∀ b∈m,∀ h,acw C g (first++[enc a,enc b]++cap) h=some (.ret (.bool (q a b)),h)) :
  acw C n [.sl sz (l.map enc),.sl sz (m.map enc),f'] h=some (.ret (.bool (all2 q l m)),h):=by
 by_cases hlm:l.length=m.length
 ·obtain ⟨fr',h',hloop⟩:=zCK l m hlm hl he hzz hp l.length 0 [] (by omega)
  simp only [List.drop_zero,Int.cast_ofNat_Int] at hloop
  refine zap (a2:=[.sl sz (l.map enc),.sl sz (m.map enc),.fn (.func g) first cap]) (h':=h') (v:=.bool (all2 q l m)) hT rfl ?_ ?_ rfl (by simp)
  ·simp only [zj4,zi8,hf,zcd,zn8]
   rfl
  ·rw [hlm] at hloop
   rcases Bool.eq_false_or_eq_true (all2 q l m) with h1|h1
   ·simp only [h1,if_true] at hloop
    simp [zaa,gEqf,hlm,hloop,h1]
   ·simp only [h1,Bool.false_eq_true,if_false] at hloop
    simp [zaa,gEqf,hlm,hloop,h1]
 ·refine zap (a2:=[.sl sz (l.map enc),.sl sz (m.map enc),.fn (.func g) first cap]) (h':=[]) (v:=.bool (all2 q l m)) hT rfl ?_ ?_ rfl (by simp)
  ·simp only [zj4,zi8,hf,zcd,zn8]
   rfl
  ·have h2:¬((l.length:Int)=m.length):=by omega
   have h3:((l.length:Int) != m.length)=true:=by simpa using h2
   simp [zaa,gEqf,zuH hlm,h2,h3]
end
def zAP (ag:Bool) (sz:Nat) (c:I):IR:=.seq (.rg [⟨(some 9),none,.bin .lss (.t 8) (.t 7)⟩] (some [0,1,7,8,9]))
   (.seq (.cond (.t 9) (.skip) (.ext 0))
   (.seq (.blk 1 (.seq (.rg [⟨(some 10),none,.mov (.t 8)⟩,
  ⟨(some 5),none,.mov (.t 10)⟩] (some [0,1,5,7,8]))
   (.seq (.rg [⟨(some 11),none,.mov (.t 1)⟩,
  ⟨(some 12),none,.mov (.t 0)⟩,
  ⟨(some 13),none,.mov (.t 5)⟩,
  ⟨(some 14),none,.iad sz (.t 12) (.t 13)⟩,
  ⟨(some 15),none,.ld ag sz (.t 14)⟩,
  ⟨(some 16),none,c⟩] (some [0,1,5,7,8,16]))
   (.cond (.t 16) (.seq (.rg [⟨(some 17),none,.mov (.t 5)⟩,
  ⟨(some 4),none,.mov (.t 17)⟩] (some [4]))
   (.ret)) (.skip)))))
   (.rg [⟨(some 18),none,.bin .add (.t 8) (.c (.int .i64 1))⟩,
  ⟨(some 8),none,.mov (.t 18)⟩] (some [0,1,7,8]))))
def zBI (ag:Bool) (sz:Nat) (c:I):IR:=.loop (zAP ag sz c)
def gInd (ag:Bool) (sz:Nat) (c:I):IR:=.seq (.rg [⟨(some 4),none,.mov (.c (.int .i64 0))⟩] (some [0,1]))
   (.seq (.seq (.rg [⟨(some 6),none,.mov (.t 0)⟩,
  ⟨(some 7),none,.len (.t 6)⟩,
  ⟨(some 8),none,.mov (.c (.int .i64 0))⟩] (some [0,1,7,8]))
   (.blk 0 (zBI ag sz c)))
   (.seq (.rg [⟨(some 4),none,.mov (.c (.int .i64 (-1)))⟩] (some [4]))
   (.ret)))
def Cmp {α:Type} (c:I) (d s t:Nat) (enc:α→V) (q:α→α→Bool):Prop:=
 ∀ (cr:zaw) (fr:Fr) (h:List Ob) (a b:α),get fr s=enc a→get fr t=enc b→zak cr [⟨some d,none,c⟩] fr h=some (.nrm,(d,.bool (q a b))::fr,h)
section
variable {C:Cx} {α:Type} {enc:α→V} {ag:Bool} {sz:Nat} {c:I} {q:α→α→Bool}
theorem zAD {fr:Fr} {h:List Ob}:evw C y0 (zBI ag sz c) fr h=nxt (evw C y0 (zAP ag sz c) fr h) fun fr h=>evw C y0 (zBI ag sz c) fr h:=zal
theorem zBR (hc:Cmp c 16 11 15 enc q) (l:List α) (x:α) (hl:l.length≤4611686018427387904) (he:∀ a∈l,Elt ag sz (enc a)):∀ (d i:Nat),i+d=l.length →
  evw C y0 (zBI ag sz c) [(0,.sl sz (l.map enc)),(1,enc x),(7,.int .i64 l.length),(8,.int .i64 i)] [] =
   some (if idx (q x) (l.drop i)<0 then (.ext 0,[(0,.sl sz (l.map enc)),(1,enc x),(7,.int .i64 l.length),(8,.int .i64 l.length),(9,.bool false)],[]) else (.ret,[(4,.int .i64 (i+idx (q x) (l.drop i)))],[])):=by
 intro d
 induction d with
 | zero=>
  intro i hi
  have:i=l.length:=by omega
  subst this
  rw [zAD,List.drop_length]
  simp [zAP,idx]
 | succ d ih=>
  intro i hi
  have hlt:i<l.length:=by omega
  have hm:=List.getElem_mem hlt
  have h1:=he _ hm
  have hw:=zac hlt (by omega)
  have ih:=ih (i+1) (by omega)
  have hge:=zub (q x) (l.drop (i+1))
  have hc':=fun fr h=>hc (crw C y0) fr h x l[i]
  rw [zAD,List.drop_eq_getElem_cons hlt]
  simp only [idx]
  unfold Elt at h1
  rcases Bool.eq_false_or_eq_true (q x l[i]) with hq|hq
  ·simp [zAP,hlt,h1,hc',hq]
  ·simp only [Int.natCast_add,Int.cast_ofNat_Int] at ih
   simp [zAP,hlt,h1,hc',hq,hw]
   refine ih.trans ?_
   by_cases h3:idx (q x) (l.drop (i+1))<0
   ·simp [h3]
   ·have h4:¬(idx (q x) (l.drop (i+1))+1<0):=by omega
    have h5:(i:Int)+1+idx (q x) (l.drop (i+1))=(i:Int)+(idx (q x) (l.drop (i+1))+1):=by omega
    simp only [h3,h4,if_false,h5]
theorem index {n:Nat} (hT:C.T n=some ⟨gInd ag sz c,[(4,none)],false⟩) (hc:Cmp c 16 11 15 enc q) (l:List α) (x:α) (hl:l.length≤4611686018427387904) (he:∀ a∈l,Elt ag sz (enc a)) (hx:Fz (enc x)) (h:List Ob) :
  acw C n [.sl sz (l.map enc),enc x] h=some (.ret (.int .i64 (idx (q x) l)),h):=by
 refine zap (a2:=[.sl sz (l.map enc),enc x]) (h':=[]) (v:=.int .i64 (idx (q x) l)) hT rfl ?_ ?_ rfl (by simp)
 ·simp only [zj4,zi8,hx h 8,zcd,zn8,show fdepth=8+4 from rfl]
  rfl
 ·have:=zBR (C:=C) hc l x hl he l.length 0 (by omega)
  simp only [List.drop_zero,Int.cast_ofNat_Int,Int.zero_add] at this
  by_cases h3:idx (q x) l<0
  ·have h4:=zub (q x) l
   have h5:idx (q x) l=-1:=by omega
   simp only [h3,if_true] at this
   simp [zaa,gInd,this,h5]
  ·simp only [h3,if_false] at this
   simp [zaa,gInd,this]
theorem contains {m n:Nat} (hT:C.T n=some ⟨gInd ag sz c,[(4,none)],false⟩) (hT':C.T m=some ⟨gCon n,[(4,none)],false⟩) (hc:Cmp c 16 11 15 enc q) (l:List α) (x:α) (hl:l.length≤4611686018427387904) (he:∀ a∈l,Elt ag sz (enc a)) (hx:Fz (enc x)) (h:List Ob) :
  acw C m [.sl sz (l.map enc),enc x] h=some (.ret (.bool (l.any (q x))),h):=by
 refine zap (a2:=[.sl sz (l.map enc),enc x]) (h':=[]) (v:=.bool (l.any (q x))) hT' rfl ?_ ?_ rfl (by simp)
 ·simp only [zj4,zi8,hx h 8,zcd,zn8,show fdepth=8+4 from rfl]
  rfl
 ·have:=index hT hc l x hl he hx []
  have h2:=zwP (q x) l
  simp [zaa,gCon,this,h2]
def zzW (ag:Bool) (sz:Nat) (c:I):IR:=.seq (.rg [⟨(some 14),none,.bin .lss (.t 13) (.t 12)⟩] (some [0,1,12,13,14]))
   (.seq (.cond (.t 14) (.skip) (.ext 0))
   (.seq (.blk 1 (.seq (.rg [⟨(some 15),none,.mov (.t 13)⟩,
  ⟨(some 5),none,.mov (.t 15)⟩] (some [0,1,5,12,13]))
   (.seq (.dq [(⟨(some 16),none,.mov (.t 0)⟩,[]),
  (⟨(some 17),none,.mov (.t 5)⟩,[]),
  (⟨(some 18),none,.iad sz (.t 16) (.t 17)⟩,[0,1]),
  (⟨(some 19),none,.ld ag sz (.t 18)⟩,[0,1,2]),
  (⟨(some 20),none,.mov (.t 1)⟩,[]),
  (⟨(some 21),none,.mov (.t 5)⟩,[]),
  (⟨(some 22),none,.iad sz (.t 20) (.t 21)⟩,[4,5]),
  (⟨(some 23),none,.ld ag sz (.t 22)⟩,[4,5,6]),
  (⟨(some 24),none,c⟩,[0,1,2,3,4,5,6,7])] (some [0,1,12,13,24]))
   (.cond (.t 24) (.seq (.rg [⟨(some 4),none,.mov (.c (.bool false))⟩] (some [4]))
   (.ret)) (.skip)))))
   (.rg [⟨(some 25),none,.bin .add (.t 13) (.c (.int .i64 1))⟩,
  ⟨(some 13),none,.mov (.t 25)⟩] (some [0,1,12,13]))))
def zBQ (ag:Bool) (sz:Nat) (c:I):IR:=.loop (zzW ag sz c)
def gEql (ag:Bool) (sz:Nat) (c:I):IR:=.seq (.rg [⟨(some 4),none,.mov (.c (.bool false))⟩] (some [0,1]))
   (.seq (.seq (.rg [⟨(some 6),none,.mov (.t 0)⟩,
  ⟨(some 7),none,.len (.t 6)⟩,
  ⟨(some 8),none,.mov (.t 1)⟩,
  ⟨(some 9),none,.len (.t 8)⟩,
  ⟨(some 10),none,.bin .neq (.t 7) (.t 9)⟩] (some [0,1,10]))
   (.cond (.t 10) (.seq (.rg [⟨(some 4),none,.mov (.c (.bool false))⟩] (some [4]))
   (.ret)) (.skip)))
   (.seq (.seq (.rg [⟨(some 11),none,.mov (.t 0)⟩,
  ⟨(some 12),none,.len (.t 11)⟩,
  ⟨(some 13),none,.mov (.c (.int .i64 0))⟩] (some [0,1,12,13]))
   (.blk 0 (zBQ ag sz c)))
   (.seq (.rg [⟨(some 4),none,.mov (.c (.bool true))⟩] (some [4]))
   (.ret))))
theorem zAS {fr:Fr} {h:List Ob}:evw C y0 (zBQ ag sz c) fr h=nxt (evw C y0 (zzW ag sz c) fr h) fun fr h=>evw C y0 (zBQ ag sz c) fr h:=zal
theorem zCt (hq:qI c=true) (hc:Cmp c 24 19 23 enc fun a b=>!q a b) (l m:List α) (hlm:l.length=m.length) (hl:l.length≤4611686018427387904) (he:∀ a,Elt ag sz (enc a)):∀ (d i:Nat),i+d=l.length →
  evw C y0 (zBQ ag sz c) [(0,.sl sz (l.map enc)),(1,.sl sz (m.map enc)),(12,.int .i64 l.length),(13,.int .i64 i)] [] =
   some (if all2 q (l.drop i) (m.drop i)=true then (.ext 0,[(0,.sl sz (l.map enc)),(1,.sl sz (m.map enc)),(12,.int .i64 l.length),(13,.int .i64 l.length),(14,.bool false)],[]) else (.ret,[(4,.bool false)],[])):=by
 intro d
 induction d with
 | zero=>
  intro i hi
  have:i=l.length:=by omega
  subst this
  rw [zAS,List.drop_length,hlm,List.drop_length]
  simp [zzW,all2]
 | succ d ih=>
  intro i hi
  have hlt:i<l.length:=by omega
  have hlt':i<m.length:=by omega
  have h1:=he l[i]
  have h2:=he m[i]
  have hw:=zac hlt (by omega)
  have ih:=ih (i+1) (by omega)
  have hc':=fun fr h=>hc (crD (crw C y0)) fr h l[i] m[i]
  rw [zAS,List.drop_eq_getElem_cons hlt,List.drop_eq_getElem_cons hlt']
  simp only [all2]
  unfold Elt at h1 h2
  rcases Bool.eq_false_or_eq_true (q l[i] m[i]) with hb|hb
  ·simp only [Int.natCast_add,Int.cast_ofNat_Int] at ih
   simp only [hb,Bool.true_and,←ih]
   simp [zzW,hlt,hlt',h1,h2,hc',hb,hw,hq]
  ·simp [zzW,hlt,hlt',h1,h2,hc',hb,hw,hq]
theorem equal {n:Nat} (hT:C.T n=some ⟨gEql ag sz c,[(4,none)],false⟩) (hq:qI c=true) (hc:Cmp c 24 19 23 enc fun a b=>!q a b) (l m:List α) (hl:l.length≤4611686018427387904) (he:∀ a,Elt ag sz (enc a)) (h:List Ob) :
  acw C n [.sl sz (l.map enc),.sl sz (m.map enc)] h=some (.ret (.bool (all2 q l m)),h):=by
 refine zap (a2:=[.sl sz (l.map enc),.sl sz (m.map enc)]) (h':=[]) (v:=.bool (all2 q l m)) hT rfl rfl ?_ rfl (by simp)
 by_cases hlm:l.length=m.length
 ·have hloop:=zCt (C:=C) hq hc l m hlm hl he l.length 0 (by omega)
  simp only [List.drop_zero,Int.cast_ofNat_Int] at hloop
  rcases Bool.eq_false_or_eq_true (all2 q l m) with h1|h1
  ·simp only [h1,if_true] at hloop
   simp [zaa,gEql,←hlm,hloop,h1]
  ·simp only [h1,Bool.false_eq_true,if_false] at hloop
   simp [zaa,gEql,←hlm,hloop,h1]
 ·have h2:¬((l.length:Int)=m.length):=by omega
  have h3:((l.length:Int) != m.length)=true:=by simpa using h2
  simp [zaa,gEql,zuH hlm,h2,h3]
end
theorem zAc {α:Type} [BEq α] [LawfulBEq α]:∀ {l m:List α},all2 (fun a b=>a==b) l m=(l==m)
 | [],[]=>rfl
 | [],_::_=>rfl
 | _::_,[]=>rfl
 | x::r,y::s=>by
  simp only [all2,zAc (l:=r) (m:=s)]
  rfl
theorem zAF {d s t:Nat} {k:IntKind}:Cmp (.bin .eql (.t s) (.t t)) d s t (V.int k) (fun a b=>a==b):=by
 intro cr fr h a b h1 h2
 simp [h1,h2]
theorem zCE {d s t:Nat} {k:IntKind}:Cmp (.bin .neq (.t s) (.t t)) d s t (V.int k) (fun a b=>!(a==b)):=by
 intro cr fr h a b h1 h2
 simp [h1,h2,bne]
abbrev iv (n:Int):V:=.int .i64 n
theorem ine (a b:Int):(a != b)=!decide (a=b):=by
 by_cases h:a=b<;>simp [h]
theorem ieq (a b:Int):(a==b)=decide (a=b):=by
 by_cases h:a=b<;>simp [h]
@[simp] theorem wrapL {n:Int} (h:-9223372036854775808≤n) (h2:n≤9223372036854775807):IntKind.i64.wrap n=n:=wrap64 h h2
theorem zar {C:Cx} {f:Nat} {F:F} {args a2:List V} {h:List Ob} {v:V} (hF:C.T f=some F) (hm:F.hm=false) (ha:zj4 h args=some a2) (hv:∀ h',frz h' fdepth v=some v) (hd:(dataL args||v.flat)=true) (hr:∃ h',zpt (evw C y0) F a2 []=some (.ret v,h')) :
  acw C f args h=some (.ret v,h):=by
 obtain ⟨h',hr⟩:=hr
 exact zap hF hm ha hr (hv h') hd
def I64 (n:Int):Prop:=-9223372036854775808≤n∧n≤9223372036854775807
structure Con where
 kind:Int
 vars:List Int
 coefs:List Int
 rel:Int
 const:Int
 nums:List Int
 deriving DecidableEq,Inhabited
abbrev zab (l:List Int):V:=.sl 1 (l.map (V.int .i64))
abbrev zaq (c:Con):V:=.agg [.int .i64 c.kind,zab c.vars,zab c.coefs,.int .i64 c.rel,.int .i64 c.const,zab c.nums]
abbrev zaW (l:List Con):V:=.sl 6 (l.map zaq)
end Go.RR
namespace Go.RR
open Go
abbrev zt6:Sh:=.sl (.int .i64)
abbrev zz8:Sh:=.st (.cons (.int .i64) (.cons zt6 (.cons zt6 (.cons (.int .i64) (.cons (.int .i64) (.cons zt6 .nil))))))
theorem zDg {α:Type} {enc:α→V}:∀ {xs:List V},(∀ x∈xs,∃ a,x=enc a)→∃ l:List α,xs=l.map enc
 | [],_=>⟨[],rfl⟩
 | x::r,h=>by
  obtain ⟨a,ha⟩:=h x (by simp)
  obtain ⟨l,hl⟩:=zDg (xs:=r) fun y hy=>h y (by simp [hy])
  exact ⟨a::l,by rw [ha,hl];rfl⟩
theorem zC9 {α:Type} {enc:α→V} {e:Sh} (he:∀ cs,Has e cs→∃ a,e.mk cs=enc a) {vs:List V} (h:Has (.sl e) vs):∃ l:List α,vs=[.sl e.size (l.map enc)]∧l.length≤maxLen:=by
 simp only [Has] at h
 obtain ⟨xs,rfl,hl,hx⟩:=h
 obtain ⟨l,rfl⟩:=zDg (enc:=enc) (xs:=xs) fun x hx'=>by
  obtain ⟨cs,rfl,hc⟩:=hx x hx'
  exact he cs hc
 exact ⟨l,rfl,by simpa using hl⟩
theorem zuD {vs:List V} (h:Has (.int .i64) vs):∃ n,vs=[.int .i64 n]∧I64 n:=by
 simp only [Has] at h
 obtain ⟨n,rfl,hn⟩:=h
 refine ⟨n,rfl,?_⟩
 have:-9223372036854775808≤n∧n≤9223372036854775807:=by simpa [Lit.wf,IntKind.min,IntKind.max,IntKind.signed,IntKind.bits] using hn
 exact this
theorem zpJ {vs:List V} (h:Has zt6 vs):∃ l:List Int,vs=[zab l]∧l.length≤maxLen:=
 zC9 (enc:=V.int .i64) (fun cs hc=>by obtain ⟨n,rfl,_⟩:=zuD hc;exact ⟨n,rfl⟩) h
theorem zEa {vs:List V} (h:Has zz8 vs):∃ s:Con,zz8.mk vs=zaq s:=by
 unfold zz8 at h
 rw [Has] at h
 simp only [HasF] at h
 obtain ⟨a1,b1,rfl,h1,a2,b2,rfl,h2,a3,b3,rfl,h3,a4,b4,rfl,h4,a5,b5,rfl,h5,a6,b6,rfl,h6,rfl⟩:=h
 obtain ⟨n1,rfl,-⟩:=zuD h1
 obtain ⟨l2,rfl,-⟩:=zpJ h2
 obtain ⟨l3,rfl,-⟩:=zpJ h3
 obtain ⟨n4,rfl,-⟩:=zuD h4
 obtain ⟨n5,rfl,-⟩:=zuD h5
 obtain ⟨l6,rfl,-⟩:=zpJ h6
 exact ⟨⟨n1,l2,l3,n4,n5,l6⟩,rfl⟩
end Go.RR
namespace Go
open Go.ChangeShapes Go.WideShapes Go.ChangeAt Go.RowKit
variable {H:Type} {enc:TypeId×Value→H}
theorem zpb {a:Assume} {C:Checked} {os:Os} {f:FuncId} {fn:Func} {s:ChangeSpec} {conds:List PathCond} {apart fresh handsOn again:Bool} {X:World→Array Value→Prop}
  (hX:∀ (w w':World) (args:Array Value),w.heap=w'.heap→X w args→X w' args)
  (own:ownKnob C.prog.godebug=none) (started:os.Started) (noInit:C.prog.inits.idxOf? f=none) (hfn:C.prog.funcs[f]? = some fn)
  (witness:∃ (w:World) (tape:Tape) (i:Input),w.os=os∧(w.forCall tape i).Shaped C.prog∧i.vars=[]∧Input.okWide C.prog (w.forCall tape i) .any w.heap.size f i ∧
   ((s.pre enc C.prog fn conds apart (w.forCall tape i).memory i.args∧X (w.forCall tape i).memory i.args)∧sizedMet enc C.prog fn (OpenSpec.ofChange s) apart (w.forCall tape i).memory i.args)∧a.holds C.prog (lone (Frame.enter C.prog f i.args .normal) [] (w.forCall tape i)))
  (contract:∀ (W:World) (base:Nat) (args:Array Value) (ds gs:List (DataW H)) (before:List MemPlace),
   (∀ (j:Nat) t v,fn.params[j]? = some t→args[j]? = some v→Value.okWide C.prog W .any base t v) →
   DataW.Whole enc C.prog fn.params.toList s.vars apart W args.toList ds gs before →
   X W args→W.ShapedOpen C.prog →
   Calls C.prog f args W fun e W'=>∃ v,e=.returned v∧s.post enc C.prog fn apart fresh handsOn again W args v W') :
  ReturnsInHanded a C os f .any (fun w args=>(s.pre enc C.prog fn conds apart w args∧X w args)∧sizedMet enc C.prog fn (OpenSpec.ofChange s) apart w args) (s.post enc C.prog fn apart fresh handsOn again):=by
 refine returnsInHanded_of_calls own started noInit witness ?_
 intro w tape i _ hsh _ hok hpre hholds
 obtain ⟨_,_,_,fn',hfn',_,_,_,_,hval⟩:=hok
 have e:fn'=fn:=Option.some.inj (hfn'.symm.trans hfn)
 subst e
 obtain ⟨⟨⟨ds,gs,before,hw,hc⟩,hx⟩,hz⟩:=hpre
 have hw':=DataW.Whole.of_heap (w':=w.forCall tape i) (by rfl) hw
 refine (contract (w.forCall tape i) w.heap.size i.args ds gs before hval hw' (hX _ _ _ (by rfl) hx) hsh).mono fun e W' ⟨v,he,hp⟩=>?_
 subst he
 exact ChangeSpec.post_blind hp
theorem Below.trodAll {P:Program} (hl:laidOutB P=true) {W W':World} (hb:Below W.heap.size W W'):∀ {ts:List TypeId} {vs:List Value} {ds:List (DataW H)} {ps:List MemPlace},(ts.all fun t=>P.readableRec t&&decide (t<P.types.size))=true →
  DataW.TrodAll enc P W 0 (fun _=>true) true ts vs ds ps→DataW.TrodAll enc P W' 0 (fun b=>decide (b<W.heap.size)) true ts vs ds ps
 | [],vs,ds,ps,_,h=>by
  obtain ⟨rfl,rfl,rfl⟩:=trodAll_nil h
  rfl
 | t::ts,vs,ds,ps,hr,h=>by
  simp only [List.all_cons,Bool.and_eq_true,decide_eq_true_eq] at hr
  have hlt:=h.lt
  obtain ⟨v0,vs0,d0,ds0,p0,q0,rfl,rfl,rfl,h0,r0⟩:=trodAll_cons h
  exact trodAll_cons_mk (Below.trod hl hr.1.1 hr.1.2 h0 hb fun x hx=>hlt x (List.mem_append.2 (.inl hx))) (Below.trodAll hl hb hr.2 r0)
end Go
namespace Go.RR
open Go
theorem zEK {vs:List V} (h:Has (.int .u64) vs):∃ n,vs=[.int .u64 n]∧0≤n∧n≤18446744073709551615:=by
 simp only [Has] at h
 obtain ⟨n,rfl,hn⟩:=h
 refine ⟨n,rfl,?_⟩
 have:0≤n∧n≤18446744073709551615:=by simpa [Lit.wf,IntKind.min,IntKind.max,IntKind.signed,IntKind.bits] using hn
 exact this
theorem zBM {vs:List V} (h:Has (.sl zz8) vs):∃ l:List Con,vs=[zaW l]∧l.length≤maxLen:=
 zC9 (enc:=zaq) (e:=zz8) (fun cs hc=>zEa hc) h
end Go.RR
namespace Go.RR
theorem zsO {h l:List Ob} {i:Nat} (hi:i<h.length):(h++l)[i]? = h[i]?:=List.getElem?_append_left hi
theorem za3 {h l:List Ob} {i:Nat} {o:Ob} (e:h[i]? = some o):(h++l)[i]? = some o:=by
 rw [List.getElem?_append_left (List.getElem?_eq_some_iff.1 e).1];exact e
theorem zfi {h:List Ob} {i:Nat} {o:Ob} (hi:i<h.length):wr h (some (i,o))=h.set i o:=by simp [wr,hi]
theorem zjR (h:List Ob) (w:Option (Nat×Ob)):h.length≤(wr h w).length:=by
 cases w with
 | none=>exact Nat.le_refl _
 | some p=>
  obtain ⟨i,o⟩:=p
  simp only [wr]
  split<;>simp
theorem zgG {C:Cx} {f:Nat} {F:F} {args a2:List V} {h h2:List Ob} {v:V} (hF:C.T f=some F) (hm:F.hm=false) (ha:zj4 h args=some a2) (ha2:zj4 [] a2=some a2) (hk:acw C f a2 []=some (.ret v,h2)) (hfl:v.flat=true):acw C f args h=some (.ret v,h):=by
 rw [zrU] at hk ⊢
 unfold zm7 at hk ⊢
 simp only [hF,hm,ha,ha2,Bool.false_eq_true,if_false] at hk ⊢
 cases hr:zpt (evw C y0) F a2 [] with
 | none=>rw [hr] at hk;cases hk
 | some y=>
  rw [hr] at hk
  obtain ⟨o,h'⟩:=y
  cases o with
  | ret v1=>
   simp only at hk ⊢
   cases hz:frz h' fdepth v1 with
   | none=>rw [hz] at hk;cases hk
   | some v2=>
    rw [hz] at hk
    simp only at hk ⊢
    split at hk<;>try contradiction
    cases hk
    simp [hfl]
  | pan v1=>
   simp only at hk ⊢
   cases hz:frz h' fdepth v1 with
   | none=>rw [hz] at hk;cases hk
   | some v2=>
    rw [hz] at hk
    simp only at hk ⊢
    split at hk<;>cases hk
def zmL (B:Nat) (h:List Ob) (v:V) (z:Nat) (xs:List V):Prop:=(v=.nsl z∧xs=[])∨∃ id,B≤id∧v=.own id 0 xs.length xs.length∧h[id]? = some (.row z xs)
theorem zmL.acc {B:Nat} {h:List Ob} {v:V} {z:Nat} {xs:List V} (a:zmL B h v z xs):Acc h v z xs:=by
 rcases a with ⟨rfl,rfl⟩|⟨id,-,rfl,e⟩
 ·exact .inl ⟨rfl,rfl⟩
 ·exact .inr ⟨id,rfl,e⟩
theorem zmL.nil {B:Nat} {h:List Ob} {z:Nat}:zmL B h (.nsl z) z []:=.inl ⟨rfl,rfl⟩
theorem zmL.own {B:Nat} {h:List Ob} {z:Nat} {xs:List V} {id n:Nat} (hB:B≤id) (hn:n=xs.length) (e:h[id]? = some (.row z xs)):zmL B h (.own id 0 n n) z xs:=.inr ⟨id,hB,by rw [hn],e⟩
theorem zmL.keep {B:Nat} {h h':List Ob} {v:V} {z:Nat} {xs:List V} (a:zmL B h v z xs) (k:∀ j r,B≤j→h[j]? = some (.row z r)→h'[j]? = some (.row z r)):zmL B h' v z xs:=by
 rcases a with ⟨rfl,rfl⟩|⟨id,h1,rfl,e⟩
 ·exact .inl ⟨rfl,rfl⟩
 ·exact .inr ⟨id,h1,rfl,k _ _ h1 e⟩
theorem zmL.more {B:Nat} {h l:List Ob} {v:V} {z:Nat} {xs:List V} (a:zmL B h v z xs):zmL B (h++l) v z xs:=a.keep fun _ _ _ e=>za3 e
theorem zmL.good {B:Nat} {h:List Ob} {v:V} {z:Nat} {xs:List V} (a:zmL B h v z xs):v.isTup=false∧v.isUnd=false∧v.cells=[v]∧v.one=true:=by
 rcases a with ⟨rfl,rfl⟩|⟨id,h1,rfl,e⟩<;>exact ⟨rfl,rfl,rfl,rfl⟩
theorem zmL.app {B:Nat} {h:List Ob} {v y:V} {z b:Nat} {xs ys:List V} (a:zmL B h v z xs) (hB:B≤h.length) (hy:src h y=some (z,ys)) (h1:(xs.length+ys.length)*b≤70368744177664) (h2:xs.length+ys.length≤70368744177664) :
  ∃ v' w,zit h.length h z b v y=some (v',w)∧zmL B (wr h w) v' z (xs++ys)∧(∀ j o,h[j]? = some o→(∀ r,B≤j→o≠.row z r)→(wr h w)[j]? = some o)∧(∀ j,j<B→(wr h w)[j]? = h[j]?):=by
 unfold zit
 simp only [op1,zrF,hy,if_true]
 rcases a with ⟨rfl,rfl⟩|⟨id,hid,rfl,e⟩
 ·by_cases hys:ys=[]
  ·subst hys
   exact ⟨.nsl z,none,by simp,.inl ⟨rfl,rfl⟩,fun _ _ e _=>e,fun _ _=>rfl⟩
  ·simp only [hys,if_false]
   simp only [List.length_nil,Nat.zero_add] at h1 h2
   rw [if_pos ⟨h1,h2⟩]
   exact ⟨_,_,rfl,.inr ⟨h.length,hB,by simp,by simp⟩,fun j o e _=>by rw [zvK];exact za3 e,fun j hj=>by rw [zvK,zsO (by omega)]⟩
 ·by_cases hys:ys=[]
  ·subst hys
   exact ⟨.own id 0 xs.length xs.length,none,by simp [zaF,e],.inr ⟨id,hid,by simp,by simpa using e⟩,fun _ _ e _=>e,fun _ _=>rfl⟩
  ·simp only [zaF,e,if_true,hys,if_false,Nat.zero_add,true_and]
   rw [if_pos ⟨h1,h2⟩]
   have hl:=(List.getElem?_eq_some_iff.1 e).1
   refine ⟨_,_,rfl,.inr ⟨id,hid,by simp,by simp [wr,hl,comb]⟩,fun j o ej ho=>?_,fun j hj=>?_⟩
   ·have:id≠j:=fun ek=>by
     subst ek
     rw [e] at ej
     cases ej
     exact ho _ hid rfl
    rw [zfi hl,List.getElem?_set_ne this]
    exact ej
   ·rw [zfi hl,List.getElem?_set_ne (by omega)]
theorem zmL.frz {B:Nat} {h:List Ob} {v:V} {z:Nat} {xs ys:List V} (n:Nat) (a:zmL B h v z xs) (hx:zdP (RR.frz h n) xs=some ys):RR.frz h (n+1) v=some (.sl z ys):=by
 rcases a with ⟨rfl,rfl⟩|⟨id,-,rfl,e⟩
 ·cases hx;rfl
 ·simp [RR.frz,RR.elems,zaF,e,hx]
end Go.RR
namespace Go.RR
open Go Go.RowKit Go.Proofs Go.Lib Go.Sort
def zDm (x:Int):List Int→List Int
 | []=>[x]
 | y::r=>if x≤y then x::y::r else y::zDm x r
def zor:List Int→List Int
 | []=>[]
 | x::r=>zDm x (zor r)
theorem zsR (x:Int):∀ l,(zDm x l).Perm (x::l)
 | []=>.refl _
 | y::r=>by
  unfold zDm
  split
  ·exact .refl _
  ·exact ((zsR x r).cons y).trans (.swap x y r)
theorem zoj:∀ l,(zor l).Perm l
 | []=>.refl _
 | x::r=>(zsR x _).trans ((zoj r).cons x)
theorem zfF (l:List Int):(zor l).length=l.length:=(zoj l).length_eq
theorem zst (x:Int):∀ l,l.Pairwise (·≤·)→(zDm x l).Pairwise (·≤·)
 | [],_=>by simp [zDm]
 | y::r,h=>by
  unfold zDm
  split
  ·rename_i hxy
   refine List.pairwise_cons.2 ⟨fun z hz=>?_,h⟩
   rcases List.mem_cons.1 hz with rfl|hz
   ·exact hxy
   ·exact Int.le_trans hxy (List.rel_of_pairwise_cons h hz)
  ·rename_i hxy
   refine List.pairwise_cons.2 ⟨fun z hz=>?_,zst x r h.tail⟩
   rcases List.mem_cons.1 ((zsR x r).mem_iff.1 hz) with rfl|hz
   ·omega
   ·exact List.rel_of_pairwise_cons h hz
theorem znq:∀ l,(zor l).Pairwise (·≤·)
 | []=>.nil
 | x::r=>zst x _ (znq r)
theorem zwy (l:List Int):(l.mergeSort fun x y=>decide (x≤y))=zor l:=by
 refine List.Perm.eq_of_pairwise (le:=(·≤·)) (fun a b _ _ h1 h2=>Int.le_antisymm h1 h2) ?_ (znq l) ((List.mergeSort_perm l _).trans (zoj l).symm)
 have:=List.pairwise_mergeSort (le:=fun x y:Int=>decide (x≤y)) (fun a b c h1 h2=>by simp only [decide_eq_true_eq] at *;omega) (fun a b=>by simp only [Bool.or_eq_true,decide_eq_true_eq];omega) l
 exact this.imp (by simp)
def ints:List V→Option (List Int)
 | []=>some []
 | .int .i64 n::r=>match ints r with
  | some l=>some (n::l)
  | none=>none
 | _=>none
@[simp] theorem zxH:∀ (l:List Int),ints (l.map (V.int .i64))=some l
 | []=>rfl
 | x::r=>by simp [ints,zxH r]
theorem zxP:∀ {xs:List V} {l:List Int},ints xs=some l→xs=l.map (V.int .i64)
 | [],l,h=>by simp only [ints] at h;cases h;rfl
 | x::r,l,h=>by
  cases x with
  | int k n=>
   cases k<;>simp only [ints,reduceCtorEq] at h
   cases hl:ints r with
   | none=>rw [hl] at h;cases h
   | some l'=>
    rw [hl] at h
    cases h
    rw [zxP hl];rfl
  | _=>simp [ints] at h
def zzS:List V→List Ob→Option (Out×List Ob)
 | [.nsl _],h=>some (.ret (.tup []),h)
 | [.own id off len tot],h=>match h[id]? with
  | some (.row 1 xs)=>if off=0∧len=tot∧xs.length=tot∧tot<4611686018427387904 then (match ints xs with
   | some zs=>some (.ret (.tup []),h.set id (.row 1 ((zor zs).map (V.int .i64))))
   | none=>none) else none
  | _=>none
 | _,_=>none
variable {P:Program} {g:GW} {w:World} {M:Nat→Prop} {ν:Nu} {h:List Ob}
theorem zCz {w':World} {id:Nat} {L:Lc} {xs:List V} {zs:List Int} (hh:HR w M ν h) (hx:h[id]? = some (.row 1 xs)) (hL:ν id=some L) (hd:L.d=0) (hlen:zs.length=xs.length) (hw:∀ k,k<w.heap.size→k≠L.b→w'.heap[k]? = w.heap[k]?) (hsz:w.heap.size≤w'.heap.size)
  (hsh:w'.shape? L.b=w.shape? L.b) (hfz:∀ a:Addr,a.block=L.b→w'.frozen? a=w.frozen? a) (hc:∀ i (hi:i<zs.length),w'.cell? ⟨L.b,i,none⟩=some (.int .i64 zs[i])) (h1:w'.os=w.os) (h2:w'.tape=w.tape) (h3:w'.output=w.output) :
  Pst w M ν h w' M ν (h.set id (.row 1 (zs.map (V.int .i64)))):=by
 obtain ⟨hid,e⟩:=List.getElem?_eq_some_iff.1 hx
 have hl:live h[id]=true:=by rw [e];rfl
 obtain ⟨L1,k1,k2⟩:=hh.ob id hid hl
 rw [hL] at k1
 cases k1
 rw [e] at k2
 have hr:HRow w M ν L 1 xs:=k2
 have hν:(fun i=>if i=id then some L else ν i)=ν:=funext fun i=>by
  by_cases e:i=id
  ·subst e;simp [hL]
  ·simp [e]
 have:=HR.upd (x:=.row 1 (zs.map (V.int .i64))) hh hid hl hL hw hsz (L':=L) (Nat.le_refl _) (fun _=>rfl) (.inl rfl)
  ⟨by rw [hr.tot,List.length_map,hlen],by rw [List.length_map,hlen];exact hr.d,hr.dv,by rw [List.length_map,hlen];exact hr.cap,hr.mine,hr.sz,by
   obtain ⟨T,hT⟩:=hr.blk
   exact ⟨T,by rw [hsh];exact hT⟩,fun j hj=>by rw [hfz _ rfl];exact hr.fz j hj,fun i hi _=>by
   rw [List.length_map] at hi
   refine ⟨by simp,by simp,.int .i64 zs[i],by simp only [List.getElem_map];exact .int,by simp [Value.cells,hr.sz.2],fun k hk=>?_⟩
   have hk0:k=0:=by have:=hr.sz.2;omega
   subst hk0
   rw [hd,hr.sz.2,show (i-0)*1+0=i by omega,hc i hi]
   simp [Value.cells]⟩
 rw [hν] at this
 have e0:wr h (some (id,.row 1 (zs.map (V.int .i64))))=h.set id (.row 1 (zs.map (V.int .i64))):=by simp [wr,hid]
 rw [e0] at this
 exact ⟨this.1,fun _ hb=>hb,fun _ hb=>.inl hb,this.2.1,⟨h1,h2,h3,hsz,fun k hk hm=>hw k hk fun e=>hm ⟨id,hid,hl,L,hL,e.symm⟩⟩,this.2.2.1⟩
theorem zzF {id n:Nat} {zs:List Int} {u:Value} (hh:HR w M ν h) (hx:h[id]? = some (.row 1 (zs.map (V.int .i64)))) (hn:zs.length=n) (hr:Rel w M ν (.own id 0 n n) u) :
  ∃ L a cap,ν id=some L∧L.d=0∧u=.slice a n cap∧n≤cap∧cap=L.cap∧L.b<w.heap.size∧(0<n→a=some ⟨L.b,0,none⟩)∧Holds (Value.int .i64) w L.b 0 zs.toArray:=by
 obtain ⟨hid,e⟩:=List.getElem?_eq_some_iff.1 hx
 have hl:live h[id]=true:=by rw [e];rfl
 obtain ⟨L1,k1,k2⟩:=hh.ob id hid hl
 have hlt:=k2.lt hl
 rw [e] at k2
 have hrow:HRow w M ν L1 1 (zs.map (V.int .i64)):=k2
 cases hr with
 | own hv ht o1 hO=>
  rename_i L
  rw [k1] at hv
  cases hv
  have htot:=hrow.tot
  rw [List.length_map,hn] at htot
  obtain ⟨q1,q2,q3,q4,a,q5,q6⟩:=hO htot.symm
  have hd:L1.d=0:=by omega
  have hv0:L1.v=0:=by omega
  rw [hd] at q5 q6
  refine ⟨L1,a,L1.cap,k1,hd,by rw [q5];simp,by omega,rfl,hlt,fun hp=>?_,fun j hj=>?_⟩
  ·have:=q6 (by omega)
   simpa using this
  ·have hj':j<zs.length:=by simpa using hj
   obtain ⟨_,_,u,c1,c2,c3⟩:=hrow.el j (by simpa using hj') (by omega)
   have h4:=c3 0 (by have:=hrow.sz.1;omega)
   rw [hd,hrow.sz.2] at h4
   simp only [List.getElem_map] at c1
   rw [c1.int_inv] at h4
   have hcap:=hrow.cap
   rw [List.length_map,hd] at hcap
   refine ⟨?_,?_⟩
   ·rw [Nat.zero_add,show j=(j-0)*1+0 by omega,h4]
    simp [Value.cells,hj']
   ·rw [Nat.zero_add]
    exact hrow.fz j (by have:=hrow.sz.2;rw [this];omega)
theorem ztw {zs:List Int} {b:Nat} {w:World} (hH:Holds (Value.int .i64) w b 0 zs.toArray):∀ i (hi:i<zs.length),w.cell? ⟨b,i,none⟩=some (.int .i64 zs[i]):=by
 intro i hi
 have:=(hH i (by simpa using hi)).1
 rw [Nat.zero_add] at this
 rw [this]
 simp [hi]
theorem ztz (w:World) (b k:Nat) (f:Array Value→Array Value) (hf:∀ c,(f c).size=c.size):(mapBlock w b f).shape? k=w.shape? k:=by
 by_cases e:k=b
 ·subst e
  unfold mapBlock World.shape?
  simp only [Array.getElem?_modify,if_true]
  cases w.heap[k]? with
  | none=>rfl
  | some o=>cases o<;>simp [onCells,hf]
 ·unfold mapBlock World.shape?
  simp only [Array.getElem?_modify,if_neg (Ne.symm e)]
theorem zuZ (enc:Int→Value) (off:Nat) (d:Array Int) (c:Array Value):(putCells enc off d c).size=c.size:=by simp [putCells]
theorem zDX {f:Nat} (hf:zyg P f) (hs:∀ (blk off cap:Nat) (zs:List Int) (w:World),Holds (Value.int .i64) w blk off zs.toArray→blk<w.heap.size→zs.length<4611686018427387904 →
   Calls P f #[.slice (some ⟨blk,off,none⟩) zs.length cap] w fun e w'=>e=.returned (.tuple #[])∧∃ n os,w'=grow (putRow (Value.int .i64) (Sort.ahead w n) blk off (zs.mergeSort fun x y=>decide (x≤y)).toArray) os)
  (h0:∀ (p:Option Addr) (cap:Nat) (w:World),Calls P f #[.slice p 0 cap] w fun e w'=>e=.returned (.tuple #[])∧w'=w)
  {args:List V} {h:List Ob} {out:Out} {h':List Ob} (he:zzS args h=some (out,h')) {us:Array Value} {w:World} {M:Nat→Prop} {ν:Nu} (hsz:us.size=args.length) (hr:∀ i (hi:i<args.length),Rel w M ν args[i] (us.getD i undef)) (hh:HR w M ν h) :
  zyg P f∧Calls P f us w fun e w'=>∃ M' ν',zE1 w' M' ν' out e∧Pst w M ν h w' M' ν' h':=by
 refine ⟨hf,?_⟩
 unfold zzS at he
 split at he<;>try contradiction
 ·cases he
  have r0:=hr 0 (by simp)
  rw [us1 (us:=us) (by simpa using hsz)]
  simp only [List.getElem_cons_zero] at r0
  generalize us.getD 0 undef=u at r0
  cases r0
  refine (h0 _ _ w).mono fun e w' ⟨h1,h2⟩=>?_
  subst h2
  exact ⟨M,ν,⟨_,h1,.tup rfl fun i hi=>by simp at hi⟩,.refl hh⟩
 ·rename_i id off len tot
  split at he<;>try contradiction
  rename_i xs hx
  split at he<;>try contradiction
  rename_i hc
  obtain ⟨rfl,rfl,hlen,hbig⟩:=hc
  split at he<;>try contradiction
  rename_i zs hz
  cases he
  have:=zxP hz
  subst this
  rw [List.length_map] at hlen
  have r0:=hr 0 (by simp)
  rw [us1 (us:=us) (by simpa using hsz)]
  simp only [List.getElem_cons_zero] at r0
  obtain ⟨L,a,cap,hL,hd,hu,hcap,-,hlt,ha,hH⟩:=zzF hh hx hlen r0
  rw [hu]
  rcases Nat.eq_zero_or_pos len with hn|hn
  ·subst hn
   have hz0:zs=[]:=List.eq_nil_of_length_eq_zero hlen
   subst hz0
   refine (h0 _ _ w).mono fun e w' ⟨h1,h2⟩=>?_
   subst h2
   have e1:h.set id (.row 1 ((zor []).map (V.int .i64)))=h:=by
    obtain ⟨hid,e⟩:=List.getElem?_eq_some_iff.1 hx
    refine List.ext_getElem? fun i=>?_
    by_cases hi:id=i
    ·subst hi;rw [List.getElem?_set_self hid,hx];rfl
    ·rw [List.getElem?_set_ne hi]
   rw [e1]
   exact ⟨M,ν,⟨_,h1,.tup rfl fun i hi=>by simp at hi⟩,.refl hh⟩
  ·rw [ha hn,←hlen]
   refine (hs L.b 0 cap zs w hH hlt (by omega)).mono fun e w' ⟨h1,m,os,h2⟩=>?_
   rw [zwy] at h2
   subst h2
   have hs1:(zor zs).toArray.size=zs.toArray.size:=by simp [zfF]
   have hH1:=holds_putRow (Value.int .i64) (Sort.ahead w m) L.b 0 zs.toArray (zor zs).toArray (holds_ahead _ w m L.b 0 _ hH) hs1
   have hg:∀ k,k<w.heap.size→(grow (putRow (Value.int .i64) (Sort.ahead w m) L.b 0 (zor zs).toArray) os).heap[k]? = (putRow (Value.int .i64) (Sort.ahead w m) L.b 0 (zor zs).toArray).heap[k]?:=fun k hk=>by
    simp only [grow]
    rw [Array.getElem?_append_left (by rw [size_putRow];exact hk)]
   refine ⟨M,ν,⟨_,h1,.tup rfl fun i hi=>by simp at hi⟩,zCz hh hx hL hd (by rw [zfF,List.length_map]) (fun k hk hne=>?_) ?_ ?_ (fun b hb=>?_) (fun i hi=>?_) rfl rfl rfl⟩
   ·rw [hg k hk]
    simp only [putRow,mapBlock,Array.getElem?_modify]
    rw [if_neg (Ne.symm hne)]
    rfl
   ·simp only [grow,Array.size_append,size_putRow]
    exact Nat.le_add_right _ _
   ·have:∀ w1 w2:World,w1.heap[L.b]? = w2.heap[L.b]? → w1.shape? L.b=w2.shape? L.b:=fun w1 w2 e=>by unfold World.shape?;rw [e]
    rw [this _ _ (hg L.b hlt)]
    exact (ztz _ _ _ _ fun c=>zuZ _ _ _ _).trans rfl
   ·have:∀ w1 w2:World,w1.heap[L.b]? = w2.heap[L.b]? → w1.frozen? b=w2.frozen? b:=fun w1 w2 e=>by unfold World.frozen?;rw [hb,e]
    rw [this _ _ (hg L.b hlt),frozen?_putRow]
    rfl
   ·have:∀ w1 w2:World,w1.heap[L.b]? = w2.heap[L.b]? → w1.cell? ⟨L.b,i,none⟩=w2.cell? ⟨L.b,i,none⟩:=fun w1 w2 e=>World.cell?_of_block (w:=w2) e
    rw [this _ _ (hg L.b hlt)]
    exact ztw hH1 i hi
end Go.RR
namespace Go.RR
theorem zlr {n:Int} (h0:0≤n) (h1:n≤18446744073709551615):IntKind.u64.wrap n=n:=by
 unfold IntKind.wrap
 simp [IntKind.bits,IntKind.signed]
 omega
theorem acw_H {C:Cx} {f:Nat} {args:List V} {h:List Ob} {r:Out×List Ob} (hF:C.T f=none) (hH:C.H f args h=some r):acw C f args h=some r:=by
 rw [zrU];unfold zm7;simp only [hF,hH]
theorem zbj {nid id z b n m:Nat} {h:List Ob} {y:V} {xs ys:List V} (hx:h[id]? = some (.row z xs)) (hn:n=xs.length) (hy:src h y=some (z,ys)) (h0:ys≠[]) (hm:m=n+ys.length) (h1:m*b≤70368744177664) (h2:m≤70368744177664) :
  zit nid h z b (.own id 0 n n) y=some (.own id 0 m m,some (id,.row z (xs++ys))):=by
 subst hn hm
 unfold zit
 simp only [op1,zrF,hy,if_true,zaF,hx,h0,if_false,Nat.zero_add,true_and,h1,h2,and_self,comb]
theorem zCk {nid z b m:Nat} {h:List Ob} {y:V} {ys:List V} (hy:src h y=some (z,ys)) (h0:ys≠[]) (hm:m=ys.length) (h1:m*b≤70368744177664) (h2:m≤70368744177664) :
  zit nid h z b (.nsl z) y=some (.own nid 0 m m,some (nid,.row z ys)):=by
 subst hm
 unfold zit
 simp only [op1,zrF,hy,if_true,h0,if_false,h1,h2,and_self]
theorem dq_frz {C:Cx} {Y:Yl} {f:Nat} {args a2:List V} {h h2:List Ob} {v:V} (ha:zj4 (h.take 4096) args=some a2) (hd:dataL args=false) (hd2:dataL a2=true) (hk:acw C f a2 []=some (.ret v,h2)) (hv:v.data=true) (hfl:v.flat=true) (r:Option (Out×List Ob)):dq false r (crw C Y) f args h=some (.ret v,h):=by
 show crD (crw C Y) f args h=_
 unfold crD callq
 dsimp only
 rw [if_neg (by rw [hd];simp),ha]
 simp only [cp,hd2,if_true,crw_c,hk,datF,hv,hfl,Option.map_some]
theorem zEp {l:List Int} {n:Int} (h0:0≤n) (h1:n.toNat<l.length):at? (l.map (V.int .i64)) n=some (.int .i64 l[n.toNat]):=by simp [at?,h0,h1]
theorem zum (h:List Ob) (n:Nat) (l:List Int):zdP (frz h (n+1)) (l.map (V.int .i64))=some (l.map (V.int .i64)):=znz fun x hx=>by
 obtain ⟨d,-,rfl⟩:=List.mem_map.1 hx;rfl
@[simp] theorem o_iaa_ptr {nid n sz id a k tot:Nat} {h:List Ob} {kd:IntKind} {m:Int}:opJ nid h (.iaa n sz) [.ptr id a k tot,.int kd m]=if 0≤m∧m<n then ob (zaF h id tot) fun _=>some (.ptr id a (k+m.toNat*sz) tot,none) else none:=by
 simp only [opJ]
 split
 ·cases zaF h id tot<;>rfl
 ·rfl
@[simp] theorem over_int {k:IntKind} {n:Int} {c:V}:over (.int k n) 0 [c]=some c:=rfl
@[simp] theorem over_bool {b:Bool} {c:V}:over (.bool b) 0 [c]=some c:=rfl
@[simp] theorem over_own {a b k d:Nat} {c:V}:over (.own a b k d) 0 [c]=some c:=rfl
@[simp] theorem over_nsl {z:Nat} {c:V}:over (.nsl z) 0 [c]=some c:=rfl
@[simp] theorem over_sl {z:Nat} {xs:List V} {c:V}:over (.sl z xs) 0 [c]=some c:=rfl
@[simp] theorem over_str {s:List UInt8} {c:V}:over (.str s) 0 [c]=some c:=rfl
@[simp] theorem over_ptr {a b k d:Nat} {c:V}:over (.ptr a b k d) 0 [c]=some c:=rfl
@[simp] theorem over_mp {a:Nat} {c:V}:over (.mp a) 0 [c]=some c:=rfl
@[simp] theorem over_fn {f:Fn} {a b:List V} {c:V}:over (.fn f a b) 0 [c]=some c:=rfl
@[simp] theorem at_one {xs:List V}:at? xs 1=xs[1]?:=rfl
@[simp] theorem at_two {xs:List V}:at? xs 2=xs[2]?:=rfl
theorem zkA {h:List Ob} {id n:Nat} {l:List Int} (e:h[id]? = some (.row 1 (l.map (V.int .i64)))) (hn:n=l.length) (k:Nat):frz h (k+2) (.own id 0 n n)=some (zab l):=by
 have:=zmL.frz (B:=0) (h:=h) (v:=.own id 0 n n) (z:=1) (xs:=l.map (V.int .i64)) (k+1) (.own (Nat.zero_le _) (by simpa using hn) e) (zum _ _ _)
 exact this
def mxV (mx:Bool):List V→Option V
 | []=>none
 | v::r=>zAk mx v r
theorem zEi {cr:zaw} {d:Option Nat} {r:List In} {fr:Fr} {h:List Ob} {mx:Bool} {xs:List O}:zak cr (⟨d,none,.mxn mx xs⟩::r) fr h=ob (mxV mx (xs.map (O.ev fr))) fun v=>zak cr r (zdI fr d v) h:=by
 rw [zfn rfl]
 simp only [op1]
 cases xs.map (O.ev fr) with
 | nil=>rfl
 | cons v vs=>
  simp only [mxV]
  cases zAk mx v vs<;>rfl
attribute [simp] zEi
@[simp] theorem mxV_max {k:IntKind} {a b:Int}:mxV true [.int k a,.int k b]=some (.int k (if a<b then b else a)):=by simp [mxV,zAk]
@[simp] theorem mxV_min {k:IntKind} {a b:Int}:mxV false [.int k a,.int k b]=some (.int k (if b<a then b else a)):=by simp [mxV,zAk]
/- Memory that is written no more. -/
def fzP (h:List Ob) (v:V):Option (V×List Ob):=match fzV h v with
 | some (.val v h')=>some (v,h')
 | _=>none
theorem zvL {h:List Ob} {x:V}:∀ v h',fzV h x≠some (.pan v h'):=by
 intro v h' e
 unfold fzV at e
 split at e
 ·split at e<;>cases e
 ·split at e<;>cases e
@[simp] theorem in_fz {cr:zaw} {d:Option Nat} {r:List In} {fr:Fr} {h:List Ob} {x:O}:zak cr (⟨d,none,.fz x⟩::r) fr h=ob (fzP h (x.ev fr)) fun p=>zak cr r (zdI fr d p.1) p.2:=by
 simp only [zak,wanted,step]
 unfold fzP
 cases e:fzV h (x.ev fr) with
 | none=>rfl
 | some s=>
  cases s with
  | val v h'=>rfl
  | pan v h'=>exact absurd e (zvL v h')
@[simp] theorem in_fzd {cr:zaw} {d:Option Nat} {r:List In} {fr:Fr} {h:List Ob} {ag:Bool} {sz:Nat} {x:O}:zak cr (⟨d,none,.fzd ag sz x⟩::r) fr h=ob (ldV h ag sz (x.ev fr)) fun q=>ob (fzP h q.1) fun p=>zak cr r (zdI fr d p.1) p.2:=by
 simp only [zak,wanted,step]
 have e0:op1 h.length fr h (.ld ag sz x)=ldV h ag sz (x.ev fr):=rfl
 rw [e0]
 cases ldV h ag sz (x.ev fr) with
 | none=>rfl
 | some q=>
  obtain ⟨v,wv⟩:=q
  simp only [ob]
  unfold fzP
  cases e:fzV h v with
  | none=>rfl
  | some s=>
   cases s with
   | val v h'=>rfl
   | pan v h'=>exact absurd e (zvL v h')
@[simp] theorem fzP_agg {h:List Ob} {xs:List V}:fzP h (.agg xs)=ob (fzL h xs) fun p=>some (.agg p.1,p.2):=by
 have e:fzV h (.agg xs)=match fzL h xs with
   | some (ys,h')=>some (.val (.agg ys) h')
   | none=>none:=rfl
 unfold fzP
 rw [e]
 cases fzL h xs with
 | none=>rfl
 | some p=>obtain ⟨ys,h'⟩:=p;rfl
@[simp] theorem fzL_nil {h:List Ob}:fzL h []=some ([],h):=by unfold fzL;rfl
@[simp] theorem fzL_cons {h:List Ob} {x:V} {r:List V}:fzL h (x::r)=ob (fz1 h x) fun p=>ob (fzL p.2 r) fun q=>some (p.1::q.1,q.2):=by
 rw [fzL]
 cases fz1 h x with
 | none=>rfl
 | some p=>
  obtain ⟨y,h1⟩:=p
  simp only [ob]
  cases fzL h1 r<;>rfl
@[simp] theorem fz1_int {h:List Ob} {k:IntKind} {n:Int}:fz1 h (.int k n)=some (.int k n,h):=rfl
@[simp] theorem fz1_bool {h:List Ob} {b:Bool}:fz1 h (.bool b)=some (.bool b,h):=rfl
@[simp] theorem fz1_str {h:List Ob} {s:List UInt8}:fz1 h (.str s)=some (.str s,h):=rfl
@[simp] theorem fz1_nsl {h:List Ob} {z:Nat}:fz1 h (.nsl z)=some (.nsl z,h):=rfl
@[simp] theorem fz1_sl {h:List Ob} {z:Nat} {xs:List V}:fz1 h (.sl z xs)=some (.sl z xs,h):=rfl
/- Loops over functions. -/
def zAe (y:Nat) (r:Option Rs):Option (Out×List Ob):=match r with
 | some (x,_,h2)=>match h2[y]? with
  | some (.lp .bsy)=>match x with
   | .nrm=>some (.ret (.bool true),h2.set y (.lp .rdy))
   | .ret=>some (.ret (.bool false),h2.set y (.lp (.fin .ret)))
   | .ext id=>some (.ret (.bool false),h2.set y (.lp (.fin (.ext id))))
   | .gto l=>some (.ret (.bool false),h2.set y (.lp (.fin (.gto l))))
   | .pan _=>none
  | _=>none
 | none=>none
@[congr] theorem zE0 {y:Nat} {r r':Option Rs} (h:r=r') {mz:Nat} (_:mod0=mz):zAe y r=zAe y r':=by rw [h]
@[simp] theorem rndB_nrm {y:Nat} {fr:Fr} {h:List Ob} (e:h[y]? = some (.lp .bsy)):zAe y (some (.nrm,fr,h))=some (.ret (.bool true),h.set y (.lp .rdy)):=by simp only [zAe,e]
@[simp] theorem rndB_ret {y:Nat} {fr:Fr} {h:List Ob} (e:h[y]? = some (.lp .bsy)):zAe y (some (.ret,fr,h))=some (.ret (.bool false),h.set y (.lp (.fin .ret))):=by simp only [zAe,e]
@[simp] theorem rndB_ext {y id:Nat} {fr:Fr} {h:List Ob} (e:h[y]? = some (.lp .bsy)):zAe y (some (.ext id,fr,h))=some (.ret (.bool false),h.set y (.lp (.fin (.ext id)))):=by simp only [zAe,e]
def zFa (eb:Fr→List Ob→Option Rs) (y:Nat) (r:Option Rs):Option (Out×List Ob):=match r with
 | some (.nrm,fr1,h1)=>match h1[y]? with
  | some (.lp .rdy)=>zAe y (eb fr1 (h1.set y (.lp .bsy)))
  | _=>none
 | _=>none
@[congr] theorem zE2 {eb:Fr→List Ob→Option Rs} {y:Nat} {r r':Option Rs} (h:r=r') {mz:Nat} (_:mod0=mz):zFa eb y r=zFa eb y r':=by rw [h]
@[simp] theorem rndA_nrm {eb:Fr→List Ob→Option Rs} {y:Nat} {fr:Fr} {h:List Ob} (e:h[y]? = some (.lp .rdy)):zFa eb y (some (.nrm,fr,h))=zAe y (eb fr (h.set y (.lp .bsy))):=by simp only [zFa,e]
@[simp] theorem rnd_mp {ea eb:Fr→List Ob→Option Rs} {y:Nat} {ps:List Nat} {fr:Fr} {vs:List V} {h:List Ob} (e:h[y]? = some (.lp .rdy)) (hl:vs.length=ps.length):rnd ea eb y ps fr (.mp y::vs) h=zFa eb y (ea (zrx ps vs fr) h):=by
 simp only [rnd,hl,and_self,if_true,e]
 unfold zFa zAe
 cases ea (zrx ps vs fr) h with
 | none=>rfl
 | some r=>
  obtain ⟨x,fr1,h1⟩:=r
  cases x with
  | nrm=>
   simp only
   cases h1[y]? with
   | none=>rfl
   | some o=>
    cases o with
    | lp s=>
     cases s with
     | rdy=>rfl
     | _=>rfl
    | _=>rfl
  | _=>rfl
@[simp] theorem bindP_nil {vs:List V} {fr:Fr}:zrx [] vs fr=fr:=by cases vs<;>rfl
@[simp] theorem zE7 {t:Nat} {ps:List Nat} {v:V} {vs:List V} {fr:Fr}:zrx (t::ps) (v::vs) fr=zrx ps vs ((t,v)::fr):=rfl
def rfE (y:Nat) (fr:Fr) (r:Option (Out×List Ob)):Option Rs:=match r with
 | some (.ret _,h')=>match h'[y]? with
  | some (.lp .rdy)=>some (.nrm,fr,h'.set y .dead)
  | some (.lp (.fin j))=>some (j.x,fr,h'.set y .dead)
  | _=>none
 | _=>none
@[congr] theorem rfE_congr {y:Nat} {fr:Fr} {r r':Option (Out×List Ob)} (h:r=r') {mz:Nat} (_:mod0=mz):rfE y fr r=rfE y fr r':=by rw [h]
@[simp] theorem rfE_rdy {y:Nat} {fr:Fr} {v:V} {h:List Ob} (e:h[y]? = some (.lp .rdy)):rfE y fr (some (.ret v,h))=some (.nrm,fr,h.set y .dead):=by simp only [rfE,e]
attribute [simp] w_rf
@[simp] theorem rfW_fn {C:Cx} {Y:Yl} {g:Nat} {cap:List V} {ps:List Nat} {a b:IR} {fr:Fr} {h:List Ob}:rfW C Y (.fn (.func g) [] cap) ps a b fr h=rfE h.length fr (itw C (rnd (evw C Y a) (evw C Y b) h.length ps fr) g (.mp h.length::cap) (h++[.lp .rdy])):=rfl
theorem itw_T {C:Cx} {Y:Yl} {f:Nat} {F:F} {a:List V} {h:List Ob} (hF:C.T f=some F):itw C Y f a h=zpt (evw C Y) F a h:=by
 rw [zEU];unfold itW;simp only [hF]
end Go.RR
