/- The second reading of code: code, calls and functions are read as they run. -/
import Derived.Test.YtlligemlmccfnaaGreatDoorR2
import Derived.Scope
import Derived.RangeFuncNested
import Derived.OrdersIn
import Derived.LoopNIn
import Derived.Orders
import Derived.LoopN
import Derived.Below
set_option linter.unusedSimpArgs false
set_option linter.unusedVariables false
namespace Go.RR
open Go.RowKit
variable {P:Program}
theorem zht {α β:Type} {f:α→Option β}:∀ {xs:List α} {ys:List β},zdP f xs=some ys→ys.length=xs.length∧∀ i (hi:i<xs.length) (hi':i<ys.length),f xs[i]=some ys[i]
 | [],ys,h=>by
  simp only [zdP] at h
  cases h
  exact ⟨rfl,fun i hi=>by simp at hi⟩
 | x::r,ys,h=>by
  unfold zdP at h
  split at h<;>try contradiction
  rename_i y hy
  split at h<;>try contradiction
  rename_i s hs
  cases h
  obtain ⟨h1,h2⟩:=zht hs
  refine ⟨by simp [h1],fun i hi hi'=>?_⟩
  cases i with
  | zero=>exact hy
  | succ i=>
   simp only [List.getElem_cons_succ]
   exact h2 i (by simpa using hi) (by simpa using hi')
theorem zlU {h:List Ob} {n:Nat} {v v':V} (e:frz h n v=some v'):(v.one=true→v'.one=true)∧(v≠.und→v'≠.und)∧((∀ ys,v≠.tup ys)→∀ ys,v'≠.tup ys):=by
 cases n with
 | zero=>simp [frz] at e
 | succ n=>
  cases v<;>simp only [frz,Option.map_eq_some_iff,Option.some.injEq,reduceCtorEq] at e
  case agg xs=>obtain ⟨ys,_,rfl⟩:=e;simp [V.one]
  case tup xs=>obtain ⟨ys,_,rfl⟩:=e;simp [V.one]
  case fn f x y=>
   split at e<;>try contradiction
   cases e
   simp [V.one]
  case ifc t v=>obtain ⟨ys,_,rfl⟩:=e;simp [V.one]
  case own id off len tot=>
   split at e<;>try contradiction
   obtain ⟨ys,_,rfl⟩:=Option.map_eq_some_iff.1 e
   simp [V.one]
  case ptr id i k tot=>
   split at e<;>try contradiction
   split at e<;>try contradiction
   obtain ⟨ys,_,rfl⟩:=Option.map_eq_some_iff.1 e
   simp [V.one]
  all_goals
   subst e
   simp [V.one]
theorem zgm:∀ {xs:List V},dataL xs=true→∀ i (hi:i<xs.length),xs[i].data=true
 | x::r,hd,0,_=>by simp [dataL] at hd;exact hd.1
 | x::r,hd,i+1,hi=>by
  simp [dataL] at hd
  simpa using zgm hd.2 i (by simpa using hi)
theorem zeO {w:World} {M M1:Nat→Prop} {ν:Nu} {h:List Ob} (hh:HR w M ν h) (hM:∀ b,M b→M1 b):∀ (n:Nat) {v v':V} {u:Value},(v.data=true∨∀ b,Mine ν h b→M1 b)→Rel w M ν v u→frz h n v=some v'→Rel w M1 nu0 v' u
 | 0,v,v',u,_,_,e=>by simp [frz] at e
 | n+1,v,v',u,hd,hr,e=>by
  have ih:=fun {v v' u}=>zeO hh hM n (v:=v) (v':=v') (u:=u)
  have up:∀ {ν ν':Nu} {v u},ν.le ν'→Rel w M ν v u→Rel w M1 ν' v u:=fun hn hv=>hv.mono (fun _ _=>rfl) hM hn
  cases hr with
  | int=>simp only [frz] at e;cases e;exact .int
  | bool=>simp only [frz] at e;cases e;exact .bool
  | str=>simp only [frz] at e;cases e;exact .str
  | agg hl h1 hr=>
   simp only [frz,Option.map_eq_some_iff] at e
   obtain ⟨ys,e,rfl⟩:=e
   obtain ⟨k1,k2⟩:=zht e
   refine .agg (by rw [k1];exact hl) (fun x hx=>?_) fun i hi=>?_
   ·obtain ⟨i,hi,rfl⟩:=List.getElem_of_mem hx
    have hi':=hi
    rw [k1] at hi'
    exact (zlU (k2 i hi' hi)).1 (h1 _ (List.getElem_mem _))
   ·have hi':=hi
    rw [k1] at hi'
    exact ih (hd.imp (fun hd=>zgm (by simpa [V.data] using hd) i hi') id) (hr i hi') (k2 i hi' hi)
  | tup hl hr=>
   simp only [frz,Option.map_eq_some_iff] at e
   obtain ⟨ys,e,rfl⟩:=e
   obtain ⟨k1,k2⟩:=zht e
   refine .tup (by rw [k1];exact hl) fun i hi=>?_
   have hi':=hi
   rw [k1] at hi'
   exact ih (hd.imp (fun hd=>zgm (by simpa [V.data] using hd) i hi') id) (hr i hi') (k2 i hi' hi)
  | sl0=>simp only [frz] at e;cases e;exact .sl0
  | sl rd a1 a2 a3 a4 a5 a6 a7=>simp only [frz] at e;cases e;exact .sl rd a1 (hM _ a2) a3 (fun i hi=>up (Nu.le_refl _) (a4 i hi)) a5 a6 a7
  | nsl=>simp only [frz] at e;cases e;exact .sl0
  | pin a1 a2 a3 a4=>simp only [frz] at e;cases e;exact .pin (hM _ a1) (up (Nu.le_refl _) a2) a3 a4
  | nilp=>simp only [frz] at e;cases e;exact .nilp
  | fn hl hr kl kr=>
   simp only [frz] at e
   split at e<;>try contradiction
   rename_i p q e1 e2
   cases e
   obtain ⟨k1,k2⟩:=zht e1
   obtain ⟨m1,m2⟩:=zht e2
   refine .fn (by rw [k1];exact hl) (fun i hi=>?_) (by rw [m1];exact kl) fun i hi=>?_
   ·have hi':=hi
    rw [k1] at hi'
    exact ih (hd.imp (fun hd=>zgm (by simp [V.data] at hd;exact hd.1) i hi') id) (hr i hi') (k2 i hi' hi)
   ·have hi':=hi
    rw [m1] at hi'
    exact ih (hd.imp (fun hd=>zgm (by simp [V.data] at hd;exact hd.2) i hi') id) (kr i hi') (m2 i hi' hi)
  | nilf=>simp only [frz] at e;cases e;exact .nilf
  | ifc hr=>
   simp only [frz,Option.map_eq_some_iff] at e
   obtain ⟨ys,e,rfl⟩:=e
   exact .ifc (ih (hd.imp (fun hd=>by simpa [V.data] using hd) id) hr e)
  | nili=>simp only [frz] at e;cases e;exact .nili
  | own hv ht h1 hO=>
   rename_i id off len tot L
   simp only [frz] at e
   split at e<;>try contradiction
   rename_i z xs he
   simp only [Option.map_eq_some_iff] at e
   obtain ⟨ys,e,rfl⟩:=e
   rcases hd with hd|hd
   ·simp [V.data] at hd
   obtain ⟨k1,k2⟩:=zht e
   obtain ⟨ad,c,hu,hc,hm⟩:=zfj hh (.own hv ht h1 hO) he
   subst hu
   by_cases hx:xs=[]
   ·subst hx
    have:ys=[]:=List.length_eq_zero_iff.1 k1
    subst this
    exact .sl0
   ·obtain ⟨hz,b,q,rfl,hel⟩:=hm hx
    have hb:M1 b:=by
     apply hd
     simp only [elems] at he
     split at he<;>try contradiction
     rename_i z' xs' hr'
     cases he
     obtain ⟨L',hL',ht',hrow,hlen,hd',hv0,hle2,hcap,ad',hu',had⟩:=(Rel.own hv ht h1 hO:Rel w M ν (.own id off len tot) _).own_inv hh hr'
     have hpos:0<((xs'.drop off).take len).length:=List.length_pos_iff.2 hx
     have:(⟨b,q,none⟩:Addr)=⟨L'.b,(off-L'.d)*L'.sz,none⟩:=by
      injection hu' with q1 q2 q3
      have:=had (by simp at hpos;omega)
      rw [←q1] at this
      exact Option.some.inj this
     obtain ⟨hid,he',_⟩:=zhQ hh hr'
     exact ⟨id,hid,by rw [he'];rfl,L',hL',by cases this;rfl⟩
    have hrd:∀ i (hi:i<xs.length),∃ u,Rel w M1 nu0 (ys[i]'(by rw [k1];exact hi)) u∧u.cells.size=z∧∀ k,k<z→w.cell? ⟨b,q+i*z+k,none⟩=u.cells[k]?:=fun i hi=>by
     obtain ⟨g1,g2,u,g3,g4,g5⟩:=hel i hi
     exact ⟨u,ih (.inr hd) g3 (k2 i hi (by rw [k1];exact hi)),g4,g5⟩
    rw [←k1]
    refine .sl (fun i=>if hi:i<xs.length then (hrd i hi).choose else undef) (by omega) hb hz (fun i hi=>?_) (fun x hx=>?_) (fun i hi=>?_) (fun i hi k hk=>?_)
    ·have hi':=hi
     rw [k1] at hi'
     simp only [hi',dif_pos]
     exact (hrd i hi').choose_spec.1
    ·obtain ⟨i,hi,rfl⟩:=List.getElem_of_mem hx
     have hi':=hi
     rw [k1] at hi'
     obtain ⟨g1,g2,_⟩:=hel i hi'
     exact ⟨(zlU (k2 i hi' hi)).2.1 g1,(zlU (k2 i hi' hi)).2.2 g2⟩
    ·rw [k1] at hi
     simp only [hi,dif_pos]
     exact (hrd i hi).choose_spec.2.1
    ·rw [k1] at hi
     simp only [hi,dif_pos]
     exact (hrd i hi).choose_spec.2.2 k hk
  | ptr hv ht h1 hO=>
   rename_i id i k tot L
   simp only [frz] at e
   split at e<;>try contradiction
   rename_i z xs hr'
   split at e<;>try contradiction
   rename_i x hx
   simp only [Option.map_eq_some_iff] at e
   obtain ⟨y,e,rfl⟩:=e
   rcases hd with hd|hd
   ·simp [V.data] at hd
   obtain ⟨L',hL',ht',hrow,hlen,hd',hv0,hlt,rfl⟩:=(Rel.ptr hv ht h1 hO:Rel w M ν (.ptr id i k tot) _).ptr_inv hh hr'
   obtain ⟨hid,he',_⟩:=zhQ hh hr'
   obtain ⟨hi,rfl⟩:=List.getElem?_eq_some_iff.1 hx
   obtain ⟨g1,g2,u,g3,g4,g5⟩:=hrow.el i hi hv0
   exact .pin (hd _ ⟨id,hid,by rw [he'];rfl,L',hL',rfl⟩) (ih (.inr hd) g3 e) ⟨(zlU e).2.1 g1,(zlU e).2.2 g2⟩ (fun j hj=>g5 j (by omega))
  | mp=>simp only [frz] at e;cases e
  | nmp=>simp only [frz] at e;cases e;exact .nmp
  | und=>simp only [frz] at e;cases e
structure YX where
 y:Option (Nat×Lc)
 X:World→(Nat→Prop)→Nu→Prop
 st:∀ (w w':World) (M M':Nat→Prop) (ν ν':Nu),(∀ b,M b→w'.heap[b]? = w.heap[b]?)→(∀ b,M b→M' b)→ν.le ν'→X w M ν→X w' M' ν'
def YX.no:YX:=⟨none,fun _ _ _=>True,fun _ _ _ _ _ _ _ _ _ _=>trivial⟩
structure GW where
 G:World→Prop
 B:Nat
 st:∀ w w':World,(∀ k,k<B→w'.heap[k]? = w.heap[k]?)→G w→G w'
 yl:YX:=YX.no
def GW.at (g:GW) (e:YX):GW:={ g with yl:=e }
def Inv (g:GW) (w:World) (M:Nat→Prop) (ν:Nu):Prop:=g.G w∧(∀ k,k<g.B→M k)∧g.yl.X w M ν
theorem Inv.step {g:GW} {w w':World} {M M':Nat→Prop} {ν ν':Nu} (hi:Inv g w M ν) (hw:∀ b,M b→w'.heap[b]? = w.heap[b]?) (hM:∀ b,M b→M' b) (hn:ν.le ν'):Inv g w' M' ν':=
 ⟨g.st w w' (fun k hk=>hw k (hi.2.1 k hk)) hi.1,fun k hk=>hM k (hi.2.1 k hk),g.yl.st _ _ _ _ _ _ hw hM hn hi.2.2⟩
theorem Inv.base {g:GW} {w:World} {M:Nat→Prop} {ν ν':Nu} (hi:Inv g w M ν):Inv (g.at .no) w M ν':=⟨hi.1,hi.2.1,trivial⟩
abbrev FW (ρ:Option Nat):Fence:={ Fence.wide with round:=ρ }
def Oper.wpR (ρ:Option Nat) (P:Program) (o:Oper) (a:Act) (w:World) (K:Act→World→Prop) (Q:Exit→Act→World→Prop):Prop:=o.uponIn (FW ρ) 0 P a K Q ((execOp a.eval o).run P w)
theorem Oper.wpR_in {ρ:Option Nat} {P:Program} {o:Oper} {a:Act} {w:World} {K:Act→World→Prop} {Q:Exit→Act→World→Prop} (hnd:∀ c,o.op≠.defer c) (h:Oper.wpR ρ P o a w K Q):o.wpIn (FW ρ) 0 P a w K Q:=by
 refine ⟨fun _ _=>trivial,?_⟩
 rw [Oper.semAt_eq _ _ _ hnd]
 exact h
theorem zCW {ρ:Option Nat} {P:Program} {f:FuncId} {us:Array Value} {w:World} {R:Ending→World→Prop} (h:Calls P f us w R):CallsIn (FW ρ) 0 P f us w R:=by
 have:=(callsIn_wide (n:=0)).2 h
 cases ρ with
 | none=>exact this
 | some l=>exact this.inRound l
theorem Oper.wpR_enter {ρ:Option Nat} {P:Program} {o:Oper} {a:Act} {w:World} {K:Act→World→Prop} {Q:Exit→Act→World→Prop} {f:FuncId} {us:Array Value} (e:(execOp a.eval o).run P w=.ok (.enter f us) w) (h:Calls P f us w fun
  | .returned v,w''=>K (a.put o.dst v) w''
  | .panicked chain,w''=>Q (.panic chain) a w''
  | .outgrown,_=>LetsOut Q):Oper.wpR ρ P o a w K Q:=by
 unfold Oper.wpR
 rw [e,Oper.uponIn_enter]
 exact ⟨fun hd=>(by cases hd),zCW h⟩
theorem Oper.wpR_value {ρ:Option Nat} {P:Program} {o:Oper} {a:Act} {w w':World} {K:Act→World→Prop} {Q:Exit→Act→World→Prop} {v:Value} (e:(execOp a.eval o).run P w=.ok (.value v) w') (h:K (a.put o.dst v) w'):Oper.wpR ρ P o a w K Q:=by
 unfold Oper.wpR
 rw [e,Oper.uponIn_value]
 exact h
theorem Oper.wpR_skip {ρ:Option Nat} {P:Program} {o:Oper} {a:Act} {w w':World} {K:Act→World→Prop} {Q:Exit→Act→World→Prop} (e:(execOp a.eval o).run P w=.ok .skip w') (h:K (a.put o.dst undef) w'):Oper.wpR ρ P o a w K Q:=by
 unfold Oper.wpR
 rw [e,Oper.uponIn_skip]
 exact h
theorem Oper.wpR_panic {ρ:Option Nat} {P:Program} {o:Oper} {a:Act} {w w':World} {K:Act→World→Prop} {Q:Exit→Act→World→Prop} {v:Value} (e:(execOp a.eval o).run P w=.halt (.panic v) w') (h:Q (.panic [{ v,recovered:=false }]) a w'):Oper.wpR ρ P o a w K Q:=by
 unfold Oper.wpR
 rw [e,Oper.uponIn_panic]
 exact h
structure Pst (w:World) (M:Nat→Prop) (ν:Nu) (h:List Ob) (w':World) (M':Nat→Prop) (ν':Nu) (h':List Ob):Prop where
 hr:HR w' M' ν' h'
 hM:∀ b,M b→M' b
 hM':∀ b,M' b→M b∨Mine ν h b∨w.heap.size≤b
 le:ν.le ν'
 stp:Stp w w' (Mine ν h)
 mine:∀ b,Mine ν' h' b→Mine ν h b∨w.heap.size≤b
theorem Mine.lt {w:World} {M:Nat→Prop} {ν:Nu} {h:List Ob} (hh:HR w M ν h) {b:Nat} (hb:Mine ν h b):b<w.heap.size∧¬M b:=by
 obtain ⟨i,hi,hl,L,hL,rfl⟩:=hb
 obtain ⟨L',h1,h2⟩:=hh.ob i hi hl
 rw [hL] at h1
 cases h1
 exact ⟨h2.lt hl,h2.mine hl⟩
theorem Pst.same {w:World} {M:Nat→Prop} {ν:Nu} {h:List Ob} {w':World} {M':Nat→Prop} {ν':Nu} {h':List Ob} (hh:HR w M ν h) (p:Pst w M ν h w' M' ν' h'):∀ b,M b→w'.heap[b]? = w.heap[b]?:=
 fun b hb=>p.stp.block b (hh.lt b hb) fun hm=>(hm.lt hh).2 hb
theorem Pst.refl {w:World} {M:Nat→Prop} {ν:Nu} {h:List Ob} (hh:HR w M ν h):Pst w M ν h w M ν h:=
 ⟨hh,fun _ hb=>hb,fun _ hb=>.inl hb,Nu.le_refl _,Stp.refl _ _,fun _ hb=>.inl hb⟩
theorem Pst.trans {w:World} {M:Nat→Prop} {ν:Nu} {h:List Ob} {w1:World} {M1:Nat→Prop} {ν1:Nu} {h1:List Ob} {w2:World} {M2:Nat→Prop} {ν2:Nu} {h2:List Ob}
  (p:Pst w M ν h w1 M1 ν1 h1) (q:Pst w1 M1 ν1 h1 w2 M2 ν2 h2):Pst w M ν h w2 M2 ν2 h2:=by
 have hs:=p.stp.size
 refine ⟨q.hr,fun b hb=>q.hM b (p.hM b hb),fun b hb=>?_,Nu.le_trans p.le q.le,⟨q.stp.os.trans p.stp.os,q.stp.tape.trans p.stp.tape,q.stp.output.trans p.stp.output,Nat.le_trans hs q.stp.size,fun k hk hm=>?_⟩,fun b hb=>?_⟩
 ·rcases q.hM' b hb with h1|h1|h1
  ·exact p.hM' b h1
  ·exact .inr (p.mine b h1)
  ·exact .inr (.inr (Nat.le_trans hs h1))
 ·rw [q.stp.block k (Nat.lt_of_lt_of_le hk hs) (fun h1=>?_),p.stp.block k hk hm]
  rcases p.mine k h1 with h2|h2
  ·exact hm h2
  ·omega
 ·rcases q.mine b hb with h1|h1
  ·exact p.mine b h1
  ·exact .inr (Nat.le_trans hs h1)
theorem HR.nil {w:World} {M:Nat→Prop} (hlt:∀ b,M b→b<w.heap.size):HR w M nu0 []:=
 ⟨fun i hi=>by simp at hi,fun i j hi=>by simp at hi,fun _ _=>rfl,hlt⟩
theorem Mine.nil {b:Nat}:¬Mine nu0 [] b:=fun ⟨i,hi,_⟩=>by simp at hi
theorem Pst.quiet {w:World} {M:Nat→Prop} {ν:Nu} {h:List Ob} {w':World} {M':Nat→Prop} (hh:HR w M ν h) (hM:∀ b,M b→M' b) (hM':∀ b,M' b→M b∨w.heap.size≤b) (hlt:∀ b,M' b→b<w'.heap.size) (hst:Stp w w' (fun _=>False)):Pst w M ν h w' M' ν h:=by
 have hw:∀ b,b<w.heap.size→w'.heap[b]? = w.heap[b]?:=fun b hb=>hst.block b hb id
 refine ⟨⟨fun i hi hl=>?_,hh.apart,hh.new,hlt⟩,hM,fun b hb=>(hM' b hb).imp _root_.id .inr,Nu.le_refl _,⟨hst.os,hst.tape,hst.output,hst.size,fun k hk _=>hw k hk⟩,fun b hb=>.inl hb⟩
 obtain ⟨L,h1,h2⟩:=hh.ob i hi hl
 exact ⟨L,h1,HOb.mono (fun b hb=>hw b (hh.lt b hb)) hM (Nu.le_refl _) (fun hl=>⟨hw _ (h2.lt hl),fun hb=>by
  rcases hM' _ hb with h3|h3
  ·exact h2.mine hl h3
  ·have:=h2.lt hl;omega⟩) h2⟩
def XR (w:World) (M:Nat→Prop) (ν:Nu):X→Exit→Prop
 | .nrm,e=>e=.normal
 | .ext id,e=>e=.exit id
 | .ret,e=>e=.ret
 | .gto l,e=>e=.goto l
 | .pan v,e=>∃ u,e=.panic [{ v:=u,recovered:=false }]∧Rel w M ν v u
def zE1 (w:World) (M:Nat→Prop) (ν:Nu):Out→Ending→Prop
 | .ret v,e=>∃ u,e=.returned u∧Rel w M ν v u
 | .pan v,e=>∃ u,e=.panicked [{ v:=u,recovered:=false }]∧Rel w M ν v u
def zyg (P:Program) (f:Nat):Prop:=∃ fn,P.funcs[f]? = some fn∧fn.body.isNone=false∧(fn.name == "runtime.NumGoroutine")=false
def zdV (P:Program) (g:GW) (cr:Nat→List V→List Ob→Option (Out×List Ob)):Prop:=∀ f args h out h',cr f args h=some (out,h')→∀ (us:Array Value) w M ν,us.size=args.length→(∀ i (hi:i<args.length),Rel w M ν args[i] (us.getD i undef))→HR w M ν h→Inv g w M ν →
 zyg P f∧Calls P f us w fun e w'=>∃ M' ν',zE1 w' M' ν' out e∧Pst w M ν h w' M' ν' h'
def YOK (P:Program) (g:GW) (Y:Yl):Prop:=∀ args h out h',Y args h=some (out,h')→∃ y L0 vs,g.yl.y=some (y,L0)∧args=.mp y::vs∧∀ (us:Array Value) w M ν,us.size=vs.length→(∀ i (hi:i<vs.length),Rel w M ν vs[i] (us.getD i undef))→HR w M ν h→Inv g w M ν →
 (∀ u,Rel w M ν (.mp y) u→u=.func (.yield L0.b) #[] #[])∧YieldAt Fence.wide 0 P L0.b us w fun e w'=>∃ M' ν',zE1 w' M' ν' out e∧Pst w M ν h w' M' ν' h'
theorem YOK.y0 (P:Program) (g:GW):YOK P g y0:=fun _ _ _ _ he=>by cases he
structure CRok (P:Program) (g:GW) (cr:zaw):Prop where
 c:zdV P (g.at .no) cr.c
 y:YOK P g cr.y
 it:∀ Y e,YOK P (g.at e) Y→zdV P (g.at e) (cr.it Y)
structure ziU (w:World) (M:Nat→Prop) (ν:Nu) (n:Nat) (fr:Fr) (a:Act):Prop where
 fr:FrR w M ν fr a.tmps
 n:n≤a.tmps.size
theorem ziU.put {w:World} {M:Nat→Prop} {ν:Nu} {n:Nat} {fr:Fr} {a:Act} (hf:ziU w M ν n fr a) {d:Option Nat} (hd:∀ t,d=some t→t<n) {v:V} {u:Value} (hv:Rel w M ν v u):ziU w M ν n (zdI fr d v) (a.put d u):=by
 cases d with
 | none=>exact hf
 | some t=>
  have ht:=hd t rfl
  have hn:=hf.n
  refine ⟨fun s=>?_,by simp only [Act.put];simpa using hn⟩
  simp only [zdI,get,Act.put]
  by_cases e:t=s
  ·subst e
   have:t<a.tmps.size:=by omega
   simp [this,hv]
  ·simp only [if_neg e]
   have:=hf.fr s
   simpa [Array.getElem?_setIfInBounds_ne e] using this
theorem ziU.step {w:World} {M:Nat→Prop} {ν:Nu} {h:List Ob} {w':World} {M':Nat→Prop} {ν':Nu} {h':List Ob} {n:Nat} {fr:Fr} {a:Act} (hh:HR w M ν h) (hf:ziU w M ν n fr a) (p:Pst w M ν h w' M' ν' h'):ziU w' M' ν' n fr a:=
 ⟨hf.fr.mono (p.same hh) p.hM p.le,hf.n⟩
theorem Rel.step {w:World} {M:Nat→Prop} {ν:Nu} {h:List Ob} {w':World} {M':Nat→Prop} {ν':Nu} {h':List Ob} {v:V} {u:Value} (hh:HR w M ν h) (hv:Rel w M ν v u) (p:Pst w M ν h w' M' ν' h'):Rel w' M' ν' v u:=
 hv.mono (p.same hh) p.hM p.le
def mG (n:Nat) (ops:Array Oper):Option (Nat×Bool)→Option (Nat×Bool)→Bool
 | none,none=>true
 | some (j,want),some (t,b)=>(ops[j]?).bind (·.dst)==some t&&want==b&&decide (t<n)
 | _,_=>false
def mD (n:Nat):Option Nat→Option Nat→Bool
 | none,none=>true
 | some t,some s=>t==s&&decide (t<n)
 | _,_=>false
def mX (P:Program) (op:Op):I→Bool
 | .call f xs=>match op with
  | .call { callee:=.value (.func g),args:=as,argTypes:=_ }=>g==f&&mOs as.toList xs
  | _=>false
 | .callv x xs=>match op with
  | .call { callee:=.value x',args:=as,argTypes:=_ }=>mO x' x&&mOs as.toList xs
  | _=>false
 | .pan x=>match op with
  | .panic x'=>mO x' x
  | _=>false
 | .bsf z n ps=>mI P op (.bsl z n ps)
 | .fz x=>mI P op (.mov x)
 | .fzd ag sz x=>mI P op (.ld ag sz x)
 | .cx f xs=>match op with
  | .call { callee:=.value (.func g),args:=as,argTypes:=_ }=>g==f&&mOs as.toList xs
  | _=>false
 | i=>mI P op i
def mIn (P:Program) (n:Nat) (ops:Array Oper) (o:Oper) (x:In):Bool:=mD n o.dst x.d&&mG n ops o.guard x.g&&mX P o.op x.i
def zvs (P:Program) (n:Nat) (ops:Array Oper):List Oper→List In→Bool
 | [],[]=>true
 | o::r,x::s=>mIn P n ops o x&&zvs P n ops r s
 | _,_=>false
variable {P:Program} {g:GW} {ρ:Option Nat}
theorem zcu {w:World} {M:Nat→Prop} {ν:Nu} {n:Nat} {fr:Fr} {a:Act} {ops:Array Oper} {o:Oper} {x:Option (Nat×Bool)} (hf:ziU w M ν n fr a) (hm:mG n ops o.guard x=true) {b:Bool} (h:wanted fr x=some b) :
  Region.wanted o (yielded ops a.tmps)=b:=by
 unfold mG at hm
 split at hm
 ·rename_i e
  simp only [wanted] at h
  cases h
  simp [Region.wanted,e]
 ·rename_i j want t b' e
  simp only [Bool.and_eq_true,beq_iff_eq,decide_eq_true_eq] at hm
  obtain ⟨⟨h1,rfl⟩,ht⟩:=hm
  simp only [wanted] at h
  split at h<;>try contradiction
  rotate_left
  ·rename_i l hc
   cases h
   have hr:=hf.fr t
   rw [hc] at hr
   have hn':=hf.n
   have hlt:t<a.tmps.size:=by omega
   generalize hu0:a.tmps.getD t undef=u0 at hr
   cases hr with
   | tup _ _=>
    rename_i vs _ _
    have hu':a.tmps[t]? = some (.tuple vs):=by
     have:a.tmps.getD t undef=a.tmps[t]:=by simp [hlt]
     rw [this] at hu0
     simp [hlt,hu0]
    simp [Region.wanted,e,yielded,h1,hu']
  rename_i c hc
  cases h
  have hr:=hf.fr t
  rw [hc] at hr
  have hn':=hf.n
  have hlt:t<a.tmps.size:=by omega
  have hu:=hr.bool_inv
  have hu':a.tmps[t]? = some (.bool c):=by
   have:a.tmps.getD t undef=a.tmps[t]:=by simp [hlt]
   rw [this] at hu
   simp [hlt,hu]
  simp only [Region.wanted,e,yielded,h1,Option.bind_some,hu']
  cases c<;>cases want<;>rfl
 ·cases hm
theorem zri {n:Nat} {d x:Option Nat} (h:mD n d x=true):d=x∧∀ t,x=some t→t<n:=by
 unfold mD at h
 split at h
 ·exact ⟨rfl,fun t e=>by cases e⟩
 ·rename_i t s
  simp only [Bool.and_eq_true,beq_iff_eq,decide_eq_true_eq] at h
  obtain ⟨rfl,h⟩:=h
  exact ⟨rfl,fun t e=>by cases e;exact h⟩
 ·cases h
def zwh (ρ:Option Nat) (P:Program) (o:Oper) (a:Act) (w:World) (M:Nat→Prop) (ν:Nu) (h:List Ob):St1→(Act→World→Prop)→(Exit→Act→World→Prop)→Prop
 | .val v h',K,Q=>(∀ u w' M' ν',Rel w' M' ν' v u→Pst w M ν h w' M' ν' h'→K (a.put o.dst u) w')→Oper.wpR ρ P o a w K Q
 | .pan v h',K,Q=>(∀ u w' M' ν',Rel w' M' ν' v u→Pst w M ν h w' M' ν' h'→Q (.panic [{ v:=u,recovered:=false }]) a w')→Oper.wpR ρ P o a w K Q
theorem zsr {cr:zaw} (hcr:CRok P g cr) {o:Oper} {a:Act} {w:World} {M:Nat→Prop} {ν:Nu} {h:List Ob} {f:Nat} {args:List V} {us:Array Value} (hsz:us.size=args.length) (hr:∀ i (hi:i<args.length),Rel w M ν args[i] (us.getD i undef)) (hh:HR w M ν h) (hi:Inv g w M ν)
  (hrun:zyg P f→(execOp a.eval o).run P w=.ok (.enter f us) w) {s:St1} (hs:zBn (cr f args h)=some s) {K:Act→World→Prop} {Q:Exit→Act→World→Prop}:zwh ρ P o a w M ν h s K Q:=by
 unfold zBn at hs
 split at hs<;>try contradiction
 ·rename_i v h' e
  cases hs
  obtain ⟨hfn,hc⟩:=hcr.c _ _ _ _ _ e us w M ν hsz hr hh hi.base
  intro hK
  refine Oper.wpR_enter (hrun hfn) (hc.mono fun e' w' ⟨M',ν',ho,p⟩=>?_)
  obtain ⟨u,rfl,hu⟩:=ho
  exact hK u w' M' ν' hu p
 ·rename_i v h' e
  cases hs
  obtain ⟨hfn,hc⟩:=hcr.c _ _ _ _ _ e us w M ν hsz hr hh hi.base
  intro hK
  refine Oper.wpR_enter (hrun hfn) (hc.mono fun e' w' ⟨M',ν',ho,p⟩=>?_)
  obtain ⟨u,rfl,hu⟩:=ho
  exact hK u w' M' ν' hu p
theorem zy7 {cr:zaw} (hcr:CRok P g cr) {o:Oper} {a:Act} {w:World} {M:Nat→Prop} {ν:Nu} {h:List Ob} {y:Nat} {vs:List V} {us:Array Value} (hsz:us.size=vs.length) (hr:∀ i (hi:i<vs.length),Rel w M ν vs[i] (us.getD i undef)) (hh:HR w M ν h) (hi:Inv g w M ν)
  {u:Value} (hu:Rel w M ν (.mp y) u) (hrun:∀ l,u=.func (.yield l) #[] #[]→(execOp a.eval o).run P w=(Instr.yield l us).run P w) {s:St1} (hs:zBn (cr.y (.mp y::vs) h)=some s) {K:Act→World→Prop} {Q:Exit→Act→World→Prop}:zwh ρ P o a w M ν h s K Q:=by
 unfold zBn at hs
 have key:∀ out h',cr.y (.mp y::vs) h=some (out,h')→(∀ e w' M' ν',zE1 w' M' ν' out e→Pst w M ν h w' M' ν' h'→(match e with
   | .returned v=>K (a.put o.dst v) w'
   | .panicked chain=>Q (.panic chain) a w'
   | .outgrown=>LetsOut Q))→Oper.wpR ρ P o a w K Q:=by
  intro out h' e hK
  obtain ⟨y',L0,vs',h1,h2,h3⟩:=hcr.y _ _ _ _ e
  cases h2
  obtain ⟨h4,fn,tmps,as,bd,h5,h6⟩:=h3 us w M ν hsz hr hh hi
  unfold Oper.wpR
  rw [hrun _ (h4 u hu),h5,Oper.uponIn_round]
  refine ⟨fun hd=>(by cases hd),?_⟩
  have h6:RoundIn (FW ρ) 0 P L0.b fn tmps as bd w _:=h6
  refine h6.mono fun e w' ⟨M',ν',ho,p⟩=>?_
  have:=hK e w' M' ν' ho p
  cases e<;>exact this
 split at hs<;>try contradiction
 ·rename_i v h' e
  cases hs
  intro hK
  refine key _ _ e fun e w' M' ν' ho p=>?_
  obtain ⟨u,rfl,hu⟩:=ho
  exact hK u w' M' ν' hu p
 ·rename_i v h' e
  cases hs
  intro hK
  refine key _ _ e fun e w' M' ν' ho p=>?_
  obtain ⟨u,rfl,hu⟩:=ho
  exact hK u w' M' ν' hu p
theorem zft {f:Nat} {us:Array Value} {w:World} (h:zyg P f):(callFunc f us).run P w=.ok (.enter f us) w:=by
 obtain ⟨fn,h1,h2,h3⟩:=h
 simp only [callFunc,Sem.run_bind,run_program,Result.andThen_ok,h1,h2,h3,Bool.false_eq_true,if_false,Sem.run_pure]
theorem zA8 {o:Oper} {z:V} {n:Nat} {ps:List (Nat×O)} {a:Act} {w:World} {M:Nat→Prop} {ν:Nu} {h:List Ob} {fr:Fr} (hm:mI P o.op (.bsl z n ps)=true) (hf:FrR w M ν fr a.tmps) (hh:HR w M ν h) {xs:List V} (hfl:zia (List.replicate n z) (ps.map fun p=>(p.1,p.2.ev fr))=some xs) {v:V} (hv:zii z xs=some v) :
  ∃ u w1 M1,(execOp a.eval o).run P w=.ok (.value u) w1∧Rel w1 M1 ν v u∧Pst w M ν h w1 M1 ν h:=by
 unfold zii at hv
 split at hv<;>try contradiction
 rename_i hdl
 split at hv<;>try contradiction
 rename_i ys hys
 cases hv
 obtain ⟨et,cs',hrun,r2,hlen,h0⟩:=zzG hm hf hfl
 obtain ⟨k1,k2⟩:=zht hys
 have eh:(w.alloc (.cells cs' et)).heap=w.heap.push (.cells cs' et):=rfl
 have hst:Stp w (w.alloc (.cells cs' et)) (fun _=>False):=ziF eh rfl rfl rfl _
 have hnew:=zn4 eh
 refine ⟨.slice (some ⟨w.heap.size,0,none⟩) n n,_,(fun b=>M b∨b=w.heap.size),hrun,?_,Pst.quiet hh (fun b hb=>.inl hb) (fun b hb=>hb.imp _root_.id fun e=>by omega) (fun b hb=>?_) hst⟩
 ·by_cases hk:n=0
  ·subst hk
   have:ys=[]:=List.length_eq_zero_iff.1 (by omega)
   subst this
   exact .sl0
  ·have hrd:∀ i (hi:i<xs.length),∃ u,Rel (w.alloc (.cells cs' et)) (fun b=>M b∨b=w.heap.size) nu0 (ys[i]'(by rw [k1];exact hi)) u∧u.cells.size=z.size∧∀ j,j<z.size→(w.alloc (.cells cs' et)).cell? ⟨w.heap.size,0+i*z.size+j,none⟩=u.cells[j]?:=fun i hi=>by
    obtain ⟨g1,g2,u,g3,g4,g5⟩:=r2.el i hi
    have hz:=zeO (HR.nil hh.lt) (M1:=M) (fun _ hb=>hb) fdepth (.inl (zgm hdl i hi)) (g3.data (zgm hdl i hi) nu0) (k2 i hi (by rw [k1];exact hi))
    refine ⟨u,hz.mono (fun b hb=>hst.block b (hh.lt b hb) _root_.id) (fun b hb=>.inl hb) (Nu.le_refl _),g4,fun j hj=>?_⟩
    simp only [World.cell?,hnew,Nat.zero_add]
    simpa using g5 j hj
   have hlk:ys.length=n:=by omega
   rw [←hlk]
   refine .sl (fun i=>if hi:i<xs.length then (hrd i hi).choose else undef) (Nat.le_refl _) (.inr rfl) h0 (fun i hi=>?_) (fun x hx=>?_) (fun i hi=>?_) (fun i hi j hj=>?_)
   ·have hi':=hi
    rw [k1] at hi'
    simp only [hi',dif_pos]
    exact (hrd i hi').choose_spec.1
   ·obtain ⟨i,hi,rfl⟩:=List.getElem_of_mem hx
    have hi':=hi
    rw [k1] at hi'
    obtain ⟨g1,g2,_⟩:=r2.el i hi'
    exact ⟨(zlU (k2 i hi' hi)).2.1 g1,(zlU (k2 i hi' hi)).2.2 g2⟩
   ·rw [k1] at hi
    simp only [hi,dif_pos]
    exact (hrd i hi).choose_spec.2.1
   ·rw [k1] at hi
    simp only [hi,dif_pos]
    exact (hrd i hi).choose_spec.2.2 j hj
 ·rcases hb with hb|rfl
  ·exact Nat.lt_of_lt_of_le (hh.lt b hb) hst.size
  ·rw [eh];simp
theorem zC7 {w:World} {M M1:Nat→Prop} {ν:Nu} {h:List Ob} (hh:HR w M ν h) (hM:∀ b,M b→M1 b) {id off len tot:Nat} {u:Value} {z:Nat} {xs:List V} (hr:Rel w M ν (.own id off len tot) u) (he:elems h (.own id off len tot)=some (z,xs)) (hd:dataL xs=true)
  (hb1:∀ L,ν id=some L→M1 L.b):Rel w M1 nu0 (.sl z xs) u:=by
 obtain ⟨ad,c,hu,hc,hm⟩:=zfj hh hr he
 subst hu
 by_cases hx:xs=[]
 ·subst hx
  exact .sl0
 ·obtain ⟨hz,b,q,rfl,hel⟩:=hm hx
  have hb:M1 b:=by
   simp only [elems] at he
   split at he<;>try contradiction
   rename_i z' xs' hr'
   cases he
   obtain ⟨L',hL',ht',hrow,hlen,hd',hv0,hle2,hcap,ad',hu',had⟩:=hr.own_inv hh hr'
   have hpos:0<((xs'.drop off).take len).length:=List.length_pos_iff.2 hx
   have:(⟨b,q,none⟩:Addr)=⟨L'.b,(off-L'.d)*L'.sz,none⟩:=by
    injection hu' with q1 q2 q3
    have:=had (by simp at hpos;omega)
    rw [←q1] at this
    exact Option.some.inj this
   cases this
   exact hb1 _ hL'
  have hrd:∀ i (hi:i<xs.length),∃ u,Rel w M1 nu0 xs[i] u∧u.cells.size=z∧∀ k,k<z→w.cell? ⟨b,q+i*z+k,none⟩=u.cells[k]?:=fun i hi=>by
   obtain ⟨g1,g2,u,g3,g4,g5⟩:=hel i hi
   exact ⟨u,(g3.data (zgm hd i hi) nu0).mono (fun _ _=>rfl) hM (Nu.le_refl _),g4,g5⟩
  refine .sl (fun i=>if hi:i<xs.length then (hrd i hi).choose else undef) (by omega) hb hz (fun i hi=>?_) (fun x hx=>?_) (fun i hi=>?_) (fun i hi k hk=>?_)
  ·simp only [hi,dif_pos]
   exact (hrd i hi).choose_spec.1
  ·obtain ⟨i,hi,rfl⟩:=List.getElem_of_mem hx
   obtain ⟨g1,g2,_⟩:=hel i hi
   exact ⟨g1,g2⟩
  ·simp only [hi,dif_pos]
   exact (hrd i hi).choose_spec.2.1
  ·simp only [hi,dif_pos]
   exact (hrd i hi).choose_spec.2.2 k hk
theorem wipe {w:World} {M:Nat→Prop} {ν:Nu} {h:List Ob} (hh:HR w M ν h):Pst w M ν h w (fun b=>M b∨Mine ν h b) ν (h.map fun _=>Ob.dead):=
 ⟨⟨fun i hi hl=>by simp [live] at hl,fun i j hi hj Li Lj hne hli hlj=>by simp [live] at hli,fun i hi=>hh.new i (by simpa using hi),fun b hb=>hb.elim (hh.lt b) fun hb=>(hb.lt hh).1⟩,
  fun _ hb=>.inl hb,fun b hb=>hb.imp _root_.id .inl,Nu.le_refl _,Stp.refl _ _,fun b hb=>by
  obtain ⟨i,hi,hl,_⟩:=hb
  simp [live] at hl⟩
theorem zwq {w:World} {M:Nat→Prop} {ν:Nu} {h:List Ob} (hh:HR w M ν h) {v:V} {u:Value} (hv:Rel w M ν v u) {v2:V} {h2:List Ob} (hs:fz1 h v=some (v2,h2)):∃ M2,Rel w M2 ν v2 u∧Pst w M ν h w M2 ν h2:=by
 unfold fz1 at hs
 split at hs
 ·rename_i id off len tot
  split at hs<;>try contradiction
  rename_i sz xs hrow
  split at hs<;>try contradiction
  rename_i hd
  cases hs
  obtain ⟨hid,hx0,_⟩:=zhQ hh hrow
  have hl:live h[id]=true:=by rw [hx0];rfl
  obtain ⟨L,hL,hO⟩:=hh.ob id hid hl
  refine ⟨fun b=>M b∨b=L.b,?_,⟨⟨fun i hi hli=>?_,fun i j hi hj Li Lj hne hli hlj=>?_,fun i hi=>hh.new i (by simpa using hi),fun b hb=>?_⟩,fun _ hb=>.inl hb,fun b hb=>?_,Nu.le_refl _,Stp.refl _ _,fun b hb=>?_⟩⟩
  ·have:=zC7 hh (M1:=fun b=>M b∨b=L.b) (fun b hb=>.inl hb) hv (z:=sz) (xs:=(xs.drop off).take len) (by simp [elems,hrow]) hd (fun L' hL'=>by rw [hL] at hL';cases hL';exact .inr rfl)
   exact this.mono (fun _ _=>rfl) (fun _ hb=>hb) (zqc ν)
  ·have hi':i<h.length:=by simpa using hi
   by_cases e:i=id
   ·subst e
    simp [live] at hli
   ·rw [List.getElem_set_ne (Ne.symm e)] at hli ⊢
    obtain ⟨L1,k1,k2⟩:=hh.ob i hi' hli
    exact ⟨L1,k1,HOb.mono (fun _ _=>rfl) (fun _ hb=>.inl hb) (Nu.le_refl _) (fun hl1=>⟨rfl,fun hm=>hm.elim (k2.mine hl1) (hh.apart i id hi' hid L1 L e hli hl k1 hL)⟩) k2⟩
  ·have hi':i<h.length:=by simpa using hi
   have hj':j<h.length:=by simpa using hj
   by_cases ei:i=id
   ·subst ei;simp [live] at hli
   by_cases ej:j=id
   ·subst ej;simp [live] at hlj
   rw [List.getElem_set_ne (Ne.symm ei)] at hli
   rw [List.getElem_set_ne (Ne.symm ej)] at hlj
   exact hh.apart i j hi' hj' Li Lj hne hli hlj
  ·rcases hb with hb|rfl
   ·exact hh.lt b hb
   ·exact hO.lt hl
  ·rcases hb with hb|rfl
   ·exact .inl hb
   ·exact .inr (.inl ⟨id,hid,hl,L,hL,rfl⟩)
  ·obtain ⟨i,hi,hli,L1,k1,k2⟩:=hb
   have hi':i<h.length:=by simpa using hi
   by_cases e:i=id
   ·subst e;simp [live] at hli
   ·rw [List.getElem_set_ne (Ne.symm e)] at hli
    exact .inl ⟨i,hi',hli,L1,k1,k2⟩
 ·split at hs<;>try contradiction
  cases hs
  exact ⟨M,hv,.refl hh⟩
theorem zD8 {h h2:List Ob} {v v2:V} (hs:fz1 h v=some (v2,h2)) (h1:v.one=true):v2.one=true:=by
 unfold fz1 at hs
 split at hs
 ·split at hs<;>try contradiction
  split at hs<;>try contradiction
  cases hs
  rfl
 ·split at hs<;>try contradiction
  cases hs
  exact h1
theorem zvA:∀ {xs ys:List V} {w:World} {M:Nat→Prop} {ν:Nu} {h h2:List Ob} {us:Nat→Value},HR w M ν h→(∀ x∈xs,x.one=true)→(∀ i (hi:i<xs.length),Rel w M ν xs[i] (us i))→fzL h xs=some (ys,h2) →
  ∃ M2,ys.length=xs.length∧(∀ x∈ys,x.one=true)∧(∀ i (hi:i<ys.length),Rel w M2 ν ys[i] (us i))∧Pst w M ν h w M2 ν h2
 | [],ys,w,M,ν,h,h2,us,hh,h1,hv,hs=>by
  cases hs
  exact ⟨M,rfl,by simp,fun i hi=>by simp at hi,.refl hh⟩
 | x::r,ys,w,M,ν,h,h2,us,hh,h1,hv,hs=>by
  unfold fzL at hs
  split at hs<;>try contradiction
  rename_i y g1 hx
  split at hs<;>try contradiction
  rename_i zs g2 hr
  cases hs
  obtain ⟨M1,k1,p1⟩:=zwq hh (hv 0 (by simp)) hx
  obtain ⟨M2,l1,l2,l3,p2⟩:=zvA (us:=fun i=>us (i+1)) p1.hr (fun z hz=>h1 z (by simp [hz])) (fun i hi=>(hv (i+1) (by simp;omega)).mono (fun _ _=>rfl) p1.hM (Nu.le_refl _)) hr
  refine ⟨M2,by simp [l1],fun z hz=>?_,fun i hi=>?_,p1.trans p2⟩
  ·rcases List.mem_cons.1 hz with rfl|hz
   ·exact zD8 hx (h1 x (by simp))
   ·exact l2 z hz
  ·cases i with
   | zero=>exact k1.mono (fun _ _=>rfl) p2.hM (Nu.le_refl _)
   | succ i=>exact l3 i (by simpa using hi)
theorem zvv {w:World} {M:Nat→Prop} {ν:Nu} {h:List Ob} (hh:HR w M ν h) {v:V} {u:Value} (hv:Rel w M ν v u) {s:St1} (hs:fzV h v=some s):∃ v2 h2,s=.val v2 h2∧∃ M2,Rel w M2 ν v2 u∧Pst w M ν h w M2 ν h2:=by
 unfold fzV at hs
 split at hs
 ·split at hs<;>try contradiction
  rename_i xs ys g hx
  cases hs
  cases hv with
  | agg hl h1 h2=>
   obtain ⟨M2,l1,l2,l3,p⟩:=zvA hh h1 h2 hx
   exact ⟨_,_,rfl,M2,.agg (by rw [hl,l1]) l2 l3,p⟩
 ·split at hs<;>try contradiction
  rename_i y g hx
  cases hs
  obtain ⟨M2,k,p⟩:=zwq hh hv hx
  exact ⟨_,_,rfl,M2,k,p⟩
theorem zcL {cr:zaw} (hcr:CRok P g cr) {n:Nat} {ops:Array Oper} {o:Oper} {x:In} (hm:mIn P n ops o x=true) {a:Act} {w:World} {M:Nat→Prop} {ν:Nu} {h:List Ob} {fr:Fr} (hf:ziU w M ν n fr a) (hh:HR w M ν h) (hi:Inv g w M ν) {s:St1} (hs:step cr fr h x.i=some s)
  {K:Act→World→Prop} {Q:Exit→Act→World→Prop}:zwh ρ P o a w M ν h s K Q:=by
 simp only [mIn,Bool.and_eq_true] at hm
 obtain ⟨_,hm⟩:=hm
 generalize x.i=i at hm hs
 have plain:(mI P o.op i=true)→(∃ v wv,op1 h.length fr h i=some (v,wv)∧s=.val v (wr h wv))→zwh ρ P o a w M ν h s K Q:=by
  rintro hm ⟨v,wv,he,rfl⟩
  obtain ⟨w',ν',u,hrun,hv,hr',hle,hst,hmine,_⟩:=(zpU (P:=P) i hm hf.fr hh (hh.new _ (Nat.le_refl _)) (Nat.le_refl _) (fun hi=>absurd hi (Nat.lt_irrefl _)) he).ok
  intro hK
  have:=hK u w' M ν' hv ⟨hr',fun _ hb=>hb,fun _ hb=>.inl hb,hle,hst,hmine⟩
  rcases hrun with hrun|⟨hrun,rfl⟩
  ·exact Oper.wpR_value hrun this
  ·exact Oper.wpR_skip hrun this
 have gen:(∀ f xs,i≠.call f xs)→(∀ f xs,i≠.callv f xs)→(∀ x,i≠.pan x)→(∀ z n ps,i≠.bsf z n ps)→(∀ x,i≠.fz x)→(∀ ag sz x,i≠.fzd ag sz x)→(∀ f xs,i≠.cx f xs)→zwh ρ P o a w M ν h s K Q:=by
  intro n1 n2 n3 n4 n5 n6 n7
  refine plain ?_ ?_
  ·cases i<;>first|exact hm|exact absurd rfl (n1 _ _)|exact absurd rfl (n2 _ _)|exact absurd rfl (n3 _)|exact absurd rfl (n4 _ _ _)|exact absurd rfl (n5 _)|exact absurd rfl (n6 _ _ _)|exact absurd rfl (n7 _ _)
  ·have:step cr fr h i=(match op1 h.length fr h i with
    | some (v,w)=>some (.val v (wr h w))
    | none=>none):=by
    cases i<;>first|rfl|exact absurd rfl (n1 _ _)|exact absurd rfl (n2 _ _)|exact absurd rfl (n3 _)|exact absurd rfl (n4 _ _ _)|exact absurd rfl (n5 _)|exact absurd rfl (n6 _ _ _)|exact absurd rfl (n7 _ _)
   rw [this] at hs
   split at hs<;>try contradiction
   rename_i v wv e
   cases hs
   exact ⟨v,wv,e,rfl⟩
 cases i
 case call f xs=>
  simp only [mX] at hm
  split at hm<;>try contradiction
  rename_i g' as ts e
  simp only [Bool.and_eq_true,beq_iff_eq] at hm
  obtain ⟨rfl,hx⟩:=hm
  obtain ⟨k1,k2⟩:=zic hf.fr hx
  simp only [step] at hs
  refine zsr hcr (us:=as.map a.eval) (by simpa using k1) (fun i hi=>?_) hh hi (fun hfn=>?_) hs
  ·have:=k2 i (by simpa using hi)
   simpa using this
  ·have:=zft (us:=as.map a.eval) (w:=w) hfn
   simp [execOp,e,resolve,invoke,Act.eval,Deferred.ofValue]
   simpa [Act.eval] using this
 case cx f xs=>
  simp only [mX] at hm
  split at hm<;>try contradiction
  rename_i g' as ts e
  simp only [Bool.and_eq_true,beq_iff_eq] at hm
  obtain ⟨rfl,hx⟩:=hm
  obtain ⟨k1,k2⟩:=zic hf.fr hx
  simp only [step] at hs
  split at hs<;>try contradiction
  rename_i ys hys
  have p1:=wipe hh
  obtain ⟨l1,l2⟩:=zht hys
  have k1':as.size=xs.length:=by simpa using k1
  have hl1:ys.length=xs.length:=by rw [l1];simp
  have hstep:=zsr hcr (o:=o) (a:=a) (us:=as.map a.eval) (args:=ys) (by simp;omega) (fun i hi=>by
   have hi':i<xs.length:=by omega
   have h1:=k2 i (by simpa using hi')
   have h2:Rel w M ν (xs.map (O.ev fr))[i] ((as.map a.eval).getD i undef):=by simpa using h1
   exact (zeO hh (M1:=fun b=>M b∨Mine ν h b) (fun _ hb=>.inl hb) fdepth (.inr fun _ hb=>.inr hb) h2 (l2 i (by simpa using hi') hi)).mono (fun _ _=>rfl) (fun _ hb=>hb) (zqc ν)) p1.hr (hi.step (fun _ _=>rfl) p1.hM (Nu.le_refl _)) (fun hfn=>by
   have:=zft (us:=as.map a.eval) (w:=w) hfn
   simp [execOp,e,resolve,invoke,Act.eval,Deferred.ofValue]
   simpa [Act.eval] using this) hs (K:=K) (Q:=Q) (ρ:=ρ)
  cases s with
  | val v h2=>exact fun hK=>hstep fun u w' M' ν' hv p=>hK u w' M' ν' hv (p1.trans p)
  | pan v h2=>exact fun hK=>hstep fun u w' M' ν' hv p=>hK u w' M' ν' hv (p1.trans p)
 case callv y xs=>
  simp only [mX] at hm
  split at hm<;>try contradiction
  rename_i y' as ts e
  simp only [Bool.and_eq_true] at hm
  obtain ⟨hy,hx⟩:=hm
  obtain ⟨k1,k2⟩:=zic hf.fr hx
  have hy:=zaM hf.fr hy
  simp only [step] at hs
  split at hs<;>try contradiction
  rotate_left
  ·rename_i y0 ey
   rw [ey] at hy
   refine zy7 hcr (us:=as.map a.eval) (by simpa using k1) (fun i hi=>?_) hh hi hy (fun l hl=>?_) hs
   ·have:=k2 i (by simpa using hi)
    simpa using this
   ·simp only [execOp,e,resolve,hl,Deferred.ofValue]
    simp only [Sem.run_bind,Sem.run_pure,Result.andThen_ok,invoke]
    simp
  rename_i f first cap ey
  rw [ey] at hy
  generalize hu:a.eval y'=u at hy
  cases hy with
  | fn hl hr kl kr=>
   rename_i vs us
   refine zsr hcr (us:=vs++as.map a.eval++us) (by simp;simp at k1;omega) (fun i hi=>?_) hh hi (fun hfn=>?_) hs
   ·have k1':as.size=xs.length:=by simpa using k1
    rcases Nat.lt_or_ge i first.length with h1|h1
    ·have:=hr i h1
     have h2:i<vs.size:=by omega
     simp only [Array.getD_eq_getD_getElem?] at this ⊢
     rw [List.getElem_append_left (by simp;omega),List.getElem_append_left h1,Array.getElem?_append_left (by simp;omega),Array.getElem?_append_left h2]
     exact this
    ·rcases Nat.lt_or_ge i (first.length+xs.length) with h2|h2
     ·have:=k2 (i-first.length) (by omega)
      simp only [Array.getD_eq_getD_getElem?,List.getD_eq_getElem?_getD] at this ⊢
      rw [List.getElem_append_left (by simp;omega),List.getElem_append_right h1,Array.getElem?_append_left (by simp;omega),Array.getElem?_append_right (by omega),hl]
      simpa using this
     ·have:=kr (i-(first.length+xs.length)) (by simp at hi;omega)
      simp only [Array.getD_eq_getD_getElem?] at this ⊢
      rw [List.getElem_append_right (by simp;omega),Array.getElem?_append_right (by simp;omega)]
      simp only [List.length_append,List.length_map,Array.size_append,Array.size_map,hl,k1']
      exact this
   ·have:=zft (us:=vs++as.map a.eval++us) (w:=w) hfn
    simp only [execOp,e,resolve,hu,Deferred.ofValue]
    simp only [Sem.run_bind,Sem.run_pure,Result.andThen_ok,invoke]
    exact this
 case pan y=>
  simp only [mX] at hm
  split at hm<;>try contradiction
  rename_i y' e
  have hy:=zaM hf.fr hm
  simp only [step] at hs
  split at hs<;>try contradiction
  rename_i hif
  cases hs
  intro hK
  generalize y.ev fr=v at hif hy hK
  generalize hu:a.eval y'=u at hy
  cases v<;>simp only [zER,Bool.false_eq_true] at hif
  cases hy with
  | ifc hv=>
   rename_i t _ u1
   have hrun:(execOp a.eval o).run P w=.halt (.panic (.iface t u1)) w:=by simp [execOp,e,hu,Instr.panic]
   exact Oper.wpR_panic hrun (hK _ w M ν (.ifc hv) (.refl hh))
 case fz y=>
  simp only [mX] at hm
  simp only [step] at hs
  have hv:=zpU (P:=P) (.mov y) hm hf.fr hh (hh.new _ (Nat.le_refl _)) (Nat.le_refl _) (fun hi=>absurd hi (Nat.lt_irrefl _)) (v:=y.ev fr) (wv:=none) rfl
  obtain ⟨w',ν',u,hrun,hv,hr',hle,hst,hmine,_⟩:=hv.ok
  have p1:Pst w M ν h w' M ν' h:=⟨hr',fun _ hb=>hb,fun _ hb=>.inl hb,hle,hst,hmine⟩
  obtain ⟨v2,h2,rfl,M2,hv2,p2⟩:=zvv hr' hv hs
  intro hK
  have:=hK u w' M2 ν' hv2 (p1.trans p2)
  rcases hrun with hrun|⟨hrun,rfl⟩
  ·exact Oper.wpR_value hrun this
  ·exact Oper.wpR_skip hrun this
 case fzd ag sz y=>
  simp only [mX] at hm
  simp only [step] at hs
  cases he:op1 h.length fr h (.ld ag sz y) with
  | none=>rw [he] at hs;cases hs
  | some p=>
   obtain ⟨v0,wv⟩:=p
   rw [he] at hs
   simp only at hs
   have hwv:wv=none:=by
    have q:=he
    simp only [op1] at q
    split at q<;>try contradiction
    ·rename_i x k _
     cases hp:part ag x.cells k sz with
     | none=>rw [hp] at q;cases q
     | some z=>rw [hp] at q;cases q;rfl
    ·split at q<;>try contradiction
     split at q<;>try contradiction
     rename_i x _
     rename_i i0 k0 _ _ _ _ _ _
     first
      | (cases hp:part ag x.cells _ sz with
         | none=>rw [hp] at q;cases q
         | some z=>rw [hp] at q;cases q;rfl)
      | (revert q;cases part ag x.cells _ sz with
         | none=>intro q;cases q
         | some z=>intro q;cases q;rfl)
   subst hwv
   obtain ⟨w',ν',u,hrun,hv,hr',hle,hst,hmine,_⟩:=(zpU (P:=P) (.ld ag sz y) hm hf.fr hh (hh.new _ (Nat.le_refl _)) (Nat.le_refl _) (fun hi=>absurd hi (Nat.lt_irrefl _)) he).ok
   have p1:Pst w M ν h w' M ν' h:=⟨hr',fun _ hb=>hb,fun _ hb=>.inl hb,hle,hst,hmine⟩
   obtain ⟨v2,h2,rfl,M2,hv2,p2⟩:=zvv hr' hv hs
   intro hK
   have:=hK u w' M2 ν' hv2 (p1.trans p2)
   rcases hrun with hrun|⟨hrun,rfl⟩
   ·exact Oper.wpR_value hrun this
   ·exact Oper.wpR_skip hrun this
 case bsf z k ps=>
  simp only [mX] at hm
  simp only [step] at hs
  split at hs<;>try contradiction
  rename_i xs hfl
  obtain ⟨v',hv',e⟩:=Option.map_eq_some_iff.1 hs
  cases e
  obtain ⟨u,w1,M1,hrun,hr,p⟩:=zA8 hm hf.fr hh hfl hv'
  intro hK
  exact Oper.wpR_value hrun (hK u w1 M1 ν hr p)
 all_goals exact gen (by simp) (by simp) (by simp) (by simp) (by simp) (by simp) (by simp)
def last {α:Type} (S:Nat→Bool):Nat→List (Option α)→Option α
 | _,[]=>none
 | k,x::r=>match last S (k+1) r with
  | some a=>some a
  | none=>if S k then x else none
theorem zfy {α:Type} {S T:Nat→Bool}:∀ {l:List (Option α)} {k:Nat},(∀ j a,l[j]? = some (some a)→S (k+j)=T (k+j))→last S k l=last T k l
 | [],_,_=>rfl
 | x::r,k,h=>by
  have ih:last S (k+1) r=last T (k+1) r:=zfy fun j a hj=>by
   have:=h (j+1) a (by simpa using hj)
   rwa [show k+(j+1)=k+1+j by omega] at this
  simp only [last,ih]
  cases last T (k+1) r with
  | some a=>rfl
  | none=>
   cases x with
   | none=>simp
   | some a=>
    have:=h 0 a (by simp)
    simp at this
    simp [this]
theorem zso {α:Type} {S:Nat→Bool}:∀ {l:List (Option α)} {k:Nat},(∀ j a,l[j]? = some (some a)→S (k+j)=false)→last S k l=none
 | [],_,_=>rfl
 | x::r,k,h=>by
  have ih:last S (k+1) r=none:=zso fun j a hj=>by
   have:=h (j+1) a (by simpa using hj)
   rwa [show k+(j+1)=k+1+j by omega] at this
  simp only [last,ih]
  cases x with
  | none=>simp
  | some a=>
   have:=h 0 a (by simp)
   simp at this
   simp [this]
theorem zut {α:Type} {S:Nat→Bool}:∀ {l:List (Option α)} {k i:Nat} {a:α},l[i]? = some (some a)→S (k+i)=true→(∀ j b,i<j→l[j]? = some (some b)→S (k+j)=false)→last S k l=some a
 | [],_,_,_,h,_,_=>by simp at h
 | x::r,k,0,a,h,h1,h2=>by
  have ih:last S (k+1) r=none:=zso fun j b hj=>by
   have:=h2 (j+1) b (by omega) (by simpa using hj)
   rwa [show k+(j+1)=k+1+j by omega] at this
  simp only [List.getElem?_cons_zero,Option.some.injEq] at h
  simp only [Nat.add_zero] at h1
  simp [last,ih,h1,h]
 | x::r,k,i+1,a,h,h1,h2=>by
  have ih:last S (k+1) r=some a:=zut (i:=i) (by simpa using h) (by rwa [show k+1+i=k+(i+1) by omega]) fun j b hj hb=>by
   have:=h2 (j+1) b (by omega) (by simpa using hb)
   rwa [show k+(j+1)=k+1+j by omega] at this
  simp [last,ih]
structure Ev where
 d:Option Nat
 v:V
 w:Option (Nat×Ob)
 rd:List Nat
def slots (E:List Ev) (t:Nat):List (Option V):=E.map fun e=>if e.d=some t then some e.v else none
def heaps (E:List Ev) (id:Nat):List (Option Ob):=E.map fun e=>match e.w with
 | some (i,x)=>if i=id then some x else none
 | none=>none
theorem zbq {h h':List Ob} {id tot:Nat} (e:(h[id]?).getD .dead=(h'[id]?).getD .dead):zaF h id tot=zaF h' id tot:=by
 unfold zaF
 cases e1:h[id]? <;> cases e2:h'[id]? <;> simp only [e1,e2,Option.getD_some,Option.getD_none] at e<;>first|rfl|(subst e;rfl)
theorem zo5 {h h':List Ob} {v:V} (e:∀ id∈ids1 v,(h[id]?).getD .dead=(h'[id]?).getD .dead):elems h v=elems h' v:=by
 cases v<;>simp only [elems]
 rename_i id off len tot
 rw [zbq (e id (by simp [ids1]))]
theorem zAs {h h':List Ob} {v:V} (e:∀ id∈ids1 v,(h[id]?).getD .dead=(h'[id]?).getD .dead):src h v=src h' v:=by
 unfold src
 split
 ·rfl
 ·exact zo5 e
theorem zxa {h h':List Ob} {kd:Nat} {v:V} (e:∀ id∈ids1 v,(h[id]?).getD .dead=(h'[id]?).getD .dead):znc h kd v=znc h' kd v:=by
 unfold znc
 split<;>try rfl
 ·rw [zbq (e _ (by simp [ids1]))]
 ·rename_i id
  have:=e id (by simp [ids1])
  cases e1:h[id]? <;> cases e2:h'[id]? <;> simp only [e1,e2,Option.getD_some,Option.getD_none] at this<;>first|rfl|(subst this;rfl)
theorem zwU {h h':List Ob} {v:V} (e:∀ id∈ids1 v,(h[id]?).getD .dead=(h'[id]?).getD .dead):zgc h v=zgc h' v:=by
 cases v<;>try rfl
 rename_i id
 have e:=e id (by simp [ids1])
 have key:∀ x y:Option Ob,x.getD .dead=y.getD .dead→(match x with
   | some (.map es c)=>some (some (id,es,c))
   | _=>none)=(match y with
   | some (.map es c)=>some (some (id,es,c))
   | _=>(none:Option (Option (Nat×List (V×V×Nat)×Nat)))):=by
  intro x y e
  cases x<;>cases y<;>simp only [Option.getD_some,Option.getD_none] at e<;>first|rfl|(subst e;rfl)
 exact key _ _ e
theorem zA9 {nid:Nat} {h h':List Ob} {j:J} {vs:List V} (e:∀ v∈vs,∀ id∈ids1 v,(h[id]?).getD .dead=(h'[id]?).getD .dead):opJ nid h j vs=opJ nid h' j vs:=by
 have em:∀ m r,vs=m::r→zgc h m=zgc h' m:=fun m r hv=>zwU (e m (by rw [hv];simp))
 cases j
 case iaa n sz=>
  simp only [opJ]
  split<;>try rfl
  rename_i id a k tot i _
  rw [zbq (e _ (List.mem_cons_self ..) id (by simp [ids1]))]
 all_goals first
  | rfl
  | (simp only [opJ]
     split<;>first|rfl|(rename_i m;rw [em _ _ rfl])|(rename_i m _;rw [em _ _ rfl])|(rename_i m _ _;rw [em _ _ rfl])|(rename_i m _ _ _;rw [em _ _ rfl]))
theorem zvf {nid:Nat} {fr fr':Fr} {h h':List Ob} {i:I} (h1:∀ o∈zcW i,o.ev fr=o.ev fr') (h2:∀ id∈rdI fr i,(h[id]?).getD .dead=(h'[id]?).getD .dead):op1 nid fr h i=op1 nid fr' h' i:=by
 have ho:∀ o∈zcW i,∀ id∈ids1 (o.ev fr'),(h[id]?).getD .dead=(h'[id]?).getD .dead:=fun o ho id hid=>h2 id (List.mem_append.2 (.inr (List.mem_flatMap.2 ⟨o,ho,by rw [h1 o ho];exact hid⟩)))
 have hoo:∀ {lo:Option O},(∀ o∈opt1 lo,o∈zcW i)→lo.map (O.ev fr)=lo.map (O.ev fr'):=fun {lo} hl=>by
  cases lo with
  | none=>rfl
  | some o=>simp [h1 o (hl o (by simp [opt1]))]
 cases i
 case mov x=>simp [op1,h1 x (by simp [zcW])]
 case same x=>simp [op1,h1 x (by simp [zcW])]
 case pick c x y=>simp [op1,h1 c (by simp [zcW]),h1 x (by simp [zcW]),h1 y (by simp [zcW])]
 case bin q x y=>simp [op1,h1 x (by simp [zcW]),h1 y (by simp [zcW])]
 case eq n q x y=>simp [op1,h1 x (by simp [zcW]),h1 y (by simp [zcW])]
 case nilq n k x=>simp only [op1,h1 x (by simp [zcW]),zxa (ho x (by simp [zcW]))]
 case un q x=>simp [op1,h1 x (by simp [zcW])]
 case conv k x=>simp [op1,h1 x (by simp [zcW])]
 case s2b x=>simp [op1,h1 x (by simp [zcW])]
 case b2s x=>simp only [op1,h1 x (by simp [zcW]),zo5 (ho x (by simp [zcW]))]
 case new z=>rfl
 case bsf z n ps=>rfl
 case fz=>rfl
 case fzd=>rfl
 case cx=>rfl
 case op j xs=>
  have:xs.map (O.ev fr)=xs.map (O.ev fr'):=List.map_congr_left fun p hp=>h1 p (by simpa [zcW] using hp)
  simp only [op1,this]
  exact zA9 fun v hv id hid=>by
   obtain ⟨o,ho',rfl⟩:=List.mem_map.1 hv
   exact ho o (by simpa [zcW] using ho') id hid
 case box x=>simp [op1,h1 x (by simp [zcW])]
 case bld z ps=>
  have:(ps.map fun p=>(p.1,p.2.1,p.2.2.ev fr))=ps.map fun p=>(p.1,p.2.1,p.2.2.ev fr'):=List.map_congr_left fun p hp=>by rw [h1 p.2.2 (by simp only [zcW];exact List.mem_map.2 ⟨p,hp,rfl⟩)]
  simp only [op1,this]
 case bsl z n ps=>
  have:(ps.map fun p=>(p.1,p.2.ev fr))=ps.map fun p=>(p.1,p.2.ev fr'):=List.map_congr_left fun p hp=>by rw [h1 p.2 (by simp only [zcW];exact List.mem_map.2 ⟨p,hp,rfl⟩)]
  simp only [op1,this]
 case ld ag sz x=>
  have e:=h1 x (by simp [zcW])
  have e2:=ho x (by simp [zcW])
  simp only [op1,e]
  split<;>try rfl
  rename_i id ix k tot ex
  rw [zbq (e2 id (by rw [ex];simp [ids1]))]
 case st sz x y=>
  have e:=h1 x (by simp [zcW])
  have e2:=ho x (by simp [zcW])
  simp only [op1,e,h1 y (by simp [zcW])]
  split<;>try rfl
  rename_i id ix k tot ex _ _
  rw [zbq (e2 id (by rw [ex];simp [ids1]))]
 case nck x=>
  have e:=h1 x (by simp [zcW])
  have e2:=ho x (by simp [zcW])
  simp only [op1,e]
  split<;>try rfl
  rename_i id ix k tot ex
  rw [zbq (e2 id (by rw [ex];simp [ids1]))]
 case fad off x=>
  have e:=h1 x (by simp [zcW])
  have e2:=ho x (by simp [zcW])
  simp only [op1,e]
  split<;>try rfl
  rename_i id ix k tot ex
  rw [zbq (e2 id (by rw [ex];simp [ids1]))]
 case fld ag off sz x=>simp [op1,h1 x (by simp [zcW])]
 case iad sz x y=>
  have e:=h1 x (by simp [zcW])
  have e2:=ho x (by simp [zcW])
  simp only [op1,e,h1 y (by simp [zcW])]
  split<;>try rfl
  rename_i id off len tot k n ex _
  rw [zbq (e2 id (by rw [ex];simp [ids1]))]
 case ixs x y=>simp [op1,h1 x (by simp [zcW]),h1 y (by simp [zcW])]
 case sls x lo hi=>simp only [op1,h1 x (by simp [zcW]),hoo (lo:=lo) (fun o ho=>by simp [zcW,ho]),hoo (lo:=hi) (fun o ho=>by simp [zcW,ho])]
 case sll sz x lo hi mx=>
  have e:=h1 x (by simp [zcW])
  have e2:=ho x (by simp [zcW])
  simp only [op1,e,hoo (lo:=lo) (fun o ho=>by simp [zcW,ho]),hoo (lo:=hi) (fun o ho=>by simp [zcW,ho]),hoo (lo:=mx) (fun o ho=>by simp [zcW,ho])]
  split<;>try rfl
  ·split<;>try rfl
   rename_i id off len tot ex
   rw [zbq (e2 id (by rw [ex];simp [ids1]))]
  ·split<;>try rfl
   rename_i id off len tot ex
   rw [zbq (e2 id (by rw [ex];simp [ids1]))]
 case mks b z x y=>simp [op1,h1 x (by simp [zcW]),h1 y (by simp [zcW])]
 case mkf f x y=>
  have e1:x.map (O.ev fr)=x.map (O.ev fr'):=List.map_congr_left fun p hp=>h1 p (by simp [zcW,hp])
  have e2:y.map (O.ev fr)=y.map (O.ev fr'):=List.map_congr_left fun p hp=>h1 p (by simp [zcW,hp])
  simp only [op1,e1,e2]
 case ext x k=>simp [op1,h1 x (by simp [zcW])]
 case len x=>
  have e:=h1 x (by simp [zcW])
  have e2:=ho x (by simp [zcW])
  simp only [op1,e]
  split<;>try rfl
  rename_i id off len tot ex
  rw [zbq (e2 id (by rw [ex];simp [ids1]))]
 case slen x=>simp [op1,h1 x (by simp [zcW])]
 case app sz b x y=>
  have e:=h1 x (by simp [zcW])
  have e2:=ho x (by simp [zcW])
  have e3:src h (y.ev fr')=src h' (y.ev fr'):=zAs (ho y (by simp [zcW]))
  simp only [op1,e,h1 y (by simp [zcW]),e3]
  split<;>try rfl
  split<;>try rfl
  split<;>try rfl
  rename_i id off len tot ex
  rw [zbq (e2 id (by rw [ex];simp [ids1]))]
 case mxn m xs=>
  have e1:xs.map (O.ev fr)=xs.map (O.ev fr'):=List.map_congr_left fun p hp=>h1 p (by simp [zcW,hp])
  simp only [op1,e1]
 case mki t x=>simp [op1,h1 x (by simp [zcW])]
 case call=>rfl
 case callv=>rfl
 case pan=>rfl
def zBo (fr:Fr) (e:Ev):Fr:=zdI fr e.d e.v
def frS (S:Nat→Bool):Nat→List Ev→Fr→Fr
 | _,[],fr=>fr
 | k,e::r,fr=>frS S (k+1) r (if S k then zBo fr e else fr)
def zBr (h:List Ob) (e:Ev):List Ob:=match e.w with
 | some (i,o)=>h.set i o
 | none=>h
def hS (S:Nat→Bool):Nat→List Ev→List Ob→List Ob
 | _,[],h=>h
 | k,e::r,h=>hS S (k+1) r (if S k then zBr h e else h)
theorem zuI (fr:Fr) (e:Ev) (t:Nat):get (zBo fr e) t=if e.d=some t then e.v else get fr t:=by
 unfold zBo zdI
 cases e.d with
 | none=>simp
 | some d=>simp [get]
theorem zml (S:Nat→Bool) (t:Nat):∀ (E:List Ev) (k:Nat) (fr:Fr),get (frS S k E fr) t=(last S k (slots E t)).getD (get fr t)
 | [],_,_=>rfl
 | e::r,k,fr=>by
  simp only [frS,slots,List.map_cons,last]
  rw [zml S t r (k+1)]
  unfold slots
  cases last S (k+1) (List.map (fun e=>if e.d=some t then some e.v else none) r) with
  | some a=>rfl
  | none=>
   by_cases h1:S k=true
   ·simp only [h1,if_true,Option.getD_none,zuI]
    by_cases h2:e.d=some t<;>simp [h2]
   ·simp [h1]
theorem zpn (h:List Ob) (e:Ev):(zBr h e).length=h.length:=by
 unfold zBr
 split<;>simp
theorem zfU (S:Nat→Bool):∀ (E:List Ev) (k:Nat) (h:List Ob),(hS S k E h).length=h.length
 | [],_,_=>rfl
 | e::r,k,h=>by
  simp only [hS]
  rw [zfU S r]
  split<;>simp [zpn]
theorem zxJ (h:List Ob) (e:Ev) (id:Nat) (hid:id<h.length):(zBr h e)[id]? = some ((match e.w with
  | some (i,x)=>if i=id then some x else none
  | none=>none).getD h[id]):=by
 unfold zBr
 split
 ·rename_i i o ew
  by_cases h1:i=id
  ·subst h1
   simp [hid]
  ·simp [h1,hid,List.getElem?_set_ne h1]
 ·simp [hid]
theorem zrT (S:Nat→Bool) (id:Nat):∀ (E:List Ev) (k:Nat) (h:List Ob) (hid:id<h.length),(hS S k E h)[id]? = some ((last S k (heaps E id)).getD h[id])
 | [],_,h,hid=>by simp [hS,heaps,last,hid]
 | e::r,k,h,hid=>by
  simp only [hS,heaps,List.map_cons,last]
  by_cases h1:S k=true
  ·simp only [h1,if_true]
   have hid':id<(zBr h e).length:=by rw [zpn];exact hid
   rw [zrT S id r (k+1) _ hid']
   have:=zxJ h e id hid
   rw [List.getElem?_eq_getElem hid',Option.some.injEq] at this
   rw [this]
   unfold heaps
   cases last S (k+1) _<;>rfl
  ·simp only [h1]
   rw [if_neg (by simp),zrT S id r (k+1) _ hid]
   unfold heaps
   cases last S (k+1) _<;>simp
theorem znU {S T:Nat→Bool}:∀ {E:List Ev} {k:Nat} {fr:Fr},(∀ j,j<E.length→S (k+j)=T (k+j))→frS S k E fr=frS T k E fr
 | [],_,_,_=>rfl
 | e::r,k,fr,h=>by
  simp only [frS]
  rw [show S k=T k from h 0 (by simp)]
  exact znU fun j hj=>by
   have:=h (j+1) (by simpa using hj)
   rwa [show k+(j+1)=k+1+j by omega] at this
theorem zya {S T:Nat→Bool}:∀ {E:List Ev} {k:Nat} {h:List Ob},(∀ j,j<E.length→S (k+j)=T (k+j))→hS S k E h=hS T k E h
 | [],_,_,_=>rfl
 | e::r,k,fr,h=>by
  simp only [hS]
  rw [show S k=T k from h 0 (by simp)]
  exact zya fun j hj=>by
   have:=h (j+1) (by simpa using hj)
   rwa [show k+(j+1)=k+1+j by omega] at this
def frA (fr:Fr) (E:List Ev):Fr:=E.foldl zBo fr
def hA (h:List Ob) (E:List Ev):List Ob:=E.foldl (fun h e=>wr h e.w) h
theorem znJ {S:Nat→Bool}:∀ {E:List Ev} {k:Nat} {fr:Fr},(∀ j,j<E.length→S (k+j)=false)→frS S k E fr=fr
 | [],_,_,_=>rfl
 | e::r,k,fr,h=>by
  simp only [frS]
  rw [show S k=false from h 0 (by simp),if_neg (by simp)]
  exact znJ fun j hj=>by
   have:=h (j+1) (by simpa using hj)
   rwa [show k+(j+1)=k+1+j by omega] at this
theorem zrQ {S:Nat→Bool}:∀ {E:List Ev} {k:Nat} {h:List Ob},(∀ j,j<E.length→S (k+j)=false)→hS S k E h=h
 | [],_,_,_=>rfl
 | e::r,k,fr,h=>by
  simp only [hS]
  rw [show S k=false from h 0 (by simp),if_neg (by simp)]
  exact zrQ fun j hj=>by
   have:=h (j+1) (by simpa using hj)
   rwa [show k+(j+1)=k+1+j by omega] at this
theorem zua:∀ (E:List Ev) (i k:Nat) (fr:Fr),frS (fun j=>decide (j<k+i)) k E fr=frA fr (E.take i)
 | [],_,_,_=>by simp [frS,frA]
 | e::r,0,k,fr=>by
  rw [znJ (fun j _=>by simp)]
  simp [frA]
 | e::r,i+1,k,fr=>by
  simp only [frS]
  rw [if_pos (by simp)]
  have:=zua r i (k+1) (zBo fr e)
  rw [show k+1+i=k+(i+1) by omega] at this
  rw [this]
  simp [frA]
def LeA:List Ob→List Ev→Prop
 | _,[]=>True
 | h,e::r=>(∀ i o,e.w=some (i,o)→i≤h.length)∧LeA (wr h e.w) r
theorem zv8 (h:List Ob) (w:Option (Nat×Ob)):h.length≤(wr h w).length:=by
 unfold wr
 split
 ·exact Nat.le_refl _
 ·split<;>simp
theorem zc2:∀ (E:List Ev) (h:List Ob),h.length≤(hA h E).length
 | [],_=>Nat.le_refl _
 | e::r,h=>Nat.le_trans (zv8 h e.w) (zc2 r _)
theorem zCd:∀ {E:List Ev} {h:List Ob},LeA h E→∀ j (hj:j<E.length) k o,E[j].w=some (k,o)→k<(hA h (E.take (j+1))).length
 | [],_,_,j,hj,_,_,_=>by simp at hj
 | e::r,h,hl,0,hj,k,o,he=>by
  have:=hl.1 k o he
  simp only [List.getElem_cons_zero] at he
  simp only [List.take_succ_cons,List.take_zero,hA,List.foldl_cons,List.foldl_nil,he,wr]
  split<;>simp<;>omega
 | e::r,h,hl,j+1,hj,k,o,he=>by
  exact zCd hl.2 j (by simpa using hj) k o (by simpa using he)
theorem zDD:∀ (E:List Ev) (i k m:Nat) (h:List Ob),LeA h E→(hA h (E.take i)).length≤h.length+m→∃ m',(hA h (E.take i)).length+m'=h.length+m∧hS (fun j=>decide (j<k+i)) k E (h++List.replicate m .dead)=hA h (E.take i)++List.replicate m' .dead
 | [],i,k,m,h,_,_=>⟨m,by simp [hA],by simp [hS,hA]⟩
 | e::r,0,k,m,h,_,_=>⟨m,by simp [hA],by
  rw [zrQ (fun j _=>by simp)]
  simp [hA]⟩
 | e::r,i+1,k,m,h,hl,hle=>by
  simp only [hS]
  rw [if_pos (by simp)]
  have hle':(hA (wr h e.w) (r.take i)).length≤h.length+m:=hle
  have h0:=zc2 (r.take i) (wr h e.w)
  have hk:=hl.1
  obtain ⟨m1,e1,e2⟩:∃ m1,(wr h e.w).length+m1=h.length+m∧zBr (h++List.replicate m .dead) e=wr h e.w++List.replicate m1 .dead:=by
   unfold zBr
   cases ew:e.w with
   | none=>exact ⟨m,by simp [wr],by simp [wr]⟩
   | some p=>
    obtain ⟨p,o⟩:=p
    have:=hk p o ew
    by_cases hp:p<h.length
    ·refine ⟨m,by simp [wr,hp],?_⟩
     simp only [wr,hp,if_true]
     rw [List.set_append_left _ _ hp]
    ·have:p=h.length:=by omega
     subst this
     rw [ew] at h0
     simp only [wr,Nat.lt_irrefl,if_false,List.length_append,List.length_cons,List.length_nil] at h0
     cases m with
     | zero=>rw [ew] at hle';simp only [wr,Nat.lt_irrefl,if_false] at hle';omega
     | succ m=>
      refine ⟨m,by simp [wr];omega,?_⟩
      simp only [wr,Nat.lt_irrefl,if_false]
      rw [List.set_append_right _ _ (Nat.le_refl _)]
      simp [List.replicate_succ]
  obtain ⟨m2,e3,e4⟩:=zDD r i (k+1) m1 (wr h e.w) hl.2 (by omega)
  refine ⟨m2,by rw [←e1,←e3];rfl,?_⟩
  rw [e2,←show k+1+i=k+(i+1) by omega,e4]
  rfl
structure AtE (cr:zaw) (done:List Rc) (fr:Fr) (h:List Ob) (x:In×List Nat) (e:Ev):Prop where
 d:e.d=x.1.d
 val:(wanted fr x.1.g=some true∧zai cr h.length fr h x.1.i=some (e.v,e.w)∧e.rd=rdI fr x.1.i)∨(wanted fr x.1.g=some false∧e.v=.tup []∧e.w=none∧e.rd=[])
 ap:e.w=none∧e.rd=[]∨zjg x.2 ⟨e.rd,e.w.map (·.1)⟩ 0 done=true
def Ev.rc (e:Ev):Rc:=⟨e.rd,e.w.map (·.1)⟩
theorem zqC {cr:zaw}:∀ {xs:List (In×List Nat)} {done:List Rc} {fr:Fr} {h:List Ob} {x fr' h'},zqT cr xs done fr h=some (x,fr',h') →
  x=.nrm∧∃ E:List Ev,E.length=xs.length∧fr'=frA fr E∧h'=hA h E∧LeA h E∧∀ i (hi:i<xs.length) (hi':i<E.length),AtE cr (done++(E.take i).map Ev.rc) (frA fr (E.take i)) (hA h (E.take i)) xs[i] E[i]
 | [],done,fr,h,x,fr',h',he=>by
  simp only [zqT] at he
  cases he
  exact ⟨rfl,[],rfl,rfl,rfl,trivial,fun i hi=>by simp at hi⟩
 | y::r,done,fr,h,x,fr',h',he=>by
  simp only [zqT] at he
  split at he<;>try contradiction
  ·rename_i hw
   split at he<;>try contradiction
   rename_i v w hs
   split at he<;>try contradiction
   rename_i hap
   simp only [Bool.and_eq_true] at hap
   obtain ⟨rfl,E,e1,e2,e3,e4,e5⟩:=zqC he
   refine ⟨rfl,⟨y.1.d,v,w,rdI fr y.1.i⟩::E,by simp [e1],e2,e3,⟨?_,e4⟩,?_⟩
   ·intro i o ew
    have:=hap.2
    simp only at ew
    rw [ew] at this
    simpa [leW] using this
   ·intro i hi hi'
    cases i with
    | zero=>exact ⟨rfl,.inl ⟨hw,hs,rfl⟩,.inr (by simpa using hap.1)⟩
    | succ i=>
     have:=e5 i (by simpa using hi) (by simpa using hi')
     simpa [frA,hA,zBo,Ev.rc] using this
  ·rename_i hw
   obtain ⟨rfl,E,e1,e2,e3,e4,e5⟩:=zqC he
   refine ⟨rfl,⟨y.1.d,.tup [],none,[]⟩::E,by simp [e1],e2,e3,⟨?_,e4⟩,?_⟩
   ·intro i o ew
    simp at ew
   ·intro i hi hi'
    cases i with
    | zero=>exact ⟨rfl,.inr ⟨hw,rfl,rfl,rfl⟩,.inl ⟨rfl,rfl⟩⟩
    | succ i=>
     have:=e5 i (by simpa using hi) (by simpa using hi')
     simpa [frA,hA,zBo,Ev.rc,wr] using this
theorem ztL {anc:List Nat} {a:Rc}:∀ {l:List Rc} {k:Nat},zjg anc a k l=true→∀ j (hj:j<l.length),(k+j)∈anc∨apart a l[j]=true
 | [],_,_,j,hj=>by simp at hj
 | b::r,k,h,j,hj=>by
  simp only [zjg,Bool.and_eq_true,Bool.or_eq_true,List.contains_iff_mem] at h
  cases j with
  | zero=>simpa using h.1
  | succ j=>
   have:=ztL h.2 j (by simpa using hj)
   rw [show k+(j+1)=k+1+j by omega]
   simpa using this
variable {P:Program} {g:GW} {ρ:Option Nat}
theorem zD1 {nid:Nat} {fr:Fr} {h:List Ob} {i:I} {v:V} {wv:Option (Nat×Ob)} (he:op1 nid fr h i=some (v,wv)):(∃ o,wv=some (nid,o))∨∀ nid',op1 nid' fr h i=some (v,wv):=by
 cases i
 case s2b x=>
  simp only [op1] at he ⊢
  split at he<;>try contradiction
  cases he
  exact .inl ⟨_,rfl⟩
 case new z=>
  simp only [op1] at he
  cases he
  exact .inl ⟨_,rfl⟩
 case box x=>
  simp only [op1] at he
  split at he<;>try contradiction
  cases he
  exact .inl ⟨_,rfl⟩
 case bsl z n ps=>
  simp only [op1,Option.map_eq_some_iff,Prod.mk.injEq] at he
  obtain ⟨_,_,_,rfl⟩:=he
  exact .inl ⟨_,rfl⟩
 case mks b z x y=>
  simp only [op1] at he
  split at he<;>try contradiction
  split at he<;>try contradiction
  cases he
  exact .inl ⟨_,rfl⟩
 case app sz b x y=>
  simp only [op1] at he ⊢
  split at he<;>try contradiction
  split at he<;>try contradiction
  split at he<;>try contradiction
  ·split at he
   ·rename_i h1 _ h2 _ h3
    exact .inr fun _=>by simp_all
   ·split at he<;>try contradiction
    cases he
    exact .inl ⟨_,rfl⟩
  ·exact .inr fun _=>by simp_all
 case op j xs=>
  cases j
  case mkm=>
   simp only [op1,opJ] at he
   split at he<;>try contradiction
   cases he
   exact .inl ⟨_,rfl⟩
  all_goals exact .inr fun _=>he
 all_goals exact .inr fun _=>he
theorem zsG {P:Program} {op:Op} {i:I} (h:mX P op i=true):∀ c,op≠.defer c:=by
 intro c e
 subst e
 cases i with
 | op j xs=>cases j<;>simp [mX,mI] at h
 | _=>simp [mX,mI] at h
theorem zz4 {cr:zaw} (hcr:zdV P (g.at .no) cr.c) {f:Nat} {args:List V} {us:Array Value} {w:World} {M:Nat→Prop} {ν:Nu} {h:List Ob} (hsz:us.size=args.length) (hr:∀ i (hi:i<args.length),Rel w M ν args[i] (us.getD i undef)) (hh:HR w M ν h) (hi:Inv (g.at .no) w M nu0) {v:V} (hs:cp cr f args=some v) :
  zyg P f∧Calls P f us w fun e w'=>∃ M' u,e=.returned u∧Rel w' M' ν v u∧Pst w M ν h w' M' ν h:=by
 unfold cp at hs
 split at hs<;>try contradiction
 rename_i hd
 split at hs<;>try contradiction
 rename_i v' h' e
 unfold datF at hs
 obtain ⟨hfn,hc⟩:=hcr _ _ _ _ _ e us w M nu0 hsz (fun i hi=>dataL_rel hd hi (hr i hi) nu0) (HR.nil hh.lt) hi
 refine ⟨hfn,hc.mono fun e' w' ⟨M',ν',ho,p⟩=>?_⟩
 obtain ⟨u,rfl,hu⟩:=ho
 split at hs
 case isFalse=>
  split at hs<;>try contradiction
  rename_i v2 hv2
  split at hs<;>try contradiction
  cases hs
  refine ⟨fun b=>M' b∨Mine ν' h' b,u,rfl,?_,Pst.quiet hh (fun b hb=>.inl (p.hM b hb)) (fun b hb=>?_) (fun b hb=>?_) ⟨p.stp.os,p.stp.tape,p.stp.output,p.stp.size,fun k hk _=>p.stp.block k hk Mine.nil⟩⟩
  ·exact (zeO p.hr (M1:=fun b=>M' b∨Mine ν' h' b) (fun b hb=>.inl hb) _ (.inr fun b hb=>.inr hb) hu hv2).mono (fun _ _=>rfl) (fun _ hb=>hb) (zqc ν)
  ·rcases hb with hb|hb
   ·exact (p.hM' b hb).imp _root_.id fun h1=>h1.elim (fun h1=>absurd h1 Mine.nil) _root_.id
   ·exact (p.mine b hb).imp (fun h=>absurd h Mine.nil) id
  ·rcases hb with hb|hb
   ·exact p.hr.lt b hb
   ·exact (hb.lt p.hr).1
 rename_i hv
 cases hs
 exact ⟨M',u,rfl,hu.data hv ν,Pst.quiet hh p.hM (fun b hb=>(p.hM' b hb).imp _root_.id fun h1=>h1.elim (fun h1=>absurd h1 Mine.nil) _root_.id) p.hr.lt ⟨p.stp.os,p.stp.tape,p.stp.output,p.stp.size,fun k hk _=>p.stp.block k hk Mine.nil⟩⟩
theorem zuw {h h':List Ob} (e:∀ (id:Nat) (x:Ob),h[id]? = some x→h'[id]? = some x):∀ (n:Nat) {v v':V},frz h n v=some v'→frz h' n v=some v'
 | 0,_,_,q=>by simp [frz] at q
 | n+1,v,v',q=>by
  have ml:∀ {xs ys:List V},zdP (frz h n) xs=some ys→zdP (frz h' n) xs=some ys:=by
   intro xs
   induction xs with
   | nil=>intro ys q;exact q
   | cons x r ih=>
    intro ys q
    simp only [zdP] at q ⊢
    split at q<;>try contradiction
    rename_i y hy
    rw [zuw e n hy]
    split at q<;>try contradiction
    rename_i s hs
    rw [ih hs]
    exact q
  have row:∀ {id tot:Nat} {p},zaF h id tot=some p→zaF h' id tot=some p:=by
   intro id tot p q
   unfold zaF at q ⊢
   split at q<;>try contradiction
   rename_i sz xs hx
   rw [e _ _ hx]
   exact q
  have el:∀ {id off len tot:Nat} {p},elems h (.own id off len tot)=some p→elems h' (.own id off len tot)=some p:=by
   intro id off len tot p q
   simp only [elems] at q ⊢
   split at q<;>try contradiction
   rename_i hr
   rw [row hr]
   exact q
  cases v with
  | agg xs=>
   simp only [frz] at q ⊢
   cases hx:zdP (frz h n) xs with
   | none=>rw [hx] at q;cases q
   | some ys=>rw [hx] at q;rw [ml hx];exact q
  | tup xs=>
   simp only [frz] at q ⊢
   cases hx:zdP (frz h n) xs with
   | none=>rw [hx] at q;cases q
   | some ys=>rw [hx] at q;rw [ml hx];exact q
  | fn f a b=>
   simp only [frz] at q ⊢
   cases ha:zdP (frz h n) a with
   | none=>rw [ha] at q;cases q
   | some ys=>
    cases hb:zdP (frz h n) b with
    | none=>rw [ha,hb] at q;cases q
    | some zs=>rw [ha,hb] at q;rw [ml ha,ml hb];exact q
  | ifc t x=>
   simp only [frz] at q ⊢
   cases hx:frz h n x with
   | none=>rw [hx] at q;cases q
   | some y=>rw [hx] at q;rw [zuw e n hx];exact q
  | own id off len tot=>
   simp only [frz] at q ⊢
   split at q<;>try contradiction
   rename_i z xs hx
   rw [el hx]
   cases hy:zdP (frz h n) xs with
   | none=>rw [hy] at q;cases q
   | some ys=>rw [hy] at q;simp only [ml hy];exact q
  | ptr id i k tot=>
   simp only [frz] at q ⊢
   split at q<;>try contradiction
   rename_i z xs hx
   rw [row hx]
   split at q<;>try contradiction
   rename_i x hi
   simp only [hi]
   cases hy:frz h n x with
   | none=>rw [hy] at q;cases q
   | some y=>rw [hy] at q;rw [zuw e n hy];exact q
  | _=>exact q
theorem zAR {h:List Ob} {args a':List V} (e:zj4 (h.take 4096) args=some a'):zj4 h args=some a':=by
 unfold zj4 at e ⊢
 have sub:∀ (id:Nat) (x:Ob),(h.take 4096)[id]? = some x→h[id]? = some x:=by
  intro id x hx
  rw [List.getElem?_take] at hx
  split at hx
  ·exact hx
  ·cases hx
 revert a'
 induction args with
 | nil=>intro a' e;exact e
 | cons x r ih=>
  intro a' q
  simp only [zdP] at q ⊢
  split at q<;>try contradiction
  rename_i y hy
  rw [zuw sub _ hy]
  split at q<;>try contradiction
  rename_i s hs
  rw [ih hs]
  exact q
theorem frzL_inv' {w:World} {M M1:Nat→Prop} {ν:Nu} {h:List Ob} (hh:HR w M ν h) (hM:∀ b,M b→M1 b) {args args':List V} (hd:∀ b,Mine ν h b→M1 b) {us:Array Value} (hr:∀ i (hi:i<args.length),Rel w M ν args[i] (us.getD i undef)) (he:zj4 h args=some args') :
  args'.length=args.length∧∀ i (hi:i<args'.length),Rel w M1 nu0 args'[i] (us.getD i undef):=by
 obtain ⟨k1,k2⟩:=zht he
 refine ⟨k1,fun i hi=>?_⟩
 have hi':=hi
 rw [k1] at hi'
 exact zeO hh hM _ (.inr hd) (hr i hi') (k2 i hi' hi)
theorem zt4 {cr:zaw} (hcr:zdV P (g.at .no) cr.c) {f:Nat} {args:List V} {us:Array Value} {w:World} {M:Nat→Prop} {ν:Nu} {h:List Ob} (hsz:us.size=args.length) (hr:∀ i (hi:i<args.length),Rel w M ν args[i] (us.getD i undef)) (hh:HR w M ν h) (hi:Inv (g.at .no) w M ν) {v:V} (hs:callq cr h f args=some v) :
  zyg P f∧Calls P f us w fun e w'=>∃ M' u,e=.returned u∧Rel w' M' ν v u∧Pst w M ν h w' M' ν h:=by
 unfold callq at hs
 split at hs
 ·exact zz4 hcr hsz hr hh (hi.base (ν':=nu0)) hs
 ·split at hs<;>try contradiction
  rename_i a' ha
  split at hs<;>try contradiction
  rename_i v' hv
  split at hs<;>try contradiction
  rename_i hfl
  cases hs
  have hM1:∀ b,(M b∨Mine ν h b)→b<w.heap.size:=fun b hb=>hb.elim (hh.lt b) (fun hb=>(hb.lt hh).1)
  obtain ⟨k1,k2⟩:=frzL_inv' hh (M1:=fun b=>M b∨Mine ν h b) (fun _ hb=>.inl hb) (fun _ hb=>.inr hb) hr (zAR ha)
  have hi0:Inv (g.at .no) w (fun b=>M b∨Mine ν h b) nu0:=⟨hi.1,fun k hk=>.inl (hi.2.1 k hk),trivial⟩
  obtain ⟨hfn,hc⟩:=zz4 hcr (us:=us) (by rw [k1];exact hsz) k2 (HR.nil hM1) hi0 hv
  refine ⟨hfn,hc.mono fun e' w' ⟨M',u,he,hu,p⟩=>?_⟩
  subst he
  have hst:Stp w w' (fun _=>False):=⟨p.stp.os,p.stp.tape,p.stp.output,p.stp.size,fun k hk _=>p.stp.block k hk Mine.nil⟩
  exact ⟨M,u,rfl,hu.flat hfl,Pst.quiet hh (fun b hb=>hb) (fun b hb=>.inl hb) (fun b hb=>Nat.lt_of_lt_of_le (hh.lt b hb) p.stp.size) hst⟩
theorem zwj {h h':List Ob} (e:∀ id:Nat,(h[id]?).getD Ob.dead=(h'[id]?).getD Ob.dead):∀ (n:Nat) (v:V),frz h n v=frz h' n v
 | 0,_=>rfl
 | n+1,v=>by
  have ih:frz h n=frz h' n:=funext fun v=>zwj e n v
  have row:∀ id tot,zaF h id tot=zaF h' id tot:=fun id tot=>zbq (e id)
  have el:∀ v,elems h v=elems h' v:=fun v=>zo5 fun id _=>e id
  cases v<;>simp only [frz,ih,row,el]
theorem zsH {cr:zaw} {h h':List Ob} {f:Nat} {args:List V} (e:dataL args=true∨∀ id:Nat,id<4096→(h[id]?).getD Ob.dead=(h'[id]?).getD Ob.dead):callq cr h f args=callq cr h' f args:=by
 unfold callq
 rcases e with e|e
 ·rw [if_pos e,if_pos e]
 ·have:zj4 (h.take 4096) args=zj4 (h'.take 4096) args:=by
   unfold zj4
   have ec:∀ id:Nat,((h.take 4096)[id]?).getD Ob.dead=((h'.take 4096)[id]?).getD Ob.dead:=by
    intro id
    rw [List.getElem?_take,List.getElem?_take]
    split
    ·rename_i hid;exact e id hid
    ·rfl
   rw [show frz (h.take 4096) fdepth=frz (h'.take 4096) fdepth from funext fun v=>zwj ec _ v]
  rw [this]
theorem zs1 {cr:zaw} (hcr:CRok P g cr) {o:Oper} {a:Act} {w:World} {M:Nat→Prop} {ν:Nu} {h:List Ob} {f:Nat} {args:List V} {us:Array Value} (hsz:us.size=args.length) (hr:∀ i (hi:i<args.length),Rel w M ν args[i] (us.getD i undef)) (hh:HR w M ν h) (hi:Inv g w M ν)
  (hrun:zyg P f→(execOp a.eval o).run P w=.ok (.enter f us) w) {v:V} (hs:callq cr h f args=some v) {K:Act→World→Prop} {Q:Exit→Act→World→Prop}
  (hK:∀ u w' M' ν',Rel w' M' ν' v u→Pst w M ν h w' M' ν' h→(∀ k,ν' k=ν k)→K (a.put o.dst u) w'):Oper.wpR ρ P o a w K Q:=by
 obtain ⟨hfn,hc⟩:=zt4 hcr.c hsz hr hh hi.base hs
 refine Oper.wpR_enter (hrun hfn) (hc.mono fun e' w' ⟨M',u,hu,hv,p⟩=>?_)
 subst hu
 exact hK u w' M' ν hv p fun _=>rfl
theorem zsn {cr:zaw} (hcr:CRok P g cr) {n:Nat} {ops:Array Oper} {o:Oper} {x:In} (hm:mIn P n ops o x=true) {a:Act} {w:World} {M:Nat→Prop} {ν:Nu} {h:List Ob} {fr:Fr} {nid:Nat} (hf:ziU w M ν n fr a) (hh:HR w M ν h) (hi:Inv g w M ν)
  (hn:ν nid=none) (hle:nid≤h.length) (hd:∀ hi:nid<h.length,live h[nid]=false) {v:V} {wv:Option (Nat×Ob)} (hs:zai cr nid fr h x.i=some (v,wv)) {K:Act→World→Prop} {Q:Exit→Act→World→Prop}
  (hK:∀ u w' M' ν',Rel w' M' ν' v u→Pst w M ν h w' M' ν' (wr h wv)→(∀ k,(∀ x,wv≠some (k,x))→ν' k=ν k)→K (a.put o.dst u) w'):Oper.wpR ρ P o a w K Q:=by
 simp only [mIn,Bool.and_eq_true] at hm
 obtain ⟨_,hm⟩:=hm
 generalize x.i=i at hm hs
 have plain:(mI P o.op i=true)→op1 nid fr h i=some (v,wv)→Oper.wpR ρ P o a w K Q:=by
  intro hm he
  obtain ⟨w',ν',u,hrun,hv,hr',hle,hst,hmine,hkeep⟩:=(zpU (P:=P) i hm hf.fr hh hn hle hd he).ok
  have:=hK u w' M ν' hv ⟨hr',fun _ hb=>hb,fun _ hb=>.inl hb,hle,hst,hmine⟩ hkeep
  rcases hrun with hrun|⟨hrun,rfl⟩
  ·exact Oper.wpR_value hrun this
  ·exact Oper.wpR_skip hrun this
 cases i
 case call f xs=>
  simp only [mX] at hm
  split at hm<;>try contradiction
  rename_i g' as ts e
  simp only [Bool.and_eq_true,beq_iff_eq] at hm
  obtain ⟨rfl,hx⟩:=hm
  obtain ⟨k1,k2⟩:=zic hf.fr hx
  simp only [zai,Option.map_eq_some_iff,Prod.mk.injEq] at hs
  obtain ⟨v',hs,rfl,rfl⟩:=hs
  refine zs1 hcr (us:=as.map a.eval) (by simpa using k1) (fun i hi=>?_) hh hi (fun hfn=>?_) hs (fun u w' M' ν' h1 h2 h3=>hK u w' M' ν' h1 h2 fun k _=>h3 k)
  ·have:=k2 i (by simpa using hi)
   simpa using this
  ·have:=zft (us:=as.map a.eval) (w:=w) hfn
   simp [execOp,e,resolve,invoke,Act.eval,Deferred.ofValue]
   simpa [Act.eval] using this
 case callv y xs=>
  simp only [mX] at hm
  split at hm<;>try contradiction
  rename_i y' as ts e
  simp only [Bool.and_eq_true] at hm
  obtain ⟨hy,hx⟩:=hm
  obtain ⟨k1,k2⟩:=zic hf.fr hx
  have hy:=zaM hf.fr hy
  simp only [zai] at hs
  split at hs<;>try contradiction
  rename_i f first cap ey
  simp only [Option.map_eq_some_iff,Prod.mk.injEq] at hs
  obtain ⟨v',hs,rfl,rfl⟩:=hs
  rw [ey] at hy
  generalize hu:a.eval y'=u at hy
  cases hy with
  | fn hl hr kl kr=>
   rename_i vs us
   refine zs1 hcr (us:=vs++as.map a.eval++us) (by simp;simp at k1;omega) (fun i hi=>?_) hh hi (fun hfn=>?_) hs (fun u w' M' ν' h1 h2 h3=>hK u w' M' ν' h1 h2 fun k _=>h3 k)
   ·have k1':as.size=xs.length:=by simpa using k1
    rcases Nat.lt_or_ge i first.length with h1|h1
    ·have:=hr i h1
     have h2:i<vs.size:=by omega
     simp only [Array.getD_eq_getD_getElem?] at this ⊢
     rw [List.getElem_append_left (by simp;omega),List.getElem_append_left h1,Array.getElem?_append_left (by simp;omega),Array.getElem?_append_left h2]
     exact this
    ·rcases Nat.lt_or_ge i (first.length+xs.length) with h2|h2
     ·have:=k2 (i-first.length) (by omega)
      simp only [Array.getD_eq_getD_getElem?,List.getD_eq_getElem?_getD] at this ⊢
      rw [List.getElem_append_left (by simp;omega),List.getElem_append_right h1,Array.getElem?_append_left (by simp;omega),Array.getElem?_append_right (by omega),hl]
      simpa using this
     ·have:=kr (i-(first.length+xs.length)) (by simp at hi;omega)
      simp only [Array.getD_eq_getD_getElem?] at this ⊢
      rw [List.getElem_append_right (by simp;omega),Array.getElem?_append_right (by simp;omega)]
      simp only [List.length_append,List.length_map,Array.size_append,Array.size_map,hl,k1']
      exact this
   ·have:=zft (us:=vs++as.map a.eval++us) (w:=w) hfn
    simp only [execOp,e,resolve,hu,Deferred.ofValue]
    simp only [Sem.run_bind,Sem.run_pure,Result.andThen_ok,invoke]
    exact this
 case pan y=>simp [zai] at hs
 case fz y=>simp [zai] at hs
 case fzd ag sz y=>simp [zai,op1] at hs
 case cx f xs=>simp [zai,op1] at hs
 case bsf z k ps=>
  simp only [mX] at hm
  simp only [zai] at hs
  split at hs<;>try contradiction
  rename_i xs hfl
  obtain ⟨v',hv',e⟩:=Option.map_eq_some_iff.1 hs
  cases e
  obtain ⟨u,w1,M1,hrun,hr,p⟩:=zA8 hm hf.fr hh hfl hv'
  exact Oper.wpR_value hrun (hK u w1 M1 ν hr p fun _ _=>rfl)
 all_goals exact plain hm hs
theorem zzx {cr:zaw} {nid:Nat} {fr:Fr} {h:List Ob} {i:I} {v:V} {wv:Option (Nat×Ob)} (he:zai cr nid fr h i=some (v,wv)):(∃ o,wv=some (nid,o))∨∀ nid',zai cr nid' fr h i=some (v,wv):=by
 cases i
 case call=>exact .inr fun _=>he
 case callv=>exact .inr fun _=>he
 case pan=>exact .inr fun _=>he
 case bsf=>exact .inr fun _=>he
 case fz=>exact .inr fun _=>he
 case fzd=>simp [zai,op1] at he
 case cx=>simp [zai,op1] at he
 all_goals (simp only [zai] at he ⊢;exact zD1 he)
theorem zsY {cr:zaw} {nid:Nat} {fr fr':Fr} {h h':List Ob} {i:I} (h1:∀ o∈zcW i,o.ev fr=o.ev fr') (h2:∀ id∈rdI fr i,(h[id]?).getD .dead=(h'[id]?).getD .dead):zai cr nid fr h i=zai cr nid fr' h' i:=by
 cases i
 case call f xs=>
  have:xs.map (O.ev fr)=xs.map (O.ev fr'):=List.map_congr_left fun p hp=>h1 p (by simpa [zcW] using hp)
  simp only [zai,this]
  rw [zsH]
  rw [←this]
  by_cases hd:dataL (xs.map (O.ev fr))=true
  ·exact .inl hd
  ·exact .inr fun id hid=>h2 id (List.mem_append.2 (.inl (by simp only [rdC,if_neg hd];exact List.mem_range.2 hid)))
 case callv f xs=>
  have:xs.map (O.ev fr)=xs.map (O.ev fr'):=List.map_congr_left fun p hp=>h1 p (by simp [zcW,hp])
  have e1:=h1 f (by simp [zcW])
  simp only [zai,this,e1]
  split<;>try rfl
  rename_i f' first cap ef
  rw [zsH]
  by_cases hd:dataL (first++xs.map (O.ev fr')++cap)=true
  ·exact .inl hd
  ·exact .inr fun id hid=>h2 id (List.mem_append.2 (.inl (by simp only [rdC,e1,ef,this,if_neg hd];exact List.mem_range.2 hid)))
 case pan=>rfl
 case fz=>rfl
 case fzd=>rfl
 case cx=>rfl
 case bsf z n ps=>
  have:(ps.map fun p=>(p.1,p.2.ev fr))=ps.map fun p=>(p.1,p.2.ev fr'):=List.map_congr_left fun p hp=>by rw [h1 p.2 (by simp only [zcW];exact List.mem_map.2 ⟨p,hp,rfl⟩)]
  simp only [zai,this]
 all_goals (simp only [zai];exact zvf h1 h2)
def nms (x:In):List Nat:=(match x.g with
 | some (t,_)=>[t]
 | none=>[])++(zcW x.i).flatMap O.slot
def okD (x y:In):Bool:=
 (match y.d with
  | some d=>!(nms x).contains d&&!(x.d==some d)
  | none=>true)&&(match x.d with
  | some d=>!(nms y).contains d
  | none=>true)
def tA (anc:List Nat) (x:In):Nat→List (In×List Nat)→Bool
 | _,[]=>true
 | j,y::r=>(anc.contains j||okD x y.1)&&tA anc x (j+1) r
def tOK:List (In×List Nat)→List (In×List Nat)→Bool
 | _,[]=>true
 | bef,x::r=>tA x.2 x.1 0 bef&&tOK (bef++[x]) r
def aOK (ops:Array Oper) (A:List (List Nat)):Bool:=(List.range ops.size).all fun i=>match ops[i]? with
 | none=>false
 | some o=>o.after.all (fun e=>!Region.binds .any e||decide (e.on<i))&&(A.getD i []).all fun j=>o.after.any fun e=>Region.binds .any e&&(e.on==j||(decide (e.on<i)&&(A.getD e.on []).contains j))
def mDr (P:Program) (n:Nat) (ops:Array Oper) (xs:List (In×List Nat)):Bool:=
 P.follows .mixedOrders&&zvs P n ops ops.toList (xs.map (·.1))&&aOK ops (xs.map (·.2))&&tOK [] xs
theorem zC0 {anc:List Nat} {x:In}:∀ {l:List (In×List Nat)} {k:Nat},tA anc x k l=true→∀ j (hj:j<l.length),(k+j)∈anc∨okD x l[j].1=true
 | [],_,_,j,hj=>by simp at hj
 | b::r,k,h,j,hj=>by
  simp only [tA,Bool.and_eq_true,Bool.or_eq_true,List.contains_iff_mem] at h
  cases j with
  | zero=>simpa using h.1
  | succ j=>
   have:=zC0 h.2 j (by simpa using hj)
   rw [show k+(j+1)=k+1+j by omega]
   simpa using this
theorem zuK:∀ {l bef:List (In×List Nat)},tOK bef l=true→∀ i (hi:i<l.length) j (hj:j<bef.length+i) (hj':j<(bef++l).length),j∈l[i].2∨okD l[i].1 (bef++l)[j].1=true
 | [],_,_,i,hi,_,_,_=>by simp at hi
 | x::r,bef,h,i,hi,j,hj,hj'=>by
  simp only [tOK,Bool.and_eq_true] at h
  cases i with
  | zero=>
   have:=zC0 h.1 j (by omega)
   rw [List.getElem_append_left (by omega)]
   simpa using this
  | succ i=>
   have:=zuK h.2 i (by simpa using hi) j (by simp;omega) (by simpa using hj')
   simpa using this
theorem zrE {n:Nat} {ops:Array Oper}:∀ {l:List Oper} {xs:List In},zvs P n ops l xs=true→l.length=xs.length∧∀ i (hi:i<l.length) (hi':i<xs.length),mIn P n ops l[i] xs[i]=true
 | [],[],_=>⟨rfl,fun i hi=>by simp at hi⟩
 | [],_::_,h=>by simp [zvs] at h
 | _::_,[],h=>by simp [zvs] at h
 | o::l,x::xs,h=>by
  simp only [zvs,Bool.and_eq_true] at h
  obtain ⟨e,k⟩:=zrE h.2
  refine ⟨by simp [e],fun i hi hi'=>?_⟩
  cases i with
  | zero=>exact h.1
  | succ i=>exact k i (by simpa using hi) (by simpa using hi')
variable {P:Program} {g:GW}
structure Dr (P:Program) (cr:zaw) (n:Nat) (ops:Array Oper) (xs:List (In×List Nat)) (fr0:Fr) (h0:List Ob) (E:List Ev):Prop where
 sz:ops.size=xs.length
 len:E.length=xs.length
 le:LeA h0 E
 at_:∀ i (hi:i<xs.length) (hi':i<E.length),AtE cr ((E.take i).map Ev.rc) (frA fr0 (E.take i)) (hA h0 (E.take i)) xs[i] E[i]
 tmp:∀ i j (hi:i<xs.length) (hj:j<xs.length),j<i→j∈xs[i].2∨okD xs[i].1 xs[j].1=true
 m:∀ i (hi:i<ops.size) (hi':i<xs.length),mIn P n ops ops[i] xs[i].1=true
 edge:∀ i (hi:i<ops.size),∀ e∈ops[i].after,Region.binds .any e=true→e.on<i
 anc:∀ i (hi:i<ops.size) (hi':i<xs.length),∀ j∈xs[i].2,∃ e∈ops[i].after,Region.binds .any e=true∧(e.on=j∨∃ hk:e.on<xs.length,j∈xs[e.on].2)
theorem Dr.of {cr:zaw} {n:Nat} {ops:Array Oper} {xs:List (In×List Nat)} {fr0:Fr} {h0:List Ob} {x fr' h'} (hm:mDr P n ops xs=true) (he:zqT cr xs [] fr0 h0=some (x,fr',h')) :
  P.follows .mixedOrders=true∧x=.nrm∧∃ E,Dr P cr n ops xs fr0 h0 E∧fr'=frA fr0 E∧h'=hA h0 E:=by
 simp only [mDr,Bool.and_eq_true] at hm
 obtain ⟨⟨⟨h1,h2⟩,h3⟩,h4⟩:=hm
 obtain ⟨k1,k2⟩:=zrE h2
 simp only [Array.length_toList,List.length_map] at k1
 obtain ⟨rfl,E,e1,e2,e3,e4,e5⟩:=zqC he
 simp only [aOK,List.all_eq_true,List.mem_range] at h3
 have h3':∀ i (hi:i<ops.size),(∀ e∈ops[i].after,Region.binds .any e=true→e.on<i)∧∀ j∈(xs.map (·.2)).getD i [],∃ e∈ops[i].after,Region.binds .any e=true∧(e.on=j∨(e.on<i∧j∈(xs.map (·.2)).getD e.on [])):=by
  intro i hi
  have:=h3 i hi
  rw [Array.getElem?_eq_getElem hi] at this
  simp only [Bool.and_eq_true,Array.all_eq_true_iff_forall_mem,Bool.or_eq_true,Bool.not_eq_true',decide_eq_true_eq,List.all_eq_true,Array.any_eq_true',beq_iff_eq,List.contains_iff_mem] at this
  refine ⟨fun e he hb=>?_,this.2⟩
  have:=this.1 e he
  rw [hb] at this
  simpa using this
 refine ⟨h1,rfl,E,⟨k1,e1,e4,fun i hi hi'=>by simpa using e5 i hi hi',fun i j hi hj hji=>?_,fun i hi hi'=>?_,fun i hi=>(h3' i hi).1,fun i hi hi' j hj=>?_⟩,e2,e3⟩
 ·simpa using zuK h4 i hi j (by simpa using hji) (by simpa using hj)
 ·have:=k2 i (by simpa using hi) (by simpa using hi')
  rw [List.getElem_map] at this
  exact this
 ·obtain ⟨e,he,hb,hh⟩:=(h3' i hi).2 j (by simpa [hi'] using hj)
  refine ⟨e,he,hb,hh.imp id fun hh=>?_⟩
  have hk:e.on<xs.length:=by omega
  exact ⟨hk,by simpa [hk] using hh.2⟩
def Down (xs:List (In×List Nat)) (S:Nat→Bool):Prop:=∀ i (hi:i<xs.length),S i=true→∀ j∈xs[i].2,S j=true
theorem zp4 {E:List Ev} {t j:Nat} {v:V} (h:(slots E t)[j]? = some (some v)):∃ hj:j<E.length,E[j].d=some t∧E[j].v=v:=by
 unfold slots at h
 rw [List.getElem?_map,Option.map_eq_some_iff] at h
 obtain ⟨e,h1,h2⟩:=h
 obtain ⟨hj,rfl⟩:=List.getElem?_eq_some_iff.1 h1
 split at h2
 ·rename_i h3
  exact ⟨hj,h3,by simpa using h2⟩
 ·cases h2
theorem zm6 {E:List Ev} {id j:Nat} {o:Ob} (h:(heaps E id)[j]? = some (some o)):∃ hj:j<E.length,E[j].w=some (id,o):=by
 unfold heaps at h
 rw [List.getElem?_map,Option.map_eq_some_iff] at h
 obtain ⟨e,h1,h2⟩:=h
 obtain ⟨hj,rfl⟩:=List.getElem?_eq_some_iff.1 h1
 refine ⟨hj,?_⟩
 split at h2
 ·rename_i i x hw
  split at h2
  ·rename_i hi
   subst hi
   cases h2
   exact hw
  ·cases h2
 ·cases h2
theorem zqP {x y:In} (h:okD x y=true):(∀ d,y.d=some d→d∉nms x∧x.d≠some d)∧∀ d,x.d=some d→d∉nms y:=by
 simp only [okD,Bool.and_eq_true] at h
 refine ⟨fun d e=>?_,fun d e=>?_⟩
 ·have:=h.1
  rw [e] at this
  simpa [List.contains_iff_mem] using this
 ·have:=h.2
  rw [e] at this
  simpa [List.contains_iff_mem] using this
theorem zpN {a b:Rc} (h:apart a b=true):(∀ x,a.w=some x→x∉b.rd∧b.w≠some x)∧∀ x,b.w=some x→x∉a.rd:=by
 simp only [apart,Bool.and_eq_true] at h
 refine ⟨fun d e=>?_,fun d e=>?_⟩
 ·have:=h.1
  rw [e] at this
  simpa [List.contains_iff_mem] using this
 ·have:=h.2
  rw [e] at this
  simpa [List.contains_iff_mem] using this
section
variable {cr:zaw} {n:Nat} {ops:Array Oper} {xs:List (In×List Nat)} {fr0:Fr} {h0:List Ob} {E:List Ev}
theorem Dr.apt (D:Dr P cr n ops xs fr0 h0 E) {i j:Nat} (hi:i<E.length) (hj:j<E.length) (hji:j<i):j∈(xs[i]'(D.len▸hi)).2∨(E[i].w=none∧E[i].rd=[])∨apart E[i].rc E[j].rc=true:=by
 have A:=D.at_ i (D.len▸hi) hi
 rcases A.ap with h|h
 ·exact .inr (.inl h)
 ·have hl:j<((E.take i).map Ev.rc).length:=by simp;omega
  have:=ztL h j hl
  simp only [Nat.zero_add,List.getElem_map,List.getElem_take] at this
  exact this.imp id .inr
theorem Dr.slot (D:Dr P cr n ops xs fr0 h0 E) {S:Nat→Bool} (hS:Down xs S) {i:Nat} (hi:i<xs.length) (hSi:S i=false) (hanc:∀ j∈xs[i].2,S j=true) {t:Nat} (ht:t∈nms xs[i].1):get (frS S 0 E fr0) t=get (frA fr0 (E.take i)) t:=by
 rw [zml,←show frS (fun j=>decide (j<0+i)) 0 E fr0=frA fr0 (E.take i) from zua E i 0 fr0,zml]
 congr 1
 refine zfy fun j v hj=>?_
 obtain ⟨hj,hd,_⟩:=zp4 hj
 have hjx:j<xs.length:=D.len▸hj
 rw [(D.at_ j hjx hj).d] at hd
 simp only [Nat.zero_add]
 rcases Nat.lt_trichotomy j i with h1|h1|h1
 ·rcases D.tmp i j hi hjx h1 with h2|h2
  ·rw [hanc j h2];simp [h1]
  ·exact absurd ht ((zqP h2).1 t hd).1
 ·subst h1
  rw [hSi];simp
 ·rcases D.tmp j i hjx hi h1 with h2|h2
  ·have:S j=false:=by
    cases h3:S j with
    | false=>rfl
    | true=>rw [hS j hjx h3 i h2] at hSi;cases hSi
   rw [this];simp;omega
  ·exact absurd ht ((zqP h2).2 t hd)
theorem Dr.heap (D:Dr P cr n ops xs fr0 h0 E) {S:Nat→Bool} (hS:Down xs S) {i:Nat} (hi:i<xs.length) (hi':i<E.length) (hSi:S i=false) (hanc:∀ j∈xs[i].2,S j=true) {m:Nat} (hm:(hA h0 E).length=h0.length+m) {id:Nat} (ht:id∈E[i].rd) :
  ((RR.hS S 0 E (h0++List.replicate m .dead))[id]?).getD .dead=((hA h0 (E.take i))[id]?).getD .dead:=by
 have hle:(hA h0 (E.take i)).length≤h0.length+m:=by
  rw [←hm]
  have:=zc2 (E.drop i) (hA h0 (E.take i))
  unfold hA at this ⊢
  rwa [←List.foldl_append,List.take_append_drop] at this
 obtain ⟨m',e1,e2⟩:=zDD E i 0 m h0 D.le hle
 have e3:((hA h0 (E.take i))[id]?).getD .dead=((hA h0 (E.take i)++List.replicate m' .dead)[id]?).getD .dead:=by
  rcases Nat.lt_or_ge id (hA h0 (E.take i)).length with h1|h1
  ·rw [List.getElem?_append_left h1]
  ·rw [List.getElem?_append_right h1,List.getElem?_eq_none h1]
   rcases Nat.lt_or_ge (id-(hA h0 (E.take i)).length) m' with h2|h2
   ·simp [h2]
   ·rw [List.getElem?_eq_none (by simpa using h2)]
 rw [e3,←e2]
 congr 1
 rcases Nat.lt_or_ge id (h0++List.replicate m Ob.dead).length with h1|h1
 ·rw [zrT _ _ _ _ _ h1,zrT _ _ _ _ _ h1]
  congr 2
  refine zfy fun j v hj=>?_
  obtain ⟨hj,hw⟩:=zm6 hj
  have hjx:j<xs.length:=D.len▸hj
  simp only [Nat.zero_add]
  rcases Nat.lt_trichotomy j i with h1|h1|h1
  ·rcases D.apt hi' hj h1 with h2|h2|h2
   ·rw [hanc j h2];simp [h1]
   ·rw [h2.2] at ht;simp at ht
   ·exact absurd ht ((zpN h2).2 id (by simp [Ev.rc,hw]))
  ·subst h1
   rw [hSi];simp
  ·rcases D.apt hj hi' h1 with h2|h2|h2
   ·have:S j=false:=by
     cases h3:S j with
     | false=>rfl
     | true=>rw [hS j hjx h3 i h2] at hSi;cases hSi
    rw [this];simp;omega
   ·rw [h2.1] at hw;cases hw
   ·exact absurd ht ((zpN h2).1 id (by simp [Ev.rc,hw])).1
 ·rw [List.getElem?_eq_none (by rw [zfU];exact h1),List.getElem?_eq_none (by rw [zfU];exact h1)]
def ins (S:Nat→Bool) (i j:Nat):Bool:=j==i||S j
theorem Dr.frame (D:Dr P cr n ops xs fr0 h0 E) {S:Nat→Bool} (hS:Down xs S) {i:Nat} (hi:i<E.length) (hSi:S i=false) (t:Nat):get (frS (ins S i) 0 E fr0) t=get (zdI (frS S 0 E fr0) E[i].d E[i].v) t:=by
 have hix:i<xs.length:=D.len▸hi
 have e:get (zdI (frS S 0 E fr0) E[i].d E[i].v) t=if E[i].d=some t then E[i].v else get (frS S 0 E fr0) t:=zuI (frS S 0 E fr0) E[i] t
 rw [e,zml]
 split
 ·rename_i hd
  have:last (ins S i) 0 (slots E t)=some E[i].v:=by
   refine zut (i:=i) (by simp [slots,hi,hd]) (by simp [ins]) fun j b hij hb=>?_
   obtain ⟨hj,hd',_⟩:=zp4 hb
   have hjx:j<xs.length:=D.len▸hj
   have h3:S j=false:=by
    cases h3:S j with
    | false=>rfl
    | true=>
     rcases D.tmp j i hjx hix hij with h2|h2
     ·rw [hS j hjx h3 i h2] at hSi;cases hSi
     ·rw [(D.at_ j hjx hj).d] at hd'
      rw [(D.at_ i hix hi).d] at hd
      exact absurd hd' ((zqP h2).1 t hd).2
   simp [ins,h3];omega
  rw [this];rfl
 ·rename_i hd
  rw [zml]
  congr 1
  refine zfy fun j v hj=>?_
  obtain ⟨hj,hd',_⟩:=zp4 hj
  have:j≠i:=fun e=>hd (by subst e;exact hd')
  simp [ins,this]
theorem Dr.room (D:Dr P cr n ops xs fr0 h0 E) {S:Nat→Bool} (hS:Down xs S) {i:Nat} (hi:i<E.length) (hSi:S i=false) {m:Nat} (hm:(hA h0 E).length=h0.length+m) :
  RR.hS (ins S i) 0 E (h0++List.replicate m .dead)=wr (RR.hS S 0 E (h0++List.replicate m .dead)) E[i].w:=by
 have hix:i<xs.length:=D.len▸hi
 have hwl:∀ k o,E[i].w=some (k,o)→k<(h0++List.replicate m Ob.dead).length:=fun k o hw=>by
  have:=zCd D.le i hi k o hw
  have h2:=zc2 (E.drop (i+1)) (hA h0 (E.take (i+1)))
  unfold hA at this h2 hm
  rw [←List.foldl_append,List.take_append_drop] at h2
  simp;omega
 have e:wr (RR.hS S 0 E (h0++List.replicate m .dead)) E[i].w=zBr (RR.hS S 0 E (h0++List.replicate m .dead)) E[i]:=by
  unfold zBr wr
  cases hw:E[i].w with
  | none=>rfl
  | some p=>
   have:=hwl p.1 p.2 hw
   simp only
   rw [if_pos (by rw [zfU];exact this)]
 rw [e]
 refine List.ext_getElem? fun id=>?_
 rcases Nat.lt_or_ge id (h0++List.replicate m Ob.dead).length with h1|h1
 ·rw [zrT _ _ _ _ _ h1,zxJ _ _ _ (by rw [zfU];exact h1)]
  congr 1
  have h4:=zrT S id E 0 (h0++List.replicate m Ob.dead) h1
  rw [List.getElem?_eq_getElem (by rw [zfU];exact h1),Option.some.injEq] at h4
  rw [h4]
  cases hw:E[i].w with
  | none=>
   simp only [Option.getD_none]
   congr 1
   refine zfy fun j v hj=>?_
   obtain ⟨hj,hw'⟩:=zm6 hj
   have:j≠i:=fun e=>by subst e;rw [hw] at hw';cases hw'
   simp [ins,this]
  | some p=>
   obtain ⟨k,o⟩:=p
   simp only
   by_cases hk:k=id
   ·subst hk
    simp only [if_true,Option.getD_some]
    have:last (ins S i) 0 (heaps E k)=some o:=by
     refine zut (i:=i) (by simp [heaps,hi,hw]) (by simp [ins]) fun j b hij hb=>?_
     obtain ⟨hj,hw'⟩:=zm6 hb
     have hjx:j<xs.length:=D.len▸hj
     have h3:S j=false:=by
      cases h3:S j with
      | false=>rfl
      | true=>
       rcases D.apt hj hi hij with h2|h2|h2
       ·rw [hS j hjx h3 i h2] at hSi;cases hSi
       ·rw [h2.1] at hw';cases hw'
       ·exact absurd (by simp [Ev.rc,hw]) ((zpN h2).1 k (by simp [Ev.rc,hw'])).2
     simp [ins,h3];omega
    rw [this];rfl
   ·simp only [if_neg hk,Option.getD_none]
    congr 1
    refine zfy fun j v hj=>?_
    obtain ⟨hj,hw'⟩:=zm6 hj
    have:j≠i:=fun e=>by subst e;rw [hw] at hw';cases hw';exact hk rfl
    simp [ins,this]
 ·rw [List.getElem?_eq_none (by rw [zfU];exact h1),List.getElem?_eq_none (by rw [zpn,zfU];exact h1)]
theorem Dr.fresh (D:Dr P cr n ops xs fr0 h0 E) {S:Nat→Bool} (hS:Down xs S) {i:Nat} (hi:i<E.length) (hSi:S i=false) {o:Ob} (hw:E[i].w=some ((hA h0 (E.take i)).length,o)):∀ j (hj:j<E.length) o',S j=true→E[j].w≠some ((hA h0 (E.take i)).length,o'):=by
 intro j hj o' hSj hw'
 have hjx:j<xs.length:=D.len▸hj
 rcases Nat.lt_trichotomy j i with h1|h1|h1
 ·have h2:=zCd D.le j hj _ _ hw'
  have h3:=zc2 ((E.take i).drop (j+1)) (hA h0 (E.take (j+1)))
  have:(E.take i).take (j+1)=E.take (j+1):=by rw [List.take_take];congr 1;omega
  unfold hA at h2 h3
  rw [←List.foldl_append,←this,List.take_append_drop,this] at h3
  omega
 ·subst h1;rw [hSi] at hSj;cases hSj
 ·rcases D.apt hj hi h1 with h2|h2|h2
  ·rw [hS j hjx hSj i h2] at hSi;cases hSi
  ·rw [h2.1] at hw';cases hw'
  ·exact absurd (by simp [Ev.rc,hw]) ((zpN h2).1 (hA h0 (E.take i)).length (by simp [Ev.rc,hw'])).2
end
variable {P:Program} {g:GW} {ρ:Option Nat}
theorem Pst.pad {w:World} {M:Nat→Prop} {ν:Nu} {h:List Ob} {m:Nat} {w':World} {M':Nat→Prop} {ν':Nu} {h':List Ob} (p:Pst w M ν (h++List.replicate m .dead) w' M' ν' h'):Pst w M ν h w' M' ν' h':=by
 have key:∀ b,Mine ν (h++List.replicate m .dead) b→Mine ν h b:=by
  rintro b ⟨i,hi,hl,L,hL,rfl⟩
  have hlt:i<h.length:=by
   rcases Nat.lt_or_ge i h.length with h1|h1
   ·exact h1
   ·rw [List.getElem_append_right h1] at hl
    simp [live] at hl
  rw [List.getElem_append_left hlt] at hl
  exact ⟨i,hlt,hl,L,hL,rfl⟩
 exact ⟨p.hr,p.hM,fun b hb=>(p.hM' b hb).imp _root_.id fun h1=>h1.imp (key b) _root_.id,p.le,⟨p.stp.os,p.stp.tape,p.stp.output,p.stp.size,fun k hk hm=>p.stp.block k hk fun h1=>hm (key k h1)⟩,fun b hb=>(p.mine b hb).imp (key b) id⟩
theorem HR.pad {w:World} {M:Nat→Prop} {ν:Nu} {h:List Ob} (hh:HR w M ν h) (m:Nat):HR w M ν (h++List.replicate m .dead):=by
 have key:∀ i (hi:i<(h++List.replicate m Ob.dead).length),live (h++List.replicate m Ob.dead)[i]=true→∃ hlt:i<h.length,(h++List.replicate m Ob.dead)[i]=h[i]:=by
  intro i hi hl
  have hlt:i<h.length:=by
   rcases Nat.lt_or_ge i h.length with h1|h1
   ·exact h1
   ·rw [List.getElem_append_right h1] at hl
    simp [live] at hl
  exact ⟨hlt,List.getElem_append_left hlt⟩
 refine ⟨fun i hi hl=>?_,fun i j hi hj Li Lj hij hl hl'=>?_,fun i hi=>hh.new i (by simp at hi;omega),hh.lt⟩
 ·obtain ⟨hlt,e⟩:=key i hi hl
  rw [e] at hl ⊢
  exact hh.ob i hlt hl
 ·obtain ⟨h1,e1⟩:=key i hi hl
  obtain ⟨h2,e2⟩:=key j hj hl'
  rw [e1] at hl
  rw [e2] at hl'
  exact hh.apart i j h1 h2 Li Lj hij hl hl'
theorem ziU.congr {w:World} {M:Nat→Prop} {ν:Nu} {n:Nat} {fr fr':Fr} {a:Act} (hf:ziU w M ν n fr a) (h:∀ t,get fr' t=get fr t):ziU w M ν n fr' a:=
 ⟨fun t=>by rw [h];exact hf.fr t,hf.n⟩
theorem put_defers' {a:Act} {d:Option Nat} {u:Value}:(a.put d u).defers=a.defers:=by cases d<;>rfl
theorem zc7 {listed:Array Bool} {i:Nat} (hi:i<listed.size) (j:Nat):(listed.setIfInBounds i true).getD j false=ins (fun j=>listed.getD j false) i j:=by
 unfold ins
 by_cases h:j=i
 ·subst h
  simp [hi]
 ·rw [getD_set_ne false (Ne.symm h)]
  simp [h]
section
variable {cr:zaw} {n:Nat} {ops:Array Oper} {xs:List (In×List Nat)} {fr0:Fr} {h0:List Ob} {E:List Ev}
theorem Dr.any (hcr:CRok P g cr) (D:Dr P cr n ops xs fr0 h0 E) {m:Nat} (hm:(hA h0 E).length=h0.length+m) {Q:Exit→Act→World→Prop} :
  ∀ (fuel:Nat) (listed:Array Bool) (U:List Nat) (a:Act) (w:World) (M:Nat→Prop) (ν:Nu),listed.size=ops.size→Down xs (fun j=>listed.getD j false)→U.length≤fuel→(∀ j,listed.getD j true=false→j∈U) →
   ziU w M ν n (frS (fun j=>listed.getD j false) 0 E fr0) a→HR w M ν (RR.hS (fun j=>listed.getD j false) 0 E (h0++List.replicate m .dead))→Inv g w M ν →
   (∀ k,h0.length≤k→(∀ j (hj:j<E.length) o,listed.getD j false=true→E[j].w≠some (k,o))→ν k=none) →
   (∀ a' w' M' ν',ziU w' M' ν' n (frA fr0 E) a'→Pst w M ν (RR.hS (fun j=>listed.getD j false) 0 E (h0++List.replicate m .dead)) w' M' ν' (hA h0 E)→a'.defers=a.defers→Q .normal a' w') →
   wpAnyIn (FW ρ) 0 P .any ops Q fuel listed a w:=by
 intro fuel
 have fin:∀ (listed:Array Bool) (a:Act) (w:World) (M:Nat→Prop) (ν:Nu),listed.size=ops.size→Region.ready .any ops listed=[] →
   ziU w M ν n (frS (fun j=>listed.getD j false) 0 E fr0) a→HR w M ν (RR.hS (fun j=>listed.getD j false) 0 E (h0++List.replicate m .dead)) →
   (∀ a' w' M' ν',ziU w' M' ν' n (frA fr0 E) a'→Pst w M ν (RR.hS (fun j=>listed.getD j false) 0 E (h0++List.replicate m .dead)) w' M' ν' (hA h0 E)→a'.defers=a.defers→Q .normal a' w')→Q .normal a w:=by
  intro listed a w M ν hsz hr hf hh hQ
  have hall:∀ j,j<ops.size→listed.getD j false=true:=by
   intro j
   induction j using Nat.strongRecOn with
   | _ j ih=>
    intro hj
    cases hb:listed.getD j false with
    | true=>rfl
    | false=>
     have:j∈Region.ready .any ops listed:=by
      rw [mem_ready]
      refine ⟨?_,ops[j],by simp [hj],fun e he hb'=>ih e.on (D.edge j hj e he hb') (by have:=D.edge j hj e he hb';omega)⟩
      have hjl:j<listed.size:=by omega
      simp only [Array.getD_eq_getD_getElem?,Array.getElem?_eq_getElem hjl,Option.getD_some] at hb ⊢
      exact hb
     rw [hr] at this
     simp at this
  have e1:frS (fun j=>listed.getD j false) 0 E fr0=frA fr0 E:=by
   rw [znU (T:=fun j=>decide (j<0+E.length)) fun j hj=>by
    have:=hall (0+j) (by have:=D.sz;have:=D.len;omega)
    simp only [this];simp [hj]]
   rw [zua]
   simp
  have e2:RR.hS (fun j=>listed.getD j false) 0 E (h0++List.replicate m .dead)=hA h0 E:=by
   rw [zya (T:=fun j=>decide (j<0+E.length)) fun j hj=>by
    have:=hall (0+j) (by have:=D.sz;have:=D.len;omega)
    simp only [this];simp [hj]]
   obtain ⟨m',e1,e2⟩:=zDD E E.length 0 m h0 D.le (by simp;omega)
   rw [e2]
   simp only [List.take_length] at e1 ⊢
   have:m'=0:=by omega
   subst this
   simp
  rw [e1] at hf
  rw [e2] at hh hQ
  exact hQ a w M ν hf (.refl hh) rfl
 induction fuel with
 | zero=>
  intro listed U a w M ν hsz hdn hU hin hf hh hi hnew hQ
  have hU0:U=[]:=List.length_eq_zero_iff.1 (by omega)
  have hr:Region.ready .any ops listed=[]:=by
   apply List.eq_nil_iff_forall_not_mem.2
   intro j hj
   have:=hin j (mem_ready.1 hj).1
   rw [hU0] at this
   simp at this
  exact ⟨hr,fin listed a w M ν hsz hr hf hh hQ⟩
 | succ fuel ih=>
  intro listed U a w M ν hsz hdn hU hin hf hh hi hnew hQ
  refine ⟨fun hr=>fin listed a w M ν hsz hr hf hh hQ,fun i hir=>?_⟩
  obtain ⟨hl1,o,ho,hbind⟩:=mem_ready.1 hir
  obtain ⟨hio,rfl⟩:=Array.getElem?_eq_some_iff.1 ho
  have hil:i<listed.size:=by omega
  have hix:i<xs.length:=by have:=D.sz;omega
  have hiE:i<E.length:=by have:=D.len;omega
  have hSi:listed.getD i false=false:=by
   simp only [Array.getD_eq_getD_getElem?,Array.getElem?_eq_getElem hil,Option.getD_some] at hl1 ⊢
   exact hl1
  have hanc:∀ j∈xs[i].2,listed.getD j false=true:=by
   intro j hj
   obtain ⟨e,he,hb,hh⟩:=D.anc i hio hix j hj
   have h1:=hbind e he hb
   rcases hh with rfl|⟨hk,hj⟩
   ·exact h1
   ·exact hdn e.on hk h1 j hj
  have A:=D.at_ i hix hiE
  have hmi:=D.m i hio hix
  have hmi':=hmi
  simp only [mIn,Bool.and_eq_true] at hmi'
  obtain ⟨⟨hd,hg⟩,hx⟩:=hmi'
  obtain ⟨ed,hdlt⟩:=zri hd
  -- what is known at the next place
  have hS':(fun j=>(listed.setIfInBounds i true).getD j false)=ins (fun j=>listed.getD j false) i:=funext fun j=>zc7 hil j
  have next:∀ (u:Value) (w':World) (M':Nat→Prop) (ν':Nu),Rel w' M' ν' E[i].v u→Pst w M ν (RR.hS (fun j=>listed.getD j false) 0 E (h0++List.replicate m .dead)) w' M' ν' (wr (RR.hS (fun j=>listed.getD j false) 0 E (h0++List.replicate m .dead)) E[i].w)→(∀ k,(∀ x,E[i].w≠some (k,x))→ν' k=ν k) →
    wpAnyIn (FW ρ) 0 P .any ops Q fuel (listed.setIfInBounds i true) (a.put ops[i].dst u) w':=by
   intro u w' M' ν' hv p hk
   have hf1:=(hf.step hh p).put (d:=E[i].d) (v:=E[i].v) (u:=u) (by rw [A.d];exact hdlt) hv
   have hdd:a.put ops[i].dst u=a.put E[i].d u:=by rw [A.d,ed]
   rw [hdd]
   have p':=p
   rw [←D.room hdn hiE hSi hm] at p'
   refine ih _ (U.erase i) _ w' M' ν' (by simpa using hsz) ?_ ?_ ?_ ?_ ?_ ?_ ?_ ?_
   ·intro k hk hk1 j hj
    have h1:ins (fun j=>listed.getD j false) i k=true:=by rw [←zc7 hil];exact hk1
    have:ins (fun j=>listed.getD j false) i j=true:=by
     unfold ins at h1 ⊢
     simp only [Bool.or_eq_true,beq_iff_eq] at h1 ⊢
     rcases h1 with rfl|h1
     ·exact .inr (hanc j hj)
     ·exact .inr (hdn k hk h1 j hj)
    rw [←zc7 hil] at this
    exact this
   ·have:=List.length_erase_of_mem (hin i hl1)
    omega
   ·intro j hj
    have hji:j≠i:=by
     intro e
     subst e
     simp [hil] at hj
    rw [getD_set_ne true (Ne.symm hji)] at hj
    exact (List.mem_erase_of_ne hji).2 (hin j hj)
   ·rw [hS']
    exact hf1.congr fun t=>D.frame hdn hiE hSi t
   ·rw [hS']
    exact p'.hr
   ·exact hi.step (p.same hh) p.hM p.le
   ·intro k hk0 hkw
    have h1:∀ x,E[i].w≠some (k,x):=fun x=>hkw i hiE x (by rw [zc7 hil];simp [ins])
    rw [hk k h1]
    exact hnew k hk0 fun j hj o hl=>hkw j hj o (getD_set_true hl)
   ·rw [hS']
    intro a' w2 M2 ν2 hf2 p2 hd2
    exact hQ a' w2 M2 ν2 hf2 (p'.trans p2) (by rw [hd2,put_defers'])
  unfold wpOpIn
  rw [ho]
  simp only
  have hwant:∀ b,wanted (frA fr0 (E.take i)) xs[i].1.g=some b→Region.wanted ops[i] (yielded ops a.tmps)=b:=by
   intro b hb
   refine zcu hf hg ?_
   rw [←hb]
   unfold wanted
   split
   ·rfl
   ·rename_i t c eg
    rw [D.slot hdn hix hSi hanc (t:=t) (by simp [nms,eg])]
  rcases A.val with ⟨h1,h2,h3⟩|⟨h1,h2,h3,h4⟩
  ·rw [if_pos (hwant _ h1)]
   refine Oper.wpR_in (zsG hx) ?_
   -- the operation, at this place
   have hop:∀ o∈zcW xs[i].1.i,o.ev (frA fr0 (E.take i))=o.ev (frS (fun j=>listed.getD j false) 0 E fr0):=by
    intro o ho
    cases o with
    | c v=>rfl
    | t t=>exact (D.slot hdn hix hSi hanc (t:=t) (List.mem_append_right _ (List.mem_flatMap.2 ⟨_,ho,by simp [O.slot]⟩))).symm
   have hid:∀ id∈rdI (frA fr0 (E.take i)) xs[i].1.i,((hA h0 (E.take i))[id]?).getD .dead=((RR.hS (fun j=>listed.getD j false) 0 E (h0++List.replicate m .dead))[id]?).getD .dead:=fun id hid=>(D.heap hdn hix hiE hSi hanc hm (by rw [h3];exact hid)).symm
   have hlen:(RR.hS (fun j=>listed.getD j false) 0 E (h0++List.replicate m .dead)).length=h0.length+m:=by rw [zfU];simp
   have fresh:ν (h0.length+m)=none:=hh.new _ (by rw [hlen];exact Nat.le_refl _)
   rcases zzx h2 with ⟨o,hw⟩|hany
   ·have hkl:=zCd D.le i hiE _ _ hw
    have hle2:=zc2 (E.drop (i+1)) (hA h0 (E.take (i+1)))
    have hge:=zc2 (E.take i) h0
    have hfr:=D.fresh hdn hiE hSi hw
    have hlt:(hA h0 (E.take i)).length<h0.length+m:=by
     unfold hA at hkl hle2 hm ⊢
     rw [←List.foldl_append,List.take_append_drop] at hle2
     omega
    rw [zsY hop hid] at h2
    refine zsn hcr hmi hf hh hi (hnew _ hge fun j hj o' hl=>hfr j hj o' hl) (by rw [hlen];omega) (fun hb=>?_) h2 next
    have:=zrT (fun j=>listed.getD j false) (hA h0 (E.take i)).length E 0 (h0++List.replicate m Ob.dead) (by simp;omega)
    rw [List.getElem?_eq_getElem hb,Option.some.injEq] at this
    rw [this,zso fun j o' hj=>?_]
    ·simp only [Option.getD_none]
     rw [List.getElem_append_right hge]
     simp [live]
    ·obtain ⟨hj,hw'⟩:=zm6 hj
     cases hc:listed.getD (0+j) false with
     | false=>rfl
     | true=>
      rw [Nat.zero_add] at hc
      exact absurd hw' (hfr j hj o' hc)
   ·have h5:=hany (h0.length+m)
    rw [zsY hop hid] at h5
    exact zsn hcr hmi hf hh hi fresh (by rw [hlen];exact Nat.le_refl _) (fun hb=>absurd hb (by rw [hlen];omega)) h5 next
  ·rw [if_neg (by rw [hwant _ h1];simp)]
   refine ⟨fun _ _=>trivial,?_⟩
   exact next undef w M ν (by rw [h2];exact zp3) (by rw [h3];exact .refl hh) fun _ _=>rfl
end
end Go.RR
namespace Go.RR
theorem zsx {nid:Nat} {fr:Fr} {h:List Ob} {i:I} {v:V} {wv:Option (Nat×Ob)} (hq:qI i=true) (he:op1 nid fr h i=some (v,wv)):wv=none:=by
 cases i<;>simp only [qI,Bool.false_eq_true] at hq
 case op j xs=>
  cases j<;>simp only [qI,Bool.false_eq_true] at hq
  all_goals
   simp only [op1,opJ] at he
   repeat' (split at he<;>try contradiction)
   all_goals first
    | (cases he;rfl)
    | (simp only [Option.map_eq_some_iff,Prod.mk.injEq] at he;obtain ⟨_,_,_,rfl⟩:=he;rfl)
 case sll sz x lo hi mx=>
  simp only [op1] at he
  repeat' (split at he<;>try contradiction)
  all_goals first
   | (cases he;rfl)
   | (simp only [Option.map_eq_some_iff,Prod.mk.injEq] at he;obtain ⟨_,_,_,rfl⟩:=he;rfl)
 case bsf=>exact absurd (show (none:Option (V×Option (Nat×Ob)))=some (v,wv) from he) (by simp)
 case call=>exact absurd (show (none:Option (V×Option (Nat×Ob)))=some (v,wv) from he) (by simp)
 case callv=>exact absurd (show (none:Option (V×Option (Nat×Ob)))=some (v,wv) from he) (by simp)
 all_goals
  simp only [op1] at he
  repeat' (split at he<;>try contradiction)
  all_goals first
   | (cases he;rfl)
   | (simp only [Option.map_eq_some_iff,Prod.mk.injEq] at he;obtain ⟨_,_,_,rfl⟩:=he;rfl)
theorem zpj {cr:zaw} {nid:Nat} {fr:Fr} {h:List Ob} {i:I} (hq:qI i=true) (hn:nid=h.length):step (crD cr) fr h i=(zai cr nid fr h i).map (fun p=>St1.val p.1 h)∧∀ v wv,zai cr nid fr h i=some (v,wv)→wv=none:=by
 subst hn
 have gen:(zai cr h.length fr h i=op1 h.length fr h i)→(step (crD cr) fr h i=match op1 h.length fr h i with
   | some (v,w)=>some (.val v (wr h w))
   | none=>none)→step (crD cr) fr h i=(zai cr h.length fr h i).map (fun p=>St1.val p.1 h)∧∀ v wv,zai cr h.length fr h i=some (v,wv)→wv=none:=by
  intro h1 h2
  rw [h1,h2]
  refine ⟨?_,fun v wv he=>zsx hq he⟩
  cases ho:op1 h.length fr h i with
  | none=>rfl
  | some p=>
   obtain ⟨v,wv⟩:=p
   have:=zsx hq ho
   subst this
   rfl
 cases i<;>simp only [qI,Bool.false_eq_true] at hq
 case bsf z n ps=>
  simp only [step,zai]
  cases zia (List.replicate n z) (ps.map fun p=>(p.1,p.2.ev fr)) with
  | none=>exact ⟨rfl,fun v wv he=>by cases he⟩
  | some xs=>
   simp only
   cases zii z xs with
   | none=>exact ⟨rfl,fun v wv he=>by cases he⟩
   | some v=>exact ⟨rfl,fun v wv he=>by cases he;rfl⟩
 case call f xs=>
  simp only [step,zai,crD]
  cases callq cr h f (xs.map (O.ev fr)) with
  | none=>exact ⟨rfl,fun v wv he=>by cases he⟩
  | some v=>exact ⟨rfl,fun v wv he=>by cases he;rfl⟩
 case callv f xs=>
  simp only [step,zai,crD]
  generalize f.ev fr=g
  cases g with
  | fn f a b=>
   cases f with
   | func f=>
    simp only
    cases callq cr h f (a++xs.map (O.ev fr)++b) with
    | none=>exact ⟨rfl,fun v wv he=>by cases he⟩
    | some v=>exact ⟨rfl,fun v wv he=>by cases he;rfl⟩
   | _=>exact ⟨rfl,fun v wv he=>by cases he⟩
  | _=>exact ⟨rfl,fun v wv he=>by cases he⟩
 all_goals exact gen rfl rfl
theorem ztb {anc:List Nat} {rd:List Nat}:∀ (done:List Rc) (k:Nat),(∀ r∈done,r.w=none)→zjg anc ⟨rd,none⟩ k done=true
 | [],_,_=>rfl
 | r::s,k,h=>by
  simp only [zjg,apart,h r (by simp),Bool.true_and,Bool.or_true]
  exact ztb s (k+1) fun r hr=>h r (by simp [hr])
theorem zlR {cr:zaw} {x:In×List Nat} {l:List (In×List Nat)} {fr:Fr} {h:List Ob}:evQ cr (x::l) fr h=match zak (crD cr) [x.1] fr h with
  | some (.nrm,fr',h')=>evQ cr l fr' h'
  | r=>r:=rfl
theorem zEx {fr:Fr} {h:List Ob} {i:I} {v:V} {wv:Option (Nat×Ob)} (he:op1 h.length fr h i=some (v,wv)):leW wv h.length=true:=by
 cases wv with
 | none=>rfl
 | some p=>
  obtain ⟨id,o⟩:=p
  simp only [leW,decide_eq_true_eq]
  have hrow:∀ {id tot z xs},zaF h id tot=some (z,xs)→id≤h.length:=fun {id tot z xs} e=>by
   unfold zaF at e
   split at e<;>try contradiction
   rename_i hx
   exact Nat.le_of_lt (List.getElem?_eq_some_iff.1 hx).1
  have hmap:∀ {m id es c},zgc h m=some (some (id,es,c))→id≤h.length:=fun {m id es c} e=>by
   unfold zgc at e
   split at e<;>try contradiction
   ·cases e
   ·split at e<;>try contradiction
    rename_i hx
    cases e
    exact Nat.le_of_lt (List.getElem?_eq_some_iff.1 hx).1
  cases hq:qI i with
  | true=>exact absurd (zsx hq he) (by simp)
  | false=>
   cases i<;>simp only [qI,Bool.true_eq_false] at hq
   case op j xs=>
    simp only [op1] at he
    generalize xs.map (O.ev fr)=vs at he
    cases j<;>simp only [Bool.true_eq_false] at hq<;>simp only [opJ] at he
    all_goals
     repeat' (split at he<;>try contradiction)
     all_goals first
      | (cases he;exact Nat.le_refl _)
      | (cases he;rename_i hm _ _;exact hmap hm)
      | (cases he;rename_i hm _;exact hmap hm)
      | (cases he;rename_i hm _ _ _;exact hmap hm)
      | (cases he;rename_i hm _ _ _ _;exact hmap hm)
      | (cases he;rename_i hm;exact hmap hm)
      | (cases he;done)
   case app sz b s x=>
    simp only [op1] at he
    split at he<;>try contradiction
    split at he<;>try contradiction
    split at he<;>try contradiction
    ·split at he
     ·cases he
     ·split at he<;>try contradiction
      cases he
      exact Nat.le_refl _
    ·split at he<;>try contradiction
     rename_i hr
     split at he
     ·cases he
     ·split at he
      ·cases he
       exact hrow hr
      ·split at he<;>try contradiction
       cases he
       exact hrow hr
   case st sz a x=>
    simp only [op1] at he
    split at he<;>try contradiction
    split at he<;>try contradiction
    rename_i hr
    split at he<;>try contradiction
    split at he<;>try contradiction
    split at he<;>try contradiction
    cases he
    exact hrow hr
   case pan=>exact absurd (show (none:Option (V×Option (Nat×Ob)))=some (v,some (id,o)) from he) (by simp)
   case fz=>exact absurd (show (none:Option (V×Option (Nat×Ob)))=some (v,some (id,o)) from he) (by simp)
   case fzd=>exact absurd (show (none:Option (V×Option (Nat×Ob)))=some (v,some (id,o)) from he) (by simp)
   case cx=>exact absurd (show (none:Option (V×Option (Nat×Ob)))=some (v,some (id,o)) from he) (by simp)
   all_goals
    simp only [op1] at he
    repeat' (split at he<;>try contradiction)
    all_goals first
     | (cases he;exact Nat.le_refl _)
     | (simp only [Option.map_eq_some_iff,Prod.mk.injEq,Option.some.injEq] at he;obtain ⟨_,_,_,rfl,_⟩:=he;exact Nat.le_refl _)
theorem zpc {anc:List Nat} {x:Rc}:∀ (done:List Rc) (k:Nat),(∀ j,k≤j→j<k+done.length→anc.contains j=true)→zjg anc x k done=true
 | [],_,_=>rfl
 | r::s,k,h=>by
  simp only [zjg,h k (Nat.le_refl _) (by simp),Bool.true_or,Bool.true_and]
  exact zpc s (k+1) fun j h1 h2=>h j (by omega) (by simp;omega)
theorem zwc {k:Nat} {a:List Nat} (h:zzP k a=true) {j:Nat} (hj:j<k):a.contains j=true:=by
 unfold zzP at h
 exact List.all_eq_true.1 h j (List.mem_range.2 hj)
theorem zyS {cr:zaw} {fr:Fr} {h:List Ob} {i:I} (hp:zy0 i=false):step (crD cr) fr h i=(zai cr h.length fr h i).map (fun p=>St1.val p.1 (wr h p.2))∧∀ v wv,zai cr h.length fr h i=some (v,wv)→leW wv h.length=true:=by
 cases hq:qI i with
 | true=>
  obtain ⟨h1,h2⟩:=zpj (cr:=cr) (fr:=fr) (h:=h) hq rfl
  rw [h1]
  cases ho:zai cr h.length fr h i with
  | none=>exact ⟨rfl,fun _ _ he=>by cases he⟩
  | some p=>
   obtain ⟨v,wv⟩:=p
   have:=h2 v wv ho
   subst this
   exact ⟨rfl,fun v' wv' he=>by cases he;rfl⟩
 | false=>
  have gen:(zai cr h.length fr h i=op1 h.length fr h i)→(step (crD cr) fr h i=match op1 h.length fr h i with
    | some (v,w)=>some (.val v (wr h w))
    | none=>none)→step (crD cr) fr h i=(zai cr h.length fr h i).map (fun p=>St1.val p.1 (wr h p.2))∧∀ v wv,zai cr h.length fr h i=some (v,wv)→leW wv h.length=true:=by
   intro h1 h2
   rw [h1,h2]
   refine ⟨?_,fun v wv he=>zEx he⟩
   cases ho:op1 h.length fr h i with
   | none=>rfl
   | some p=>rfl
  cases i<;>simp only [qI,Bool.true_eq_false] at hq
  case pan=>simp [zy0] at hp
  case fz=>simp [zy0] at hp
  case fzd=>simp [zy0] at hp
  case cx=>simp [zy0] at hp
  all_goals exact gen rfl rfl
theorem zm0 {cr:zaw}:∀ (l:List (In×List Nat)) (ws:Bool) (done:List Rc) (fr:Fr) (h:List Ob),calm done.length ws l=true→(ws=false→∀ r∈done,r.w=none)→zqT cr l done fr h=evQ cr l fr h
 | [],_,_,_,_,_,_=>rfl
 | x::l,ws,done,fr,h,hc,hd=>by
  have key:∀ rd,(ws=false→∀ r∈done++[(⟨rd,none⟩:Rc)],r.w=none):=by
   intro rd hws r hr
   rcases List.mem_append.1 hr with hr|hr
   ·exact hd hws r hr
   ·rw [List.mem_singleton.1 hr]
  have len:∀ r:Rc,(done++[r]).length=done.length+1:=fun r=>by simp
  rw [zlR]
  simp only [zqT,zak]
  unfold calm at hc
  by_cases hq:(qI x.1.i&&(!ws||zzP done.length x.2))=true
  ·rw [if_pos hq] at hc
   simp only [Bool.and_eq_true,Bool.or_eq_true,Bool.not_eq_true'] at hq
   cases hw:wanted fr x.1.g with
   | none=>rfl
   | some b=>
    cases b with
    | false=>exact zm0 l ws _ _ _ (by rw [len];exact hc) (key _)
    | true=>
     obtain ⟨h1,h2⟩:=zpj (cr:=cr) (fr:=fr) (h:=h) hq.1 rfl
     simp only [h1]
     cases ho:zai cr h.length fr h x.1.i with
     | none=>rfl
     | some p=>
      obtain ⟨v,wv⟩:=p
      have:=h2 v wv ho
      subst this
      have hap:zjg x.2 ⟨rdI fr x.1.i,none⟩ 0 done=true:=by
       rcases hq.2 with hws|hfull
       ·exact ztb done 0 (hd hws)
       ·exact zpc done 0 fun j _ hj=>zwc hfull (by omega)
      simp only [Option.map_none,hap,leW,Bool.and_self,if_true,Option.map_some]
      exact zm0 l ws _ _ _ (by rw [len];exact hc) (key _)
  ·rw [if_neg hq] at hc
   simp only [Bool.and_eq_true,Bool.not_eq_true'] at hc
   obtain ⟨⟨hfull,hpan⟩,hc⟩:=hc
   cases hw:wanted fr x.1.g with
   | none=>rfl
   | some b=>
    cases b with
    | false=>exact zm0 l true _ _ _ (by rw [len];exact hc) (fun h=>by cases h)
    | true=>
     obtain ⟨h1,h2⟩:=zyS (cr:=cr) (fr:=fr) (h:=h) hpan
     simp only [h1]
     cases ho:zai cr h.length fr h x.1.i with
     | none=>rfl
     | some p=>
      obtain ⟨v,wv⟩:=p
      have hle:=h2 v wv ho
      have hap:zjg x.2 ⟨rdI fr x.1.i,wv.map (·.1)⟩ 0 done=true:=zpc done 0 fun j _ hj=>zwc hfull (by omega)
      simp only [hap,hle,Bool.and_self,if_true,Option.map_some]
      exact zm0 l true _ _ _ (by rw [len];exact hc) (fun h=>by cases h)
end Go.RR
namespace Go.RR
open Go.RowKit
mutual
theorem V.beq_eq:∀ {a b:V},V.beq a b=true→a=b
 | .int k n,b,h=>by cases b<;>simp_all [V.beq]
 | .bool x,b,h=>by cases b<;>simp_all [V.beq]
 | .str s,b,h=>by cases b<;>simp_all [V.beq]
 | .agg xs,b,h=>by cases b<;>simp only [V.beq,Bool.false_eq_true] at h;rw [beqL_eq h]
 | .tup xs,b,h=>by cases b<;>simp only [V.beq,Bool.false_eq_true] at h;rw [beqL_eq h]
 | .sl z xs,b,h=>by
  cases b<;>simp only [V.beq,Bool.false_eq_true,Bool.and_eq_true,beq_iff_eq] at h
  rw [beqL_eq h.2,h.1]
 | .nsl z,b,h=>by cases b<;>simp_all [V.beq]
 | .pin x k,b,h=>by
  cases b<;>simp only [V.beq,Bool.false_eq_true,Bool.and_eq_true,beq_iff_eq] at h
  rw [V.beq_eq h.1,h.2]
 | .nilp,b,h=>by cases b<;>simp_all [V.beq]
 | .fn f x y,b,h=>by
  cases b<;>simp only [V.beq,Bool.false_eq_true,Bool.and_eq_true,decide_eq_true_eq] at h
  rw [beqL_eq h.1.2,beqL_eq h.2,h.1.1]
 | .nilf,b,h=>by cases b<;>simp_all [V.beq]
 | .ifc t v,b,h=>by
  cases b<;>simp only [V.beq,Bool.false_eq_true,Bool.and_eq_true,beq_iff_eq] at h
  rw [V.beq_eq h.2,h.1]
 | .nili,b,h=>by cases b<;>simp_all [V.beq]
 | .own x y z t,b,h=>by cases b<;>simp_all [V.beq]
 | .ptr x y z t,b,h=>by cases b<;>simp_all [V.beq]
 | .mp x,b,h=>by cases b<;>simp_all [V.beq]
 | .nmp,b,h=>by cases b<;>simp_all [V.beq]
 | .und,b,h=>by cases b<;>simp_all [V.beq]
theorem beqL_eq:∀ {a b:List V},beqL a b=true→a=b
 | [],b,h=>by cases b<;>simp_all [beqL]
 | x::r,b,h=>by
  cases b<;>simp only [beqL,Bool.false_eq_true,Bool.and_eq_true] at h
  rw [V.beq_eq h.1,beqL_eq h.2]
end
mutual
theorem V.beq_self:∀ (a:V),V.beq a a=true
 | .int k n=>by simp [V.beq]
 | .bool x=>by simp [V.beq]
 | .str s=>by simp [V.beq]
 | .agg xs=>by simp [V.beq,beqL_self xs]
 | .tup xs=>by simp [V.beq,beqL_self xs]
 | .sl z xs=>by simp [V.beq,beqL_self xs]
 | .nsl z=>by simp [V.beq]
 | .pin x k=>by simp [V.beq,V.beq_self x]
 | .nilp=>by simp [V.beq]
 | .fn f x y=>by simp [V.beq,beqL_self x,beqL_self y]
 | .nilf=>by simp [V.beq]
 | .ifc t v=>by simp [V.beq,V.beq_self v]
 | .nili=>by simp [V.beq]
 | .own x y z t=>by simp [V.beq]
 | .ptr x y z t=>by simp [V.beq]
 | .mp x=>by simp [V.beq]
 | .nmp=>by simp [V.beq]
 | .und=>by simp [V.beq]
theorem beqL_self:∀ (a:List V),beqL a a=true
 | []=>by simp [beqL]
 | x::r=>by simp [beqL,V.beq_self x,beqL_self r]
end
theorem zxB {cr:zaw} {fr:Fr} {h:List Ob} {i:I} {v:V} (e:qeq cr fr h i v=true):qv cr fr h i=some v:=by
 unfold qeq at e
 split at e
 ·rename_i v' hv;rw [hv,V.beq_eq e]
 ·cases e
theorem zlz {cr:zaw} {fr fr':Fr} {h:List Ob} {i:I} (h1:∀ o∈zcW i,o.ev fr=o.ev fr'):step cr fr h i=step cr fr' h i:=by
 have hp:op1 h.length fr h i=op1 h.length fr' h i:=zvf h1 fun _ _=>rfl
 cases i
 case call f xs=>
  have:xs.map (O.ev fr)=xs.map (O.ev fr'):=List.map_congr_left fun p hp=>h1 p (by simpa [zcW] using hp)
  simp only [step,this]
 case callv g xs=>
  have:xs.map (O.ev fr)=xs.map (O.ev fr'):=List.map_congr_left fun p hp=>h1 p (by simp [zcW,hp])
  simp only [step,this,h1 g (by simp [zcW])]
 case pan x=>simp only [step,h1 x (by simp [zcW])]
 case fz x=>simp only [step,h1 x (by simp [zcW])]
 case cx f xs=>
  have:xs.map (O.ev fr)=xs.map (O.ev fr'):=List.map_congr_left fun p hp=>h1 p (by simpa [zcW] using hp)
  simp only [step,this]
 case fzd ag sz x=>
  have hl:op1 h.length fr h (.ld ag sz x)=op1 h.length fr' h (.ld ag sz x):=by simp only [op1,h1 x (by simp [zcW])]
  simp only [step,hl]
 case bsf z n ps=>
  have:(ps.map fun p=>(p.1,p.2.ev fr))=ps.map fun p=>(p.1,p.2.ev fr'):=List.map_congr_left fun p hp=>by rw [h1 p.2 (by simp only [zcW];exact List.mem_map.2 ⟨p,hp,rfl⟩)]
  simp only [step,this]
 all_goals simp only [step,hp]
theorem zx9 {cr:zaw} {fr fr':Fr} {h:List Ob} {i:I} (h1:∀ o∈zcW i,o.ev fr=o.ev fr'):qv cr fr h i=qv cr fr' h i:=by
 unfold qv;rw [zlz h1]
theorem zDl {cr:zaw} {fr:Fr} {h h':List Ob} {i:I} (hq:hrd i=false) (hqi:qI i=true):qv cr fr h i=qv cr fr h' i:=by
 cases i<;>simp only [hrd,Bool.true_eq_false,Bool.false_eq_true] at hq
 case bsf z n ps=>
  unfold qv
  simp only [step]
  cases zia (List.replicate n z) (ps.map fun p=>(p.1,p.2.ev fr)) with
  | none=>rfl
  | some xs=>
   simp only
   cases zii z xs<;>rfl
 all_goals
  have gen:∀ i:I,(step (crD cr) fr h i=match op1 h.length fr h i with
    | some (v,w)=>some (.val v (wr h w))
    | none=>none)→(step (crD cr) fr h' i=match op1 h'.length fr h' i with
    | some (v,w)=>some (.val v (wr h' w))
    | none=>none)→op1 h.length fr h i=op1 h'.length fr h' i→qv cr fr h i=qv cr fr h' i:=by
   intro i e1 e2 e3
   unfold qv
   rw [e1,e2,e3]
   cases op1 h'.length fr h' i<;>rfl
  exact gen _ rfl rfl rfl
theorem zAI {cr:zaw} {fr:Fr} {h:List Ob} {i:I} {v:V} (hqi:qI i=true) (e:qv cr fr h i=some v):step (crD cr) fr h i=some (.val v h):=by
 unfold qv at e
 obtain ⟨h1,h2⟩:=zpj (cr:=cr) (fr:=fr) (h:=h) hqi rfl
 rw [h1] at e ⊢
 cases ho:zai cr h.length fr h i with
 | none=>rw [ho] at e;cases e
 | some p=>
  rw [ho] at e
  simp only [Option.map_some,Option.some.injEq] at e
  subst e
  rfl
def lgE (k:Nat) (x:In×List Nat×Bool) (fr:Fr) (h:List Ob) (v:V):Option Lg:=
 if x.2.2=true then some (.w k h) else if wanted fr x.1.g=some true∧hrd x.1.i=true then some (.q k x.1.i fr v) else none
def LgC (cr:zaw) (x:In×List Nat×Bool) (fr:Fr) (h':List Ob) (v:V) (e:Lg):Prop:=
 (x.2.2=true→lgW cr x.2.1 h' e=true)∧(x.2.2=false→wanted fr x.1.g=some true→lgQ cr x.2.1 fr x.1.i v e=true)
def AtC (cr:zaw) (x:In×List Nat×Bool) (fr:Fr) (h h':List Ob) (e:Ev):Prop:=
 e.d=x.1.d∧((wanted fr x.1.g=some false∧e.v=.tup []∧h'=h) ∨
  (wanted fr x.1.g=some true∧x.2.2=true∧step cr fr h x.1.i=some (.val e.v h')) ∨
  (wanted fr x.1.g=some true∧x.2.2=false∧qv cr fr h x.1.i=some e.v∧h'=h))
structure TrC (cr:zaw) (xs:List (In×List Nat×Bool)) (k:Nat) (lg:List Lg) (fr:Fr) (h:List Ob) (E:List Ev) (hp:Nat→List Ob):Prop where
 le:E.length≤xs.length
 h0:hp 0=h
 at_:∀ i x e,xs[i]? = some x→E[i]? = some e→AtC cr x (frA fr (E.take i)) (hp i) (hp (i+1)) e
 old:∀ i x e,xs[i]? = some x→E[i]? = some e→∀ l∈lg,LgC cr x (frA fr (E.take i)) (hp (i+1)) e.v l
 new:∀ i x e,xs[i]? = some x→E[i]? = some e→∀ j y f,j<i→xs[j]? = some y→E[j]? = some f→∀ l,lgE (k+j) y (frA fr (E.take j)) (hp j) f.v=some l→LgC cr x (frA fr (E.take i)) (hp (i+1)) e.v l
def EndC (cr:zaw) (xs:List (In×List Nat×Bool)) (k:Nat) (lg:List Lg) (fr:Fr) (E:List Ev) (hp:Nat→List Ob) (r:Rs):Prop:=
 (E.length=xs.length∧r=(.nrm,frA fr E,hp xs.length)) ∨
 ∃ x v h',xs[E.length]? = some x∧x.2.2=true∧wanted (frA fr E) x.1.g=some true∧step cr (frA fr E) (hp E.length) x.1.i=some (.pan v h')∧r=(.pan v,[],h') ∧
  (∀ i y,E.length<i→xs[i]? = some y→(k+E.length)∈y.2.1)∧(∀ l∈lg,lgP x.2.1 l=true)∧∀ j y f,xs[j]? = some y→E[j]? = some f→y.2.2=true→(k+j)∈x.2.1
theorem zz6 {cr:zaw} {x:In} {fr fr':Fr} {h h':List Ob} (e:zak cr [x] fr h=some (.nrm,fr',h')):(wanted fr x.g=some true∧∃ v,step cr fr h x.i=some (.val v h')∧fr'=zdI fr x.d v)∨(wanted fr x.g=some false∧fr'=zdI fr x.d (.tup [])∧h'=h):=by
 simp only [zak] at e
 cases hw:wanted fr x.g with
 | none=>rw [hw] at e;cases e
 | some b=>
  rw [hw] at e
  cases b with
  | false=>simp only at e;cases e;exact .inr ⟨rfl,rfl,rfl⟩
  | true=>
   simp only at e
   cases hs:step cr fr h x.i with
   | none=>rw [hs] at e;cases e
   | some s=>
    rw [hs] at e
    cases s with
    | val v h1=>simp only at e;cases e;exact .inl ⟨rfl,v,rfl,rfl⟩
    | pan v h1=>simp only at e;cases e
theorem zyq {cr:zaw} {x:In} {fr fr':Fr} {h h':List Ob} {v:V} (e:zak cr [x] fr h=some (.pan v,fr',h')):wanted fr x.g=some true∧step cr fr h x.i=some (.pan v h'):=by
 simp only [zak] at e
 cases hw:wanted fr x.g with
 | none=>rw [hw] at e;cases e
 | some b=>
  rw [hw] at e
  cases b with
  | false=>simp only at e;cases e
  | true=>
   simp only at e
   cases hs:step cr fr h x.i with
   | none=>rw [hs] at e;cases e
   | some s=>
    rw [hs] at e
    cases s with
    | val v1 h1=>simp only at e;cases e
    | pan v1 h1=>simp only at e;cases e;exact ⟨rfl,rfl⟩
theorem zns {cr:zaw}:∀ {xs:List (In×List Nat×Bool)} {k:Nat} {lg:List Lg} {fr:Fr} {h:List Ob} {r:Rs},evC cr xs k lg fr h=some r→∃ E hp,TrC cr xs k lg fr h E hp∧EndC cr xs k lg fr E hp r
 | [],k,lg,fr,h,r,he=>by
  simp only [evC] at he
  cases he
  exact ⟨[],fun _=>h,⟨Nat.le_refl _,rfl,fun i x e hx=>by simp at hx,fun i x e hx=>by simp at hx,fun i x e hx=>by simp at hx⟩,.inl ⟨rfl,rfl⟩⟩
 | x::xs,k,lg,fr,h,r,he=>by
  -- one more at the head
  have cons:∀ (e0:Ev) (h':List Ob) (E:List Ev) (hp:Nat→List Ob) (lg':List Lg),AtC cr x fr h h' e0→(∀ l∈lg,LgC cr x fr h' e0.v l)→(∀ l∈lg,l∈lg')→(∀ l,lgE k x fr h e0.v=some l→l∈lg')→(x.2.2=true→.w k h∈lg')→TrC cr xs (k+1) lg' (zBo fr e0) h' E hp→EndC cr xs (k+1) lg' (zBo fr e0) E hp r→∃ E hp,TrC cr (x::xs) k lg fr h E hp∧EndC cr (x::xs) k lg fr E hp r:=by
   intro e0 h' E hp lg' ha ho hsub hnew hwn T F
   refine ⟨e0::E,fun i=>match i with
    | 0=>h
    | i+1=>hp i,⟨by simpa using T.le,rfl,?_,?_,?_⟩,?_⟩
   ·intro i y e hy he
    cases i with
    | zero=>
     simp only [List.getElem?_cons_zero,Option.some.injEq] at hy he
     subst hy he
     simpa [frA,T.h0] using ha
    | succ i=>
     simp only [List.getElem?_cons_succ] at hy he
     simpa [frA] using T.at_ i y e hy he
   ·intro i y e hy he l hl
    cases i with
    | zero=>
     simp only [List.getElem?_cons_zero,Option.some.injEq] at hy he
     subst hy he
     simpa [frA,T.h0] using ho l hl
    | succ i=>
     simp only [List.getElem?_cons_succ] at hy he
     simpa [frA] using T.old i y e hy he l (hsub l hl)
   ·intro i y e hy he j z f hj hz hf l hl
    cases i with
    | zero=>omega
    | succ i=>
     simp only [List.getElem?_cons_succ] at hy he
     cases j with
     | zero=>
      simp only [List.getElem?_cons_zero,Option.some.injEq] at hz hf
      subst hz hf
      have:=T.old i y e hy he l (hnew l (by simpa [frA] using hl))
      simpa [frA] using this
     | succ j=>
      simp only [List.getElem?_cons_succ] at hz hf
      have:=T.new i y e hy he j z f (by omega) hz hf l (by
       rw [show k+1+j=k+(j+1) by omega]
       simpa [frA] using hl)
      simpa [frA] using this
   ·rcases F with ⟨h1,h2⟩|⟨y,v,h2,f1,f2,f3,f4,f5,f6,f7,f8⟩
    ·exact .inl ⟨by simp [h1],by rw [h2];rfl⟩
    ·refine .inr ⟨y,v,h2,by simpa using f1,f2,by simpa [frA] using f3,by simpa [frA] using f4,f5,?_,fun l hl=>f7 l (hsub l hl),?_⟩
     ·intro i z hi hz
      cases i with
      | zero=>simp at hi
      | succ i=>
       have:=f6 i z (by simpa using hi) (by simpa using hz)
       rw [show k+(e0::E).length=k+1+E.length by simp;omega]
       exact this
     ·intro j z f hz hf hw
      cases j with
      | zero=>
       simp only [List.getElem?_cons_zero,Option.some.injEq] at hz
       subst hz
       have:=f7 _ (hwn hw)
       simpa [lgP,List.contains_iff_mem] using this
      | succ j=>
       have:=f8 j z f (by simpa using hz) (by simpa using hf) hw
       rw [show k+(j+1)=k+1+j by omega]
       exact this
  unfold evC at he
  by_cases hw:x.2.2=true
  ·rw [if_pos hw] at he
   split at he<;>try contradiction
   ·rename_i fr' h' hi
    split at he<;>try contradiction
    rename_i hall
    obtain ⟨E,hp,T,F⟩:=zns he
    have hall:∀ l∈lg,lgW cr x.2.1 h' l=true:=by simpa using hall
    rcases zz6 hi with ⟨hwt,v,hs,rfl⟩|⟨hwt,rfl,rfl⟩
    ·exact cons ⟨x.1.d,v,none,[]⟩ h' E hp _ ⟨rfl,.inr (.inl ⟨hwt,hw,hs⟩)⟩ (fun l hl=>⟨fun _=>hall l hl,fun hf=>by rw [hw] at hf;cases hf⟩) (fun l hl=>by simp [hl]) (fun l hl=>by
      unfold lgE at hl;rw [if_pos hw] at hl;cases hl;simp) (fun _=>by simp) T F
    ·exact cons ⟨x.1.d,.tup [],none,[]⟩ h' E hp _ ⟨rfl,.inl ⟨hwt,rfl,rfl⟩⟩ (fun l hl=>⟨fun _=>hall l hl,fun hf=>by rw [hw] at hf;cases hf⟩) (fun l hl=>by simp [hl]) (fun l hl=>by
      unfold lgE at hl;rw [if_pos hw] at hl;cases hl;simp) (fun _=>by simp) T F
   ·rename_i v fr' h' hi
    split at he<;>try contradiction
    rename_i hall
    cases he
    simp only [Bool.and_eq_true,List.all_eq_true,List.contains_iff_mem] at hall
    obtain ⟨hwt,hs⟩:=zyq hi
    refine ⟨[],fun _=>h,⟨by simp,rfl,fun i y e _ hy=>by simp at hy,fun i y e _ hy=>by simp at hy,fun i y e _ hy=>by simp at hy⟩,.inr ⟨x,v,h',rfl,hw,hwt,hs,rfl,?_,hall.2,fun j y f _ hf=>by simp at hf⟩⟩
    intro i y hi hy
    cases i with
    | zero=>simp at hi
    | succ i=>
     simp only [List.getElem?_cons_succ] at hy
     simpa using hall.1 y (List.mem_of_getElem? hy)
  ·have hw:x.2.2=false:=by simpa using hw
   rw [hw] at he
   simp only [Bool.false_eq_true,if_false] at he
   split at he<;>try contradiction
   ·rename_i hwt
    split at he<;>try contradiction
    rename_i v hv
    split at he<;>try contradiction
    rename_i hall
    obtain ⟨E,hp,T,F⟩:=zns he
    have hall:∀ l∈lg,lgQ cr x.2.1 fr x.1.i v l=true:=by simpa using hall
    refine cons ⟨x.1.d,v,none,[]⟩ h E hp _ ⟨rfl,.inr (.inr ⟨hwt,hw,hv,rfl⟩)⟩ (fun l hl=>⟨fun hf=>by (rw [hw] at hf;cases hf),fun _ _=>hall l hl⟩) (fun l hl=>?_) (fun l hl=>?_) (fun hf=>by rw [hw] at hf;cases hf) T F
    ·split<;>simp [hl]
    ·unfold lgE at hl
     rw [if_neg (by rw [hw];simp)] at hl
     split at hl<;>try contradiction
     rename_i hr
     cases hl
     rw [if_pos hr.2]
     simp
   ·rename_i hwt
    obtain ⟨E,hp,T,F⟩:=zns he
    exact cons ⟨x.1.d,.tup [],none,[]⟩ h E hp _ ⟨rfl,.inl ⟨hwt,rfl,rfl⟩⟩ (fun l hl=>⟨fun hf=>by (rw [hw] at hf;cases hf),fun _ hf=>by (rw [hwt] at hf;cases hf)⟩) (fun l hl=>hl) (fun l hl=>by
     unfold lgE at hl
     rw [if_neg (by rw [hw];simp),if_neg (by rw [hwt];simp)] at hl
     cases hl) (fun hf=>by rw [hw] at hf;cases hf) T F
variable {P:Program} {g:GW}
structure Chn (P:Program) (cr:zaw) (n:Nat) (ops:Array Oper) (xs:List (In×List Nat×Bool)) (fr0:Fr) (h0:List Ob) (E:List Ev) (hp:Nat→List Ob):Prop where
 sz:xs.length≤ops.size
 tr:TrC cr xs 0 [] fr0 h0 E hp
 tmp:∀ (i j:Nat) (x y:In×List Nat×Bool),xs[i]? = some x→xs[j]? = some y→j<i→j∈x.2.1∨okD x.1 y.1=true
 m:∀ (i:Nat) (o:Oper) (x:In×List Nat×Bool),ops[i]? = some o→xs[i]? = some x→mIn P n ops o x.1=true
 edge:∀ (i:Nat) (o:Oper),ops[i]? = some o→∀ e∈o.after,Region.binds .any e=true→e.on<i
 anc:∀ (i:Nat) (o:Oper) (x:In×List Nat×Bool),ops[i]? = some o→xs[i]? = some x→∀ j∈x.2.1,∃ e∈o.after,Region.binds .any e=true∧(e.on=j∨∃ z,xs[e.on]? = some z∧j∈z.2.1)
 q:∀ (i:Nat) (x:In×List Nat×Bool),xs[i]? = some x→x.2.2=false→qI x.1.i=true
def zzw (xs:List (In×List Nat×Bool)) (S:Nat→Bool):Prop:=∀ (i:Nat) (x:In×List Nat×Bool),xs[i]? = some x→S i=true→∀ j∈x.2.1,S j=true
def isW (xs:List (In×List Nat×Bool)) (j:Nat):Bool:=match xs[j]? with
 | some x=>x.2.2
 | none=>false
def stg (xs:List (In×List Nat×Bool)) (S:Nat→Bool):Nat→Nat
 | 0=>0
 | m+1=>if isW xs m&&S m then m+1 else stg xs S m
theorem zuS (xs:List (In×List Nat×Bool)) (S:Nat→Bool):∀ m,(stg xs S m=0∨∃ j,stg xs S m=j+1∧j<m∧isW xs j=true∧S j=true)∧∀ j,stg xs S m≤j→j<m→isW xs j=true→S j=false
 | 0=>⟨.inl rfl,fun j _ h=>by omega⟩
 | m+1=>by
  obtain ⟨h1,h2⟩:=zuS xs S m
  unfold stg
  split
  ·rename_i h
   simp only [Bool.and_eq_true] at h
   exact ⟨.inr ⟨m,rfl,by omega,h.1,h.2⟩,fun j hj hj2=>by omega⟩
  ·rename_i h
   refine ⟨h1.imp id fun ⟨j,a,b,c⟩=>⟨j,a,by omega,c⟩,fun j hj hj2 hw=>?_⟩
   rcases Nat.lt_or_ge j m with h3|h3
   ·exact h2 j hj h3 hw
   ·have:j=m:=by omega
    subst this
    simp only [hw,Bool.true_and] at h
    simpa using h
theorem zpH (xs:List (In×List Nat×Bool)) (S:Nat→Bool) {i:Nat} (hi:isW xs i=false):∀ m,stg xs (ins S i) m=stg xs S m
 | 0=>rfl
 | m+1=>by
  unfold stg
  rw [zpH xs S hi m]
  by_cases h:m=i
  ·subst h;simp [hi]
  ·have:ins S i m=S m:=by simp [ins,h]
   rw [this]
theorem zpS (xs:List (In×List Nat×Bool)) (S:Nat→Bool) {i:Nat} (hi:isW xs i=true):∀ m,i<m→(∀ j,i<j→j<m→isW xs j=true→S j=false)→stg xs (ins S i) m=i+1
 | 0,h,_=>by omega
 | m+1,h,hn=>by
  unfold stg
  by_cases e:m=i
  ·subst e;simp [hi,ins]
  ·have h1:ins S i m=S m:=by simp [ins,e]
   rw [h1]
   cases hw:isW xs m with
   | false=>
    simp only [Bool.false_and,Bool.false_eq_true,if_false]
    exact zpS xs S hi m (by omega) fun j a b=>hn j a (by omega)
   | true=>
    rw [hn m (by omega) (by omega) hw]
    simp only [Bool.and_false,Bool.false_eq_true,if_false]
    exact zpS xs S hi m (by omega) fun j a b=>hn j a (by omega)
section
variable {cr:zaw} {n:Nat} {ops:Array Oper} {xs:List (In×List Nat×Bool)} {fr0:Fr} {h0:List Ob} {E:List Ev} {hp:Nat→List Ob}
theorem zkJ {i:Nat} {x:In×List Nat×Bool} (hx:xs[i]? = some x):isW xs i=x.2.2:=by unfold isW;rw [hx]
theorem Chn.get (D:Chn P cr n ops xs fr0 h0 E hp) {j:Nat} (hj:j<E.length):∃ x e,xs[j]? = some x∧E[j]? = some e:=
 ⟨xs[j]'(Nat.lt_of_lt_of_le hj D.tr.le),E[j],List.getElem?_eq_getElem _,List.getElem?_eq_getElem _⟩
theorem slots_get' {E:List Ev} {t j:Nat} {v:V} (h:(slots E t)[j]? = some (some v)):∃ e,E[j]? = some e∧e.d=some t∧e.v=v:=by
 obtain ⟨hj,h1,h2⟩:=zp4 h
 exact ⟨E[j],List.getElem?_eq_getElem hj,h1,h2⟩
theorem Chn.slot (D:Chn P cr n ops xs fr0 h0 E hp) {S:Nat→Bool} (hS:zzw xs S) {i:Nat} {x:In×List Nat×Bool} (hx:xs[i]? = some x) (hSi:S i=false) (hanc:∀ j∈x.2.1,S j=true) {t:Nat} (ht:t∈nms x.1):RR.get (frS S 0 E fr0) t=RR.get (frA fr0 (E.take i)) t:=by
 rw [zml,←show frS (fun j=>decide (j<0+i)) 0 E fr0=frA fr0 (E.take i) from zua E i 0 fr0,zml]
 congr 1
 refine zfy fun j v hj=>?_
 obtain ⟨e,he,hd,_⟩:=slots_get' hj
 obtain ⟨y,e',hy,he'⟩:=D.get (List.getElem?_eq_some_iff.1 he).1
 rw [he] at he'
 cases he'
 rw [(D.tr.at_ j y e hy he).1] at hd
 simp only [Nat.zero_add]
 rcases Nat.lt_trichotomy j i with h1|h1|h1
 ·rcases D.tmp i j x y hx hy h1 with h2|h2
  ·rw [hanc j h2];simp [h1]
  ·exact absurd ht ((zqP h2).1 t hd).1
 ·subst h1
  rw [hSi];simp
 ·rcases D.tmp j i y x hy hx h1 with h2|h2
  ·have:S j=false:=by
    cases h3:S j with
    | false=>rfl
    | true=>rw [hS j y hy h3 i h2] at hSi;cases hSi
   rw [this];simp;omega
  ·exact absurd ht ((zqP h2).2 t hd)
theorem Chn.frame (D:Chn P cr n ops xs fr0 h0 E hp) {S:Nat→Bool} (hS:zzw xs S) {i:Nat} {x:In×List Nat×Bool} {e:Ev} (hx:xs[i]? = some x) (he:E[i]? = some e) (hSi:S i=false) (t:Nat):RR.get (frS (ins S i) 0 E fr0) t=RR.get (zdI (frS S 0 E fr0) e.d e.v) t:=by
 have e1:RR.get (zdI (frS S 0 E fr0) e.d e.v) t=if e.d=some t then e.v else RR.get (frS S 0 E fr0) t:=zuI (frS S 0 E fr0) e t
 rw [e1,zml]
 split
 ·rename_i hd
  have:last (ins S i) 0 (slots E t)=some e.v:=by
   refine zut (i:=i) (by simp [slots,he,hd]) (by simp [ins]) fun j b hij hb=>?_
   obtain ⟨f,hf,hd',_⟩:=slots_get' hb
   obtain ⟨y,f',hy,hf'⟩:=D.get (List.getElem?_eq_some_iff.1 hf).1
   rw [hf] at hf'
   cases hf'
   have h3:S j=false:=by
    cases h3:S j with
    | false=>rfl
    | true=>
     rcases D.tmp j i y x hy hx hij with h2|h2
     ·rw [hS j y hy h3 i h2] at hSi;cases hSi
     ·rw [(D.tr.at_ j y f hy hf).1] at hd'
      rw [(D.tr.at_ i x e hx he).1] at hd
      exact absurd hd' ((zqP h2).1 t hd).2
   simp [ins,h3];omega
  rw [this];rfl
 ·rename_i hd
  rw [zml]
  congr 1
  refine zfy fun j v hj=>?_
  obtain ⟨f,hf,hd',_⟩:=slots_get' hj
  have:j≠i:=fun e=>hd (by subst e;rw [he] at hf;cases hf;exact hd')
  simp [ins,this]
theorem Chn.same (D:Chn P cr n ops xs fr0 h0 E hp) {c:Nat}:∀ {i:Nat},c≤i→i≤E.length→(∀ j,c≤j→j<i→isW xs j=false)→hp c=hp i
 | 0,hc,_,_=>by rw [Nat.le_zero.1 hc]
 | i+1,hc,hi,hn=>by
  rcases Nat.lt_or_ge i c with h|h
  ·have:c=i+1:=by omega
   rw [this]
  ·rw [D.same h (by omega) fun j a b=>hn j a (by omega)]
   obtain ⟨x,e,hx,he⟩:=D.get (j:=i) (by omega)
   have hw:=hn i h (by omega)
   rw [zkJ hx] at hw
   rcases (D.tr.at_ i x e hx he).2 with ⟨_,_,h1⟩|⟨_,h1,_⟩|⟨_,_,_,h1⟩
   ·exact h1.symm
   ·rw [hw] at h1;cases h1
   ·exact h1.symm
theorem zzH (c:Nat):∀ i,c≤i→(∀ j,c≤j→j<i→isW xs j=false)∨∃ j,c≤j∧j<i∧isW xs j=true∧∀ k,c≤k→k<j→isW xs k=false
 | 0,h=>.inl fun j a b=>by omega
 | i+1,h=>by
  rcases Nat.lt_or_ge i c with h1|h1
  ·exact .inl fun j a b=>by omega
  ·rcases zzH c i h1 with h2|⟨j,a,b,d,e⟩
   ·cases hw:isW xs i with
    | true=>exact .inr ⟨i,h1,by omega,hw,h2⟩
    | false=>
     refine .inl fun j a b=>?_
     rcases Nat.lt_or_ge j i with h3|h3
     ·exact h2 j a h3
     ·have:j=i:=by omega
      rw [this];exact hw
   ·exact .inr ⟨j,a,by omega,d,e⟩
theorem Chn.heapW (D:Chn P cr n ops xs fr0 h0 E hp) {S:Nat→Bool} {i:Nat} (hi:i≤E.length) (h1:∀ j,j<i→isW xs j=true→S j=true) (h2:∀ j,i≤j→j<E.length→isW xs j=true→S j=false):hp (stg xs S E.length)=hp i∧stg xs S E.length≤i:=by
 obtain ⟨k1,k2⟩:=zuS xs S E.length
 have hc:stg xs S E.length≤i:=by
  rcases k1 with h|⟨j,e,hj,hw,hs⟩
  ·omega
  ·rcases Nat.lt_or_ge j i with h3|h3
   ·omega
   ·rw [h2 j h3 hj hw] at hs;cases hs
 refine ⟨D.same hc hi fun j a b=>?_,hc⟩
 cases hw:isW xs j with
 | false=>rfl
 | true=>
  have e1:=k2 j a (by omega) hw
  rw [h1 j b hw] at e1;cases e1
theorem Chn.heapQ (D:Chn P cr n ops xs fr0 h0 E hp) {S:Nat→Bool} (hS:zzw xs S) {i:Nat} {x:In×List Nat×Bool} {e:Ev} (hx:xs[i]? = some x) (he:E[i]? = some e) (hSi:S i=false) (hanc:∀ j∈x.2.1,S j=true) (hq:x.2.2=false) (hwt:wanted (frA fr0 (E.take i)) x.1.g=some true) :
  qv cr (frA fr0 (E.take i)) (hp (stg xs S E.length)) x.1.i=some e.v:=by
 have hiE:=(List.getElem?_eq_some_iff.1 he).1
 obtain ⟨k1,k2⟩:=zuS xs S E.length
 have hv:qv cr (frA fr0 (E.take i)) (hp i) x.1.i=some e.v:=by
  rcases (D.tr.at_ i x e hx he).2 with ⟨h,_⟩|⟨_,h,_⟩|⟨_,_,h,_⟩
  ·rw [hwt] at h;cases h
  ·rw [hq] at h;cases h
  ·exact h
 have hqi:=D.q i x hx hq
 have nord:hrd x.1.i=false→∀ h,qv cr (frA fr0 (E.take i)) h x.1.i=some e.v:=fun hr h=>by rw [zDl hr hqi (h':=hp i)];exact hv
 cases hr:hrd x.1.i with
 | false=>exact nord hr _
 | true=>
  rcases Nat.lt_or_ge i (stg xs S E.length) with h|h
  ·rcases k1 with h0|⟨j,ej,hj,hw,hs⟩
   ·omega
   ·obtain ⟨y,f,hy,hf⟩:=D.get hj
    rw [zkJ hy] at hw
    have hji:i<j:=by
     rcases Nat.lt_trichotomy i j with h3|h3|h3
     ·exact h3
     ·subst h3;rw [hx] at hy;cases hy;rw [hq] at hw;cases hw
     ·omega
    have:=(D.tr.new j y f hy hf i x e hji hx he (.q i x.1.i (frA fr0 (E.take i)) e.v) (by
     unfold lgE
     rw [if_neg (by rw [hq];simp),if_pos ⟨hwt,hr⟩,Nat.zero_add])).1 hw
    simp only [lgW,Bool.or_eq_true,List.contains_iff_mem] at this
    rcases this with h4|h4
    ·rw [hS j y hy hs i h4] at hSi;cases hSi
    ·rw [ej];exact zxB h4
  ·rcases zzH (xs:=xs) (stg xs S E.length) i h with h3|⟨j,a,b,hw,hn⟩
   ·rw [D.same h (by omega) h3];exact hv
   ·have hSj:=k2 j a (by omega) hw
    obtain ⟨y,f,hy,hf⟩:=D.get (j:=j) (by omega)
    rw [zkJ hy] at hw
    rw [D.same a (by omega) hn]
    have:=(D.tr.new i x e hx he j y f b hy hf (.w j (hp j)) (by
     unfold lgE
     rw [if_pos hw,Nat.zero_add])).2 hq hwt
    simp only [lgQ,Bool.or_eq_true,List.contains_iff_mem,hr,Bool.not_true,Bool.false_eq_true,false_or] at this
    rcases this with h4|h4
    ·rw [hanc j h4] at hSj;cases hSj
    ·exact zxB h4
theorem Chn.before (D:Chn P cr n ops xs fr0 h0 E hp) {i:Nat} {x:In×List Nat×Bool} {e:Ev} (hx:xs[i]? = some x) (he:E[i]? = some e) (hw:x.2.2=true) {j:Nat} (hj:j<i) (hwj:isW xs j=true):j∈x.2.1:=by
 have hiE:=(List.getElem?_eq_some_iff.1 he).1
 obtain ⟨y,f,hy,hf⟩:=D.get (j:=j) (by omega)
 rw [zkJ hy] at hwj
 have:=(D.tr.new i x e hx he j y f hj hy hf (.w j (hp j)) (by
  unfold lgE
  rw [if_pos hwj,Nat.zero_add])).1 hw
 simpa [lgW,List.contains_iff_mem] using this
end
variable {P:Program} {g:GW} {ρ:Option Nat}
theorem zxW {cr:zaw} (hcr:CRok P g cr):CRok P g (crD cr):=by
 refine ⟨?_,YOK.y0 _ _,fun Y y hY f args h out h' he=>by cases he⟩
 intro f args h out h' he us w M ν hl hr hh hi
 unfold crD at he
 simp only at he
 cases hq:callq cr h f args with
 | none=>rw [hq] at he;cases he
 | some v=>
  rw [hq] at he
  cases he
  obtain ⟨hfn,hc⟩:=zt4 hcr.c hl hr hh hi hq
  refine ⟨hfn,hc.mono fun e w' ⟨M',u,h1,h2,p⟩=>?_⟩
  exact ⟨M',ν,⟨u,h1,h2⟩,p⟩
section
variable {cr:zaw} {n:Nat} {ops:Array Oper} {xs:List (In×List Nat×Bool)} {fr0:Fr} {h0:List Ob} {E:List Ev} {hp:Nat→List Ob}
theorem Chn.any (hcr:CRok P g cr) (D:Chn P cr n ops xs fr0 h0 E hp) (hszE:ops.size=xs.length) {r:Rs} (F:EndC cr xs 0 [] fr0 E hp r) {Q:Exit→Act→World→Prop} :
  ∀ (fuel:Nat) (listed:Array Bool) (U:List Nat) (a:Act) (w:World) (M:Nat→Prop) (ν:Nu),listed.size=ops.size→zzw xs (fun j=>listed.getD j false)→(∀ j,listed.getD j false=true→j<E.length)→U.length≤fuel→(∀ j,listed.getD j true=false→j∈U) →
   ziU w M ν n (frS (fun j=>listed.getD j false) 0 E fr0) a→HR w M ν (hp (stg xs (fun j=>listed.getD j false) E.length))→Inv g w M ν →
   (∀ e a' w' M' ν',XR w' M' ν' r.1 e→ziU w' M' ν' n r.2.1 a'→Pst w M ν (hp (stg xs (fun j=>listed.getD j false) E.length)) w' M' ν' r.2.2→a'.defers=a.defers→Q e a' w') →
   wpAnyIn (FW ρ) 0 P .any ops Q fuel listed a w:=by
 intro fuel
 have fin:∀ (listed:Array Bool) (a:Act) (w:World) (M:Nat→Prop) (ν:Nu),listed.size=ops.size→(∀ j,listed.getD j false=true→j<E.length)→Region.ready .any ops listed=[] →
   ziU w M ν n (frS (fun j=>listed.getD j false) 0 E fr0) a→HR w M ν (hp (stg xs (fun j=>listed.getD j false) E.length)) →
   (∀ e a' w' M' ν',XR w' M' ν' r.1 e→ziU w' M' ν' n r.2.1 a'→Pst w M ν (hp (stg xs (fun j=>listed.getD j false) E.length)) w' M' ν' r.2.2→a'.defers=a.defers→Q e a' w')→Q .normal a w:=by
  intro listed a w M ν hsz hlt hr hf hh hQ
  have hall:∀ j,j<ops.size→listed.getD j false=true:=by
   intro j
   induction j using Nat.strongRecOn with
   | _ j ih=>
    intro hj
    cases hb:listed.getD j false with
    | true=>rfl
    | false=>
     have:j∈Region.ready .any ops listed:=by
      rw [mem_ready]
      refine ⟨?_,ops[j],by simp [hj],fun e he hb'=>ih e.on (D.edge j _ (by simp [hj]) e he hb') (by have:=D.edge j ops[j] (by simp [hj]) e he hb';omega)⟩
      have hjl:j<listed.size:=by omega
      simp only [Array.getD_eq_getD_getElem?,Array.getElem?_eq_getElem hjl,Option.getD_some] at hb ⊢
      exact hb
     rw [hr] at this
     simp at this
  have hEn:E.length=xs.length:=by
   have h1:=D.tr.le
   rcases Nat.lt_or_ge E.length xs.length with h2|h2
   ·have:=hlt E.length (hall E.length (by omega))
    omega
   ·omega
  have e1:frS (fun j=>listed.getD j false) 0 E fr0=frA fr0 E:=by
   rw [znU (T:=fun j=>decide (j<0+E.length)) fun j hj=>by
    have:=hall (0+j) (by omega)
    simp only [this];simp [hj]]
   rw [zua]
   simp
  have e2:hp (stg xs (fun j=>listed.getD j false) E.length)=hp E.length:=by
   refine (D.heapW (Nat.le_refl _) (fun j hj _=>hall j (by omega)) fun j a b=>by omega).1
  rcases F with ⟨h1,rfl⟩|⟨x,v,h',h1,_⟩
  ·rw [e1] at hf
   rw [e2,h1] at hh hQ
   exact hQ .normal a w M ν rfl hf (.refl hh) rfl
  ·have:=(List.getElem?_eq_some_iff.1 h1).1
   omega
 induction fuel with
 | zero=>
  intro listed U a w M ν hsz hdn hlt hU hin hf hh hi hQ
  have hU0:U=[]:=List.length_eq_zero_iff.1 (by omega)
  have hr:Region.ready .any ops listed=[]:=by
   apply List.eq_nil_iff_forall_not_mem.2
   intro j hj
   have:=hin j (mem_ready.1 hj).1
   rw [hU0] at this
   simp at this
  exact ⟨hr,fin listed a w M ν hsz hlt hr hf hh hQ⟩
 | succ fuel ih=>
  intro listed U a w M ν hsz hdn hlt hU hin hf hh hi hQ
  refine ⟨fun hr=>fin listed a w M ν hsz hlt hr hf hh hQ,fun i hir=>?_⟩
  obtain ⟨hl1,o,ho,hbind⟩:=mem_ready.1 hir
  have hio:=(Array.getElem?_eq_some_iff.1 ho).1
  have hil:i<listed.size:=by omega
  have hix:i<xs.length:=by omega
  obtain ⟨x,hx⟩:∃ x,xs[i]? = some x:=⟨xs[i],List.getElem?_eq_getElem hix⟩
  have hSi:listed.getD i false=false:=by
   simp only [Array.getD_eq_getD_getElem?,Array.getElem?_eq_getElem hil,Option.getD_some] at hl1 ⊢
   exact hl1
  have hanc:∀ j∈x.2.1,listed.getD j false=true:=by
   intro j hj
   obtain ⟨e,he,hb,hh⟩:=D.anc i o x ho hx j hj
   have h1:=hbind e he hb
   rcases hh with rfl|⟨z,hz,hj⟩
   ·exact h1
   ·exact hdn e.on z hz h1 j hj
  have hmi:=D.m i o x ho hx
  have hmi':=hmi
  simp only [mIn,Bool.and_eq_true] at hmi'
  obtain ⟨⟨hd,hg⟩,hxx⟩:=hmi'
  obtain ⟨ed,hdlt⟩:=zri hd
  have hop:∀ o'∈zcW x.1.i,o'.ev (frA fr0 (E.take i))=o'.ev (frS (fun j=>listed.getD j false) 0 E fr0):=by
   intro o' ho'
   cases o' with
   | c v=>rfl
   | t t=>exact (D.slot hdn hx hSi hanc (t:=t) (List.mem_append_right _ (List.mem_flatMap.2 ⟨_,ho',by simp [O.slot]⟩))).symm
  have hwant:∀ b,wanted (frA fr0 (E.take i)) x.1.g=some b→Region.wanted o (yielded ops a.tmps)=b:=by
   intro b hb
   refine zcu hf hg ?_
   rw [←hb]
   unfold wanted
   split
   ·rfl
   ·rename_i t c eg
    rw [D.slot hdn hx hSi hanc (t:=t) (by simp [nms,eg])]
  unfold wpOpIn
  rw [ho]
  simp only
  rcases Nat.lt_or_ge i E.length with hiE|hiE
  ·obtain ⟨x',e,hx',he⟩:=D.get hiE
   rw [hx] at hx'
   cases hx'
   have A:=D.tr.at_ i x e hx he
   have hS':(fun j=>(listed.setIfInBounds i true).getD j false)=ins (fun j=>listed.getD j false) i:=funext fun j=>zc7 hil j
   have next:∀ (u:Value) (w':World) (M':Nat→Prop) (ν':Nu),Rel w' M' ν' e.v u→Pst w M ν (hp (stg xs (fun j=>listed.getD j false) E.length)) w' M' ν' (hp (stg xs (ins (fun j=>listed.getD j false) i) E.length)) →
     wpAnyIn (FW ρ) 0 P .any ops Q fuel (listed.setIfInBounds i true) (a.put o.dst u) w':=by
    intro u w' M' ν' hv p
    have hf1:=(hf.step hh p).put (d:=e.d) (v:=e.v) (u:=u) (by rw [A.1];exact hdlt) hv
    have hdd:a.put o.dst u=a.put e.d u:=by rw [A.1,ed]
    rw [hdd]
    refine ih _ (U.erase i) _ w' M' ν' (by simpa using hsz) ?_ ?_ ?_ ?_ ?_ ?_ ?_ ?_
    ·intro k z hk hk1 j hj
     have h1:ins (fun j=>listed.getD j false) i k=true:=by rw [←zc7 hil];exact hk1
     have:ins (fun j=>listed.getD j false) i j=true:=by
      unfold ins at h1 ⊢
      simp only [Bool.or_eq_true,beq_iff_eq] at h1 ⊢
      rcases h1 with rfl|h1
      ·rw [hx] at hk;cases hk
       exact .inr (hanc j hj)
      ·exact .inr (hdn k z hk h1 j hj)
     rw [←zc7 hil] at this
     exact this
    ·intro j hj
     have:ins (fun j=>listed.getD j false) i j=true:=by rw [←zc7 hil];exact hj
     unfold ins at this
     simp only [Bool.or_eq_true,beq_iff_eq] at this
     rcases this with rfl|h1
     ·exact hiE
     ·exact hlt j h1
    ·have:=List.length_erase_of_mem (hin i hl1)
     omega
    ·intro j hj
     have hji:j≠i:=by
      intro e
      subst e
      simp [hil] at hj
     rw [getD_set_ne true (Ne.symm hji)] at hj
     exact (List.mem_erase_of_ne hji).2 (hin j hj)
    ·rw [hS']
     exact hf1.congr fun t=>D.frame hdn hx he hSi t
    ·rw [hS']
     exact p.hr
    ·exact hi.step (p.same hh) p.hM p.le
    ·rw [hS']
     intro e2 a' w2 M2 ν2 hxr hf2 p2 hd2
     exact hQ e2 a' w2 M2 ν2 hxr hf2 (p.trans p2) (by rw [hd2,put_defers'])
   have stq:x.2.2=false→stg xs (ins (fun j=>listed.getD j false) i) E.length=stg xs (fun j=>listed.getD j false) E.length:=fun hq=>zpH xs _ (by rw [zkJ hx];exact hq) _
   have behind:x.2.2=true→∀ j,i<j→j<E.length→isW xs j=true→listed.getD j false=false:=by
    intro hw j hij hj hwj
    cases hs:listed.getD j false with
    | false=>rfl
    | true=>
     obtain ⟨y,f,hy,hf'⟩:=D.get hj
     have:=D.before hy hf' (by rw [zkJ hy] at hwj;exact hwj) hij (by rw [zkJ hx];exact hw)
     have e:listed.getD i false=true:=hdn j y hy hs i this
     rw [e] at hSi
     cases hSi
   have stw:x.2.2=true→stg xs (ins (fun j=>listed.getD j false) i) E.length=i+1:=fun hw=>zpS xs _ (by rw [zkJ hx];exact hw) _ hiE fun j a b c=>behind hw j a b c
   have hpi:x.2.2=true→hp (stg xs (fun j=>listed.getD j false) E.length)=hp i:=fun hw=>(D.heapW (Nat.le_of_lt hiE) (fun j hj hwj=>hanc j (D.before hx he hw hj hwj)) fun j a b c=>by
    rcases Nat.lt_or_ge i j with h1|h1
    ·exact behind hw j h1 b c
    ·have:j=i:=by omega
     subst this;exact hSi).1
   rcases A.2 with ⟨h1,h2,h3⟩|⟨h1,hw,h3⟩|⟨h1,hq,h3,h4⟩
   ·rw [if_neg (by rw [hwant _ h1];simp)]
    refine ⟨fun _ _=>trivial,?_⟩
    refine next undef w M ν (by rw [h2];exact zp3) ?_
    cases hw:x.2.2 with
    | true=>
     rw [stw hw,h3,hpi hw]
     rw [hpi hw] at hh
     exact .refl hh
    | false=>
     rw [stq hw]
     exact .refl hh
   ·rw [if_pos (hwant _ h1)]
    refine Oper.wpR_in (zsG hxx) ?_
    rw [zlz hop] at h3
    have hh':=hh
    rw [hpi hw] at hh'
    have:=zcL (ρ:=ρ) (P:=P) hcr hmi hf hh' hi h3 (K:=wpAnyIn (FW ρ) 0 P .any ops Q fuel (listed.setIfInBounds i true)) (Q:=Q)
    refine this fun u w1 M1 ν1 hv p=>next u w1 M1 ν1 hv ?_
    rw [stw hw,hpi hw]
    exact p
   ·rw [if_pos (hwant _ h1)]
    refine Oper.wpR_in (zsG hxx) ?_
    have hv:=D.heapQ hdn hx he hSi hanc hq h1
    rw [zx9 hop] at hv
    have hs:=zAI (D.q i x hx hq) hv
    have:=zcL (ρ:=ρ) (P:=P) (zxW hcr) hmi hf hh hi hs (K:=wpAnyIn (FW ρ) 0 P .any ops Q fuel (listed.setIfInBounds i true)) (Q:=Q)
    refine this fun u w1 M1 ν1 hv p=>next u w1 M1 ν1 hv ?_
    rw [stq hq]
    exact p
  ·rcases F with ⟨h1,rfl⟩|⟨y,v,h',f1,f2,f3,f4,rfl,f6,f7,f8⟩
   ·omega
   ·have hiN:i=E.length:=by
     rcases Nat.lt_or_ge E.length i with h3|h3
     ·have:=f6 i x h3 hx
      rw [Nat.zero_add] at this
      have:=hlt _ (hanc _ this)
      omega
     ·omega
    subst hiN
    rw [hx] at f1
    cases f1
    rw [List.take_length] at hop hwant
    rw [if_pos (hwant _ f3)]
    refine Oper.wpR_in (zsG hxx) ?_
    rw [zlz hop] at f4
    have hpi:hp (stg xs (fun j=>listed.getD j false) E.length)=hp E.length:=(D.heapW (Nat.le_refl _) (fun j hj hwj=>by
     obtain ⟨z,f,hz,hf'⟩:=D.get hj
     have:=f8 j z f hz hf' (by rw [zkJ hz] at hwj;exact hwj)
     rw [Nat.zero_add] at this
     exact hanc j this) fun j a b c=>by omega).1
    have hh':=hh
    rw [hpi] at hh' hQ
    have:=zcL (ρ:=ρ) (P:=P) hcr hmi hf hh' hi f4 (K:=wpAnyIn (FW ρ) 0 P .any ops Q fuel (listed.setIfInBounds E.length true)) (Q:=Q)
    refine this fun u w1 M1 ν1 hv p=>?_
    exact hQ _ a w1 M1 ν1 ⟨u,rfl,hv⟩ ⟨fun t=>.und,hf.n⟩ p rfl
end
theorem zvP {cr:zaw} (hcr:CRok P g cr) {n id:Nat} {ops:Array Oper} {xs:List (In×List Nat×Bool)} (hm:mDr P n ops (xs.map fun x=>(x.1,x.2.1))=true) (hq:(xs.all fun x=>x.2.2||qI x.1.i)=true) {fr:Fr} {h:List Ob} {r:Rs} (he:evC cr xs 0 [] fr h=some r) {a:Act} {w:World} {M:Nat→Prop} {ν:Nu} (hf:ziU w M ν n fr a) (hh:HR w M ν h) (hi:Inv g w M ν) {Q:Exit→Act→World→Prop}
  (hQ:∀ e a' w' M' ν',XR w' M' ν' r.1 e→ziU w' M' ν' n r.2.1 a'→Pst w M ν h w' M' ν' r.2.2→a'.defers=a.defers→Q e a' w'):(Code.region id ops true).wpIn (FW ρ) 0 P Q a w:=by
 obtain ⟨E,hp,T,F⟩:=zns he
 simp only [mDr,Bool.and_eq_true] at hm
 obtain ⟨⟨⟨h1,h2⟩,h3⟩,h4⟩:=hm
 obtain ⟨k1,k2⟩:=zrE h2
 simp only [Array.length_toList,List.length_map] at k1
 simp only [aOK,List.all_eq_true,List.mem_range] at h3
 have h3':∀ i o,ops[i]? = some o→(∀ e∈o.after,Region.binds .any e=true→e.on<i)∧∀ j∈((xs.map fun x=>(x.1,x.2.1)).map (·.2)).getD i [],∃ e∈o.after,Region.binds .any e=true∧(e.on=j∨(e.on<i∧j∈((xs.map fun x=>(x.1,x.2.1)).map (·.2)).getD e.on [])):=by
  intro i o ho
  have:=h3 i (Array.getElem?_eq_some_iff.1 ho).1
  rw [ho] at this
  simp only [Bool.and_eq_true,Array.all_eq_true_iff_forall_mem,Bool.or_eq_true,Bool.not_eq_true',decide_eq_true_eq,List.all_eq_true,Array.any_eq_true',beq_iff_eq,List.contains_iff_mem] at this
  refine ⟨fun e he hb=>?_,this.2⟩
  have:=this.1 e he
  rw [hb] at this
  simpa using this
 have D:Chn P cr n ops xs fr h E hp:=by
  refine ⟨Nat.le_of_eq k1.symm,T,fun i j x y hx hy hji=>?_,fun i o x ho hx=>?_,fun i o ho=>(h3' i o ho).1,fun i o x ho hx j hj=>?_,fun i x hx hw=>?_⟩
  ·obtain ⟨hi,rfl⟩:=List.getElem?_eq_some_iff.1 hx
   obtain ⟨hj,rfl⟩:=List.getElem?_eq_some_iff.1 hy
   have t:=zuK h4 i (by simpa using hi) j (by simpa using hji) (by simpa using hj)
   simp only [List.nil_append,List.getElem_map] at t
   exact t
  ·obtain ⟨hi,rfl⟩:=List.getElem?_eq_some_iff.1 hx
   obtain ⟨hio,rfl⟩:=Array.getElem?_eq_some_iff.1 ho
   have:=k2 i (by simpa using hio) (by simpa using hi)
   simpa using this
  ·obtain ⟨hi,rfl⟩:=List.getElem?_eq_some_iff.1 hx
   obtain ⟨e,he,hb,hh⟩:=(h3' i o ho).2 j (by simpa [hi] using hj)
   refine ⟨e,he,hb,hh.imp (fun e=>e) fun hh=>?_⟩
   have hk:e.on<xs.length:=by omega
   exact ⟨xs[e.on],by simp [hk],by simpa [hk] using hh.2⟩
  ·have:=List.all_eq_true.1 hq x (List.mem_of_getElem? hx)
   rw [hw] at this
   simpa using this
 have hl0:∀ j,(Array.replicate ops.size false).getD j false=false:=by
  intro j
  simp only [Array.getD_eq_getD_getElem?,Array.getElem?_replicate]
  split<;>rfl
 have e1:(fun j=>(Array.replicate ops.size false).getD j false)=fun _=>false:=funext hl0
 have e2:∀ m,stg xs (fun _=>false) m=0:=by
  intro m
  induction m with
  | zero=>rfl
  | succ m ih=>unfold stg;simp [ih]
 have hhw:HR { w with drawn:=w.drawn+1 } M ν h:=hh.same rfl
 refine wpIn_region_any h1 (D.any hcr k1 F ops.size _ (List.range ops.size) a { w with drawn:=w.drawn+1 } M ν (by simp) ?_ ?_ (by simp) ?_ ?_ ?_ ?_ ?_)
 ·intro i x hx hS
  have hS:(Array.replicate ops.size false).getD i false=true:=hS
  rw [hl0] at hS
  cases hS
 ·intro j hj
  rw [hl0] at hj
  cases hj
 ·intro j hj
  rw [List.mem_range]
  rcases Nat.lt_or_ge j ops.size with h1|h1
  ·exact h1
  ·simp only [Array.getD_eq_getD_getElem?,Array.getElem?_replicate] at hj
   rw [if_neg (by omega)] at hj
   cases hj
 ·rw [e1,znJ fun _ _=>rfl]
  exact ⟨hf.fr.mono (fun _ _=>rfl) (fun _ hb=>hb) (Nu.le_refl _),hf.n⟩
 ·rw [e1,e2,T.h0]
  exact hhw
 ·exact hi.step (fun _ _=>rfl) (fun _ hb=>hb) (Nu.le_refl _)
 ·intro e a' w' M' ν' hxr hf' p hd
  rw [e1,e2,T.h0] at p
  exact hQ e a' w' M' ν' hxr hf' ⟨p.hr,p.hM,p.hM',p.le,⟨p.stp.os,p.stp.tape,p.stp.output,p.stp.size,p.stp.block⟩,p.mine⟩ hd
variable {P:Program} {g:GW} {ρ:Option Nat}
theorem zEA {o:Oper} {z:V} (hm:mI P o.op (.new z)=true):(∀ c,o.op≠.defer c)∧∃ T u,(∀ (a:Act) (w:World),(execOp a.eval o).run P w=.ok (.value (.pointer (some ⟨w.heap.size,0,none⟩))) (w.alloc (.cells u.cells T)))∧0<z.size∧u.cells.size=z.size∧z≠.und∧(∀ ys,z≠.tup ys)∧∀ w M ν,Rel w M ν z u:=by
 simp only [mI] at hm
 split at hm<;>try contradiction
 rename_i t e
 obtain ⟨i,u,hi,hz,hs,h0,hc,g1,g2,hr⟩:=zws hm
 refine ⟨fun c q=>(by rw [e] at q;cases q),t,u,fun a w=>?_,h0,hc,g1,g2,hr⟩
 simp [execOp,e,Instr.alloc,zeroValue,run_typeInfo w hi,hz,newVar,newRow]
structure PD (w:World) (M:Nat→Prop) (ν:Nu) (h:List Ob) (z:V) (u:Value) (T:TypeId) (q:Value) (B:Nat) (b:Nat):Prop where
 p:q=.pointer (some ⟨b,0,none⟩)
 lt:b<w.heap.size
 blk:w.heap[b]? = some (.cells u.cells T)
 m:¬M b
 mine:¬Mine ν h b
 B:B≤b
theorem PD.step {w:World} {M:Nat→Prop} {ν:Nu} {h:List Ob} {z:V} {u q:Value} {T:TypeId} {B b:Nat} (x:PD w M ν h z u T q B b) {w':World} {M':Nat→Prop} {ν':Nu} {h':List Ob} (p:Pst w M ν h w' M' ν' h'):PD w' M' ν' h' z u T q B b:=by
 have hl:=x.lt
 refine ⟨x.p,Nat.lt_of_lt_of_le hl p.stp.size,(p.stp.block b hl x.mine).trans x.blk,fun e=>?_,fun e=>?_,x.B⟩
 ·rcases p.hM' b e with k|k|k
  ·exact x.m k
  ·exact x.mine k
  ·omega
 ·rcases p.mine b e with k|k
  ·exact x.mine k
  ·omega
theorem PD.wake {w:World} {M:Nat→Prop} {ν:Nu} {h:List Ob} {z:V} {u q:Value} {T:TypeId} {B b:Nat} (x:PD w M ν h z u T q B b) (hh:HR w M ν h) (h0:0<z.size) (hc:u.cells.size=z.size) (g1:z≠.und) (g2:∀ ys,z≠.tup ys) (hr:∀ w M ν,Rel w M ν z u) :
  ∃ ν',HR w M ν' (h++[.row z.size [z]])∧ν.le ν'∧(∀ c,Mine ν' (h++[.row z.size [z]]) c→Mine ν h c∨B≤c)∧Rel w M ν' (.ptr h.length 0 0 1) q:=by
 obtain ⟨L,hL⟩:∃ L:Lc,L=⟨b,0,0,1,z.size,1,default⟩:=⟨_,rfl⟩
 have hn:=hh.new h.length (Nat.le_refl _)
 have hle':ν.le (fun i=>if i=h.length then some L else ν i):=fun id L1 h1=>by
  refine ⟨L1,?_,Nat.le_refl _,fun _=>rfl⟩
  by_cases e:id=h.length
  ·subst e;rw [hn] at h1;cases h1
  ·simp [e,h1]
 have hb:=x.blk
 have ho:HOb w M (fun i=>if i=h.length then some L else ν i) L (.row z.size [z]):=by
  subst hL
  refine ⟨rfl,Nat.zero_le _,Nat.le_refl _,by simp,x.m,⟨h0,rfl⟩,⟨T,by simp only [World.shape?,hb,hc];simp⟩,fun j hj=>?_,fun i hi _=>?_⟩
  ·simp only [World.frozen?,hb]
   simp
  ·have:i=0:=by simpa using hi
   subst this
   exact ⟨g1,g2,u,hr _ _ _,hc,fun k hk=>by simp [World.cell?,hb]⟩
 have old:∀ i (hi:i<h.length) (hi':i<(h++[Ob.row z.size [z]]).length),(h++[Ob.row z.size [z]])[i]=h[i]:=fun i hi hi'=>List.getElem_append_left hi
 have new:∀ (hi':h.length<(h++[Ob.row z.size [z]]).length),(h++[Ob.row z.size [z]])[h.length]=Ob.row z.size [z]:=fun hi'=>by simp
 have blkM:∀ i (hi:i<h.length),live h[i]=true→∀ Li,ν i=some Li→Li.b≠b:=fun i hi hl Li e q=>x.mine ⟨i,hi,hl,Li,e,q⟩
 refine ⟨_,⟨fun i hi hl=>?_,fun i j hi hj Li Lj hij hl hl' ei ej=>?_,fun i hi=>?_,hh.lt⟩,hle',fun c hm=>?_,.ptr (L:=L) (by simp) (by rw [hL];exact Nat.le_refl _) (by rw [x.p];rfl) fun _=>?_⟩
 ·by_cases e:i=h.length
  ·subst e
   rw [new hi]
   exact ⟨L,by simp,ho⟩
  ·have hi2:i<h.length:=by simp at hi;omega
   rw [old i hi2 hi] at hl ⊢
   obtain ⟨L1,k1,k2⟩:=hh.ob i hi2 hl
   exact ⟨L1,by simp [e,k1],HOb.mono (fun _ _=>rfl) (fun _ hb=>hb) hle' (fun hl=>⟨rfl,k2.mine hl⟩) k2⟩
 ·by_cases e:i=h.length
  ·have hj2:j<h.length:=by simp at hj;omega
   rw [old j hj2 hj] at hl'
   simp [e] at ei
   have:j≠h.length:=by omega
   simp [this] at ej
   rw [←ei,hL]
   exact fun q=>blkM j hj2 hl' Lj ej q.symm
  ·have hi2:i<h.length:=by simp at hi;omega
   rw [old i hi2 hi] at hl
   simp [e] at ei
   by_cases e2:j=h.length
   ·simp [e2] at ej
    rw [←ej,hL]
    exact blkM i hi2 hl Li ei
   ·have hj2:j<h.length:=by simp at hj;omega
    rw [old j hj2 hj] at hl'
    simp [e2] at ej
    exact hh.apart i j hi2 hj2 Li Lj hij hl hl' ei ej
 ·have:i≠h.length:=by simp at hi;omega
  simp [this]
  exact hh.new i (by simp at hi;omega)
 ·obtain ⟨i,hi,hl,L1,k1,k2⟩:=hm
  by_cases e:i=h.length
  ·simp [e] at k1
   subst k1
   rw [hL] at k2
   exact .inr (by rw [←k2];exact x.B)
  ·have hi2:i<h.length:=by simp at hi;omega
   rw [old i hi2 hi] at hl
   simp [e] at k1
   exact .inl ⟨i,hi2,hl,L1,k1,k2⟩
 ·rw [hL]
  exact ⟨Nat.zero_le _,Nat.zero_le _,Nat.one_pos,by simp [x.p]⟩
theorem zCe {ops:Array Oper} {Q:Exit→Act→World→Prop} {fuel:Nat} {listed:Array Bool} {a:Act} {w:World} (h:Region.ready .any ops listed=[]) (hq:Q .normal a w):wpAnyIn (FW ρ) 0 P .any ops Q fuel listed a w:=by
 cases fuel with
 | zero=>exact ⟨h,hq⟩
 | succ fuel=>exact ⟨fun _=>hq,fun i hi=>by rw [h] at hi;simp at hi⟩
theorem zzv {S:Nat→Bool} {t:Nat}:∀ {E:List Ev} {k:Nat} {fr:Fr},(∀ (j:Nat) (e:Ev),E[j]? = some e→e.d≠some t)→get (frS S k E fr) t=get fr t
 | [],_,_,_=>rfl
 | e::r,k,fr,h=>by
  rw [frS,zzv fun j e he=>h (j+1) e (by simpa using he)]
  split
  ·have h0:=h 0 e rfl
   unfold zBo
   cases hd:e.d with
   | none=>rfl
   | some s=>
    have:s≠t:=fun q=>h0 (by rw [hd,q])
    simp [zdI,get,this]
  ·rfl
theorem ziU.und {w:World} {M:Nat→Prop} {ν:Nu} {n:Nat} {fr:Fr} {a:Act} (hf:ziU w M ν n fr a) {t:Nat} (ht:get fr t=.und) (u:Value):ziU w M ν n fr (a.put (some t) u):=by
 refine ⟨fun s=>?_,by simpa [Act.put] using hf.n⟩
 by_cases e:s=t
 ·subst e
  rw [ht]
  exact .und
 ·have:=hf.fr s
  simpa [Act.put,Array.getElem?_setIfInBounds_ne (Ne.symm e)] using this
section
variable {cr:zaw} {n:Nat} {ops:Array Oper} {xs:List (In×List Nat×Bool)} {fr0:Fr} {h0:List Ob} {E:List Ev} {hp:Nat→List Ob}
structure Two (P:Program) (n:Nat) (ops:Array Oper) (xs:List (In×List Nat×Bool)) (t:Nat) (z:V) (sz:Nat) (y:O) (ast:List Nat) (fr0:Fr):Prop where
 size:ops.size=xs.length+2
 new:∃ o,ops[xs.length]? = some o∧mIn P n ops o ⟨some t,none,.new z⟩=true
 st:∃ o,ops[xs.length+1]? = some o∧mIn P n ops o ⟨none,none,.st sz (.t t) y⟩=true∧∀ j∈ast,∃ e∈o.after,Region.binds .any e=true∧(e.on=j∨(e.on=xs.length∧False)∨∃ z,xs[e.on]? = some z∧j∈z.2.1)
 all:∀ j,j<xs.length+1→j∈ast
 d:∀ (i:Nat) (x:In×List Nat×Bool),xs[i]? = some x→x.1.d≠some t
 und:get fr0 t=.und
theorem Chn.anyF (hcr:CRok P g cr) (D:Chn P cr n ops xs fr0 h0 E hp) {t:Nat} {z:V} {sz:Nat} {y:O} {ast:List Nat} (W:Two P n ops xs t z sz y ast fr0) {r r':Rs} (F:EndC cr xs 0 [] fr0 E hp r)
  (G:(E.length=xs.length∧zak cr [⟨some t,none,.new z⟩,⟨none,none,.st sz (.t t) y⟩] (frA fr0 E) (hp xs.length)=some r')∨(E.length<xs.length∧r'=r)) {Q:Exit→Act→World→Prop} {w0:World} {M0:Nat→Prop} {ν0:Nu} {h00:List Ob} {df:List Deferred}
  (hQ:∀ e a' w' M' ν',XR w' M' ν' r'.1 e→ziU w' M' ν' n r'.2.1 a'→Pst w0 M0 ν0 h00 w' M' ν' r'.2.2→a'.defers=df→Q e a' w') :
  ∀ (fuel:Nat) (listed:Array Bool) (U:List Nat) (a:Act) (w:World) (M:Nat→Prop) (ν:Nu),listed.size=ops.size→zzw xs (fun j=>listed.getD j false)→(∀ j,listed.getD j false=true→j<E.length∨j=xs.length)→U.length≤fuel→(∀ j,listed.getD j true=false→j∈U) →
   ziU w M ν n (frS (fun j=>listed.getD j false) 0 E fr0) a→HR w M ν (hp (stg xs (fun j=>listed.getD j false) E.length))→Inv g w M ν →
   Pst w0 M0 ν0 h00 w M ν (hp (stg xs (fun j=>listed.getD j false) E.length))→a.defers=df →
   (listed.getD xs.length false=true→∃ u T b,(0<z.size∧u.cells.size=z.size∧z≠.und∧(∀ ys,z≠.tup ys)∧∀ w M ν,Rel w M ν z u)∧PD w M ν (hp (stg xs (fun j=>listed.getD j false) E.length)) z u T (a.tmps.getD t undef) w0.heap.size b) →
   wpAnyIn (FW ρ) 0 P .any ops Q fuel listed a w:=by
 have hEle:=D.tr.le
 have hszE:=W.size
 have hdE:∀ (j:Nat) (e:Ev),E[j]? = some e→e.d≠some t:=fun j e he=>by
  have hj:=(List.getElem?_eq_some_iff.1 he).1
  obtain ⟨x,e',hx,he'⟩:=D.get hj
  rw [he] at he'
  cases he'
  rw [(D.tr.at_ j x e hx he).1]
  exact W.d j x hx
 have noR:∀ (listed:Array Bool),listed.size=ops.size→(∀ j,listed.getD j false=true→j<E.length∨j=xs.length)→Region.ready .any ops listed=[]→False:=by
  intro listed hsz hlt hr
  have hall:∀ j,j<ops.size→listed.getD j false=true:=by
   intro j
   induction j using Nat.strongRecOn with
   | _ j ih=>
    intro hj
    cases hb:listed.getD j false with
    | true=>rfl
    | false=>
     have:j∈Region.ready .any ops listed:=by
      rw [mem_ready]
      refine ⟨?_,ops[j],by simp [hj],fun e he hb'=>ih e.on (D.edge j _ (by simp [hj]) e he hb') (by have:=D.edge j ops[j] (by simp [hj]) e he hb';omega)⟩
      have hjl:j<listed.size:=by omega
      simp only [Array.getD_eq_getD_getElem?,Array.getElem?_eq_getElem hjl,Option.getD_some] at hb ⊢
      exact hb
     rw [hr] at this
     simp at this
  have:=hlt (xs.length+1) (hall _ (by omega))
  omega
 intro fuel
 induction fuel with
 | zero=>
  intro listed U a w M ν hsz hdn hlt hU hin hf hh hi hP hdf hpd
  have hU0:U=[]:=List.length_eq_zero_iff.1 (by omega)
  exact absurd (List.eq_nil_iff_forall_not_mem.2 fun j hj=>by
   have:=hin j (mem_ready.1 hj).1
   rw [hU0] at this
   simp at this) fun hr=>noR listed hsz hlt hr
 | succ fuel ih=>
  intro listed U a w M ν hsz hdn hlt hU hin hf hh hi hP hdf hpd
  refine ⟨fun hr=>(noR listed hsz hlt hr).elim,fun i hir=>?_⟩
  obtain ⟨hl1,o,ho,hbind⟩:=mem_ready.1 hir
  have hio:=(Array.getElem?_eq_some_iff.1 ho).1
  have hil:i<listed.size:=by omega
  have hSi:listed.getD i false=false:=by
   simp only [Array.getD_eq_getD_getElem?,Array.getElem?_eq_getElem hil,Option.getD_some] at hl1 ⊢
   exact hl1
  have hUer:(U.erase i).length≤fuel:=by
   have:=List.length_erase_of_mem (hin i hl1)
   omega
  have hUin:∀ j,(listed.setIfInBounds i true).getD j true=false→j∈U.erase i:=by
   intro j hj
   have hji:j≠i:=by
    intro e
    subst e
    simp [hil] at hj
   rw [getD_set_ne true (Ne.symm hji)] at hj
   exact (List.mem_erase_of_ne hji).2 (hin j hj)
  have hS':(fun j=>(listed.setIfInBounds i true).getD j false)=ins (fun j=>listed.getD j false) i:=funext fun j=>zc7 hil j
  unfold wpOpIn
  rw [ho]
  simp only
  rcases Nat.lt_or_ge i xs.length with hix|hix
  ·obtain ⟨x,hx⟩:∃ x,xs[i]? = some x:=⟨xs[i],List.getElem?_eq_getElem hix⟩
   have hanc:∀ j∈x.2.1,listed.getD j false=true:=by
    intro j hj
    obtain ⟨e,he,hb,hh⟩:=D.anc i o x ho hx j hj
    have h1:=hbind e he hb
    rcases hh with rfl|⟨z,hz,hj⟩
    ·exact h1
    ·exact hdn e.on z hz h1 j hj
   have hmi:=D.m i o x ho hx
   have hmi':=hmi
   simp only [mIn,Bool.and_eq_true] at hmi'
   obtain ⟨⟨hd,hg⟩,hxx⟩:=hmi'
   obtain ⟨ed,hdlt⟩:=zri hd
   have hop:∀ o'∈zcW x.1.i,o'.ev (frA fr0 (E.take i))=o'.ev (frS (fun j=>listed.getD j false) 0 E fr0):=by
    intro o' ho'
    cases o' with
    | c v=>rfl
    | t t=>exact (D.slot hdn hx hSi hanc (t:=t) (List.mem_append_right _ (List.mem_flatMap.2 ⟨_,ho',by simp [O.slot]⟩))).symm
   have hwant:∀ b,wanted (frA fr0 (E.take i)) x.1.g=some b→Region.wanted o (yielded ops a.tmps)=b:=by
    intro b hb
    refine zcu hf hg ?_
    rw [←hb]
    unfold wanted
    split
    ·rfl
    ·rename_i t c eg
     rw [D.slot hdn hx hSi hanc (t:=t) (by simp [nms,eg])]
   rcases Nat.lt_or_ge i E.length with hiE|hiE
   ·obtain ⟨x',e,hx',he⟩:=D.get hiE
    rw [hx] at hx'
    cases hx'
    have A:=D.tr.at_ i x e hx he
    have next:∀ (u:Value) (w':World) (M':Nat→Prop) (ν':Nu),Rel w' M' ν' e.v u→Pst w M ν (hp (stg xs (fun j=>listed.getD j false) E.length)) w' M' ν' (hp (stg xs (ins (fun j=>listed.getD j false) i) E.length)) →
      wpAnyIn (FW ρ) 0 P .any ops Q fuel (listed.setIfInBounds i true) (a.put o.dst u) w':=by
     intro u w' M' ν' hv p
     have hf1:=(hf.step hh p).put (d:=e.d) (v:=e.v) (u:=u) (by rw [A.1];exact hdlt) hv
     have hdd:a.put o.dst u=a.put e.d u:=by rw [A.1,ed]
     rw [hdd]
     refine ih _ (U.erase i) _ w' M' ν' (by simpa using hsz) ?_ ?_ hUer hUin ?_ ?_ ?_ ?_ ?_ ?_
     ·intro k z hk hk1 j hj
      have h1:ins (fun j=>listed.getD j false) i k=true:=by rw [←zc7 hil];exact hk1
      have:ins (fun j=>listed.getD j false) i j=true:=by
       unfold ins at h1 ⊢
       simp only [Bool.or_eq_true,beq_iff_eq] at h1 ⊢
       rcases h1 with rfl|h1
       ·rw [hx] at hk;cases hk
        exact .inr (hanc j hj)
       ·exact .inr (hdn k z hk h1 j hj)
      rw [←zc7 hil] at this
      exact this
     ·intro j hj
      have:ins (fun j=>listed.getD j false) i j=true:=by rw [←zc7 hil];exact hj
      unfold ins at this
      simp only [Bool.or_eq_true,beq_iff_eq] at this
      rcases this with rfl|h1
      ·exact .inl hiE
      ·exact hlt j h1
     ·rw [hS']
      exact hf1.congr fun t=>D.frame hdn hx he hSi t
     ·rw [hS']
      exact p.hr
     ·exact hi.step (p.same hh) p.hM p.le
     ·rw [hS']
      exact hP.trans p
     ·rw [put_defers',hdf]
     ·intro hN
      rw [getD_set_ne false (by omega)] at hN
      obtain ⟨u1,T,b,k1,k2⟩:=hpd hN
      refine ⟨u1,T,b,k1,?_⟩
      rw [hS']
      have e1:(a.put e.d u).tmps.getD t undef=a.tmps.getD t undef:=by
       have h1:=hdE i e he
       cases hd1:e.d with
       | none=>rfl
       | some s=>
        have:s≠t:=fun q=>h1 (by rw [hd1,q])
        simp [Act.put,Array.getElem?_setIfInBounds_ne this]
      rw [e1]
      exact k2.step p
    have stq:x.2.2=false→stg xs (ins (fun j=>listed.getD j false) i) E.length=stg xs (fun j=>listed.getD j false) E.length:=fun hq=>zpH xs _ (by rw [zkJ hx];exact hq) _
    have behind:x.2.2=true→∀ j,i<j→j<E.length→isW xs j=true→listed.getD j false=false:=by
     intro hw j hij hj hwj
     cases hs:listed.getD j false with
     | false=>rfl
     | true=>
      obtain ⟨y,f,hy,hf'⟩:=D.get hj
      have:=D.before hy hf' (by rw [zkJ hy] at hwj;exact hwj) hij (by rw [zkJ hx];exact hw)
      have e:listed.getD i false=true:=hdn j y hy hs i this
      rw [e] at hSi
      cases hSi
    have stw:x.2.2=true→stg xs (ins (fun j=>listed.getD j false) i) E.length=i+1:=fun hw=>zpS xs _ (by rw [zkJ hx];exact hw) _ hiE fun j a b c=>behind hw j a b c
    have hpi:x.2.2=true→hp (stg xs (fun j=>listed.getD j false) E.length)=hp i:=fun hw=>(D.heapW (Nat.le_of_lt hiE) (fun j hj hwj=>hanc j (D.before hx he hw hj hwj)) fun j a b c=>by
     rcases Nat.lt_or_ge i j with h1|h1
     ·exact behind hw j h1 b c
     ·have:j=i:=by omega
      subst this;exact hSi).1
    rcases A.2 with ⟨h1,h2,h3⟩|⟨h1,hw,h3⟩|⟨h1,hq,h3,h4⟩
    ·rw [if_neg (by rw [hwant _ h1];simp)]
     refine ⟨fun _ _=>trivial,?_⟩
     refine next undef w M ν (by rw [h2];exact zp3) ?_
     cases hw:x.2.2 with
     | true=>
      rw [stw hw,h3,hpi hw]
      rw [hpi hw] at hh
      exact .refl hh
     | false=>
      rw [stq hw]
      exact .refl hh
    ·rw [if_pos (hwant _ h1)]
     refine Oper.wpR_in (zsG hxx) ?_
     rw [zlz hop] at h3
     have hh':=hh
     rw [hpi hw] at hh'
     have:=zcL (ρ:=ρ) (P:=P) hcr hmi hf hh' hi h3 (K:=wpAnyIn (FW ρ) 0 P .any ops Q fuel (listed.setIfInBounds i true)) (Q:=Q)
     refine this fun u w1 M1 ν1 hv p=>next u w1 M1 ν1 hv ?_
     rw [stw hw,hpi hw]
     exact p
    ·rw [if_pos (hwant _ h1)]
     refine Oper.wpR_in (zsG hxx) ?_
     have hv:=D.heapQ hdn hx he hSi hanc hq h1
     rw [zx9 hop] at hv
     have hs:=zAI (D.q i x hx hq) hv
     have:=zcL (ρ:=ρ) (P:=P) (zxW hcr) hmi hf hh hi hs (K:=wpAnyIn (FW ρ) 0 P .any ops Q fuel (listed.setIfInBounds i true)) (Q:=Q)
     refine this fun u w1 M1 ν1 hv p=>next u w1 M1 ν1 hv ?_
     rw [stq hq]
     exact p
   ·rcases F with ⟨h1,rfl⟩|⟨y',v,h',f1,f2,f3,f4,rfl,f6,f7,f8⟩
    ·omega
    ·have hiN:i=E.length:=by
      rcases Nat.lt_or_ge E.length i with h3|h3
      ·have:=f6 i x h3 hx
       rw [Nat.zero_add] at this
       have:=hlt _ (hanc _ this)
       omega
      ·omega
     subst hiN
     rw [hx] at f1
     cases f1
     rw [List.take_length] at hop hwant
     rw [if_pos (hwant _ f3)]
     refine Oper.wpR_in (zsG hxx) ?_
     rw [zlz hop] at f4
     have hpi:hp (stg xs (fun j=>listed.getD j false) E.length)=hp E.length:=(D.heapW (Nat.le_refl _) (fun j hj hwj=>by
      obtain ⟨z,f,hz,hf'⟩:=D.get hj
      have:=f8 j z f hz hf' (by rw [zkJ hz] at hwj;exact hwj)
      rw [Nat.zero_add] at this
      exact hanc j this) fun j a b c=>by omega).1
     have hh':=hh
     rw [hpi] at hh' hP
     have:=zcL (ρ:=ρ) (P:=P) hcr hmi hf hh' hi f4 (K:=wpAnyIn (FW ρ) 0 P .any ops Q fuel (listed.setIfInBounds E.length true)) (Q:=Q)
     refine this fun u w1 M1 ν1 hv p=>?_
     rcases G with ⟨g1,g2⟩|⟨g1,rfl⟩
     ·omega
     ·exact hQ _ a w1 M1 ν1 ⟨u,rfl,hv⟩ ⟨fun t=>.und,hf.n⟩ (hP.trans p) hdf
  ·rcases Nat.lt_or_ge xs.length i with hi2|hi2
   ·have hiN:i=xs.length+1:=by omega
    subst hiN
    obtain ⟨o',ho',hm,hast⟩:=W.st
    rw [ho] at ho'
    cases ho'
    have hall:∀ j,j<xs.length+1→listed.getD j false=true:=by
     intro j hj
     obtain ⟨e,he,hb,hh⟩:=hast j (W.all j hj)
     have h1:=hbind e he hb
     rcases hh with rfl|⟨-,q⟩|⟨z,hz,hj⟩
     ·exact h1
     ·exact q.elim
     ·exact hdn e.on z hz h1 j hj
    have hEn:E.length=xs.length:=by
     rcases Nat.lt_or_ge E.length xs.length with h2|h2
     ·have:=hlt E.length (hall E.length (by omega))
      omega
     ·omega
    have e1:frS (fun j=>listed.getD j false) 0 E fr0=frA fr0 E:=by
     rw [znU (T:=fun j=>decide (j<0+E.length)) fun j hj=>by
      have:=hall (0+j) (by omega)
      simp only [this];simp [hj]]
     rw [zua]
     simp
    have e2:hp (stg xs (fun j=>listed.getD j false) E.length)=hp xs.length:=by
     rw [←hEn]
     exact (D.heapW (Nat.le_refl _) (fun j hj _=>hall j (by omega)) fun j a b=>by omega).1
    obtain ⟨u1,T,b,⟨q1,q2,q3,q4,q5⟩,k2⟩:=hpd (hall _ (by omega))
    rw [e2] at hh hP k2
    rw [e1] at hf
    obtain ⟨ν',hh',hle,hmine,hrel⟩:=k2.wake hh q1 q2 q3 q4 q5
    obtain ⟨g1,g2⟩:E.length=xs.length∧_:=G.resolve_right fun q=>by omega
    have hmi:=hm
    simp only [mIn,Bool.and_eq_true] at hmi
    obtain ⟨⟨hd,hg⟩,hxx⟩:=hmi
    obtain ⟨ed,-⟩:=zri hd
    obtain ⟨R,hR⟩:∃ R,R=Ob.row z.size [z]:=⟨_,rfl⟩
    have g3:zak cr [⟨none,none,.st sz (.t t) y⟩] ((t,.ptr (hp xs.length).length 0 0 1)::frA fr0 E) (hp xs.length++[R])=some r':=by
     rw [←g2,hR]
     have e:wr (hp xs.length) (some ((hp xs.length).length,Ob.row z.size [z]))=hp xs.length++[Ob.row z.size [z]]:=by simp [wr]
     rw [←e]
     rfl
    rw [←hR] at hh' hmine
    have hf':ziU w M ν' n ((t,.ptr (hp xs.length).length 0 0 1)::frA fr0 E) a:=by
     refine ⟨fun s=>?_,hf.n⟩
     by_cases e:t=s
     ·subst e
      simpa [RR.get] using hrel
     ·have:=(hf.fr s).mono (fun _ _=>rfl) (fun _ hb=>hb) hle
      simpa [RR.get,e] using this
    have hP':Pst w0 M0 ν0 h00 w M ν' (hp xs.length++[R]):=⟨hh',hP.hM,hP.hM',Nu.le_trans hP.le hle,hP.stp,fun b hb=>(hmine b hb).elim (hP.mine b) .inr⟩
    have hi':Inv g w M ν':=hi.step (fun _ _=>rfl) (fun _ hb=>hb) hle
    rw [if_pos (zcu hf' hg (b:=true) rfl)]
    refine Oper.wpR_in (zsG hxx) ?_
    cases hs:step cr ((t,.ptr (hp xs.length).length 0 0 1)::frA fr0 E) (hp xs.length++[R]) (.st sz (.t t) y) with
    | none=>
     have:zak cr [⟨none,none,.st sz (.t t) y⟩] ((t,.ptr (hp xs.length).length 0 0 1)::frA fr0 E) (hp xs.length++[R])=none:=by
      simp [zak,wanted,hs]
     rw [this] at g3
     cases g3
    | some s1=>
     have:=zcL (ρ:=ρ) (P:=P) hcr hm hf' hh' hi' hs (K:=wpAnyIn (FW ρ) 0 P .any ops Q fuel (listed.setIfInBounds (xs.length+1) true)) (Q:=Q)
     cases s1 with
     | val v h1=>
      have e3:r'=(.nrm,(t,.ptr (hp xs.length).length 0 0 1)::frA fr0 E,h1):=by
       simp [zak,wanted,hs,zdI] at g3
       exact g3.symm
      subst e3
      refine this fun u w1 M1 ν1 hv p=>?_
      rw [ed]
      refine zCe (List.eq_nil_iff_forall_not_mem.2 fun j hj=>?_) (hQ .normal a w1 M1 ν1 rfl (hf'.step hh' p) (hP'.trans p) hdf)
      obtain ⟨j1,oj,j2,-⟩:=mem_ready.1 hj
      have hjo:=(Array.getElem?_eq_some_iff.1 j2).1
      have hj3:(listed.setIfInBounds (xs.length+1) true).getD j false=true:=by
       rw [zc7 hil]
       unfold ins
       simp only [Bool.or_eq_true,beq_iff_eq]
       rcases Nat.lt_or_ge j (xs.length+1) with h5|h5
       ·exact .inr (hall j h5)
       ·exact .inl (by omega)
      have hjl:j<(listed.setIfInBounds (xs.length+1) true).size:=by simp;omega
      simp only [Array.getD_eq_getD_getElem?,Array.getElem?_eq_getElem hjl,Option.getD_some] at j1 hj3
      rw [j1] at hj3
      cases hj3
     | pan v h1=>
      have e3:r'=(.pan v,(t,.ptr (hp xs.length).length 0 0 1)::frA fr0 E,h1):=by
       simp [zak,wanted,hs] at g3
       exact g3.symm
      subst e3
      refine this fun u w1 M1 ν1 hv p=>?_
      exact hQ _ a w1 M1 ν1 ⟨u,rfl,hv⟩ (hf'.step hh' p) (hP'.trans p) hdf
   ·have hiN:i=xs.length:=by omega
    subst hiN
    obtain ⟨o',ho',hm⟩:=W.new
    rw [ho] at ho'
    cases ho'
    simp only [mIn,Bool.and_eq_true] at hm
    obtain ⟨⟨hd,hg⟩,hxx⟩:=hm
    obtain ⟨ed,hdlt⟩:=zri hd
    have htn:t<n:=hdlt t rfl
    obtain ⟨hnd,T,u,hrun,q1,q2,q3,q4,q5⟩:=zEA (P:=P) (o:=o) (z:=z) hxx
    rw [if_pos (zcu hf hg (b:=true) rfl)]
    refine Oper.wpR_in hnd ?_
    refine Oper.wpR_value (hrun a w) ?_
    have eh:(w.alloc (.cells u.cells T)).heap=w.heap.push (.cells u.cells T):=rfl
    have p:Pst w M ν (hp (stg xs (fun j=>listed.getD j false) E.length)) (w.alloc (.cells u.cells T)) M ν (hp (stg xs (fun j=>listed.getD j false) E.length)):=
     Pst.quiet hh (fun _ hb=>hb) (fun _ hb=>.inl hb) (fun b hb=>by rw [eh];have:=hh.lt b hb;simp;omega) (ziF eh rfl rfl rfl _)
    have eS:∀ j,j≠xs.length→ins (fun j=>listed.getD j false) xs.length j=listed.getD j false:=fun j hj=>by
     simp [ins,hj]
    have eF:frS (ins (fun j=>listed.getD j false) xs.length) 0 E fr0=frS (fun j=>listed.getD j false) 0 E fr0:=znU fun j hj=>by
     rw [eS (0+j) (by omega)]
    have eG:stg xs (ins (fun j=>listed.getD j false) xs.length) E.length=stg xs (fun j=>listed.getD j false) E.length:=zpH xs _ (by unfold isW;simp) _
    rw [ed]
    refine ih _ (U.erase xs.length) _ _ M ν (by simpa using hsz) ?_ ?_ hUer hUin ?_ ?_ ?_ ?_ ?_ ?_
    ·intro k z1 hk hk1 j hj
     have hkn:=(List.getElem?_eq_some_iff.1 hk).1
     have h1:listed.getD k false=true:=by
      rw [←eS k (by omega),←zc7 hil];exact hk1
     have h2:=hdn k z1 hk h1 j hj
     have:(listed.setIfInBounds xs.length true).getD j false=true:=by
      rw [zc7 hil]
      unfold ins
      simp only [Bool.or_eq_true]
      exact .inr h2
     exact this
    ·intro j hj
     by_cases e:j=xs.length
     ·exact .inr e
     ·rw [getD_set_ne false (Ne.symm e)] at hj
      exact hlt j hj
    ·rw [hS',eF]
     exact (hf.step hh p).und (by rw [zzv hdE,W.und]) _
    ·rw [hS',eG]
     exact p.hr
    ·exact hi.step (p.same hh) p.hM p.le
    ·rw [hS',eG]
     exact hP.trans p
    ·rw [put_defers',hdf]
    ·intro _
     refine ⟨u,T,w.heap.size,⟨q1,q2,q3,q4,q5⟩,?_⟩
     rw [hS',eG]
     have htl:t<a.tmps.size:=by have:=hf.n;omega
     exact ⟨by simp [Act.put,htl],by rw [eh];simp,zn4 eh,fun e=>by have:=hh.lt _ e;omega,fun e=>by have:=(e.lt hh).1;omega,hP.stp.size⟩
end
theorem zvh {cr:zaw} (hcr:CRok P g cr) {n id:Nat} {ops:Array Oper} {xs:List (In×List Nat×Bool)} {t:Nat} {z:V} {sz:Nat} {y:O} {ast:List Nat} (hm:mDr P n ops (xs.map (fun x=>(x.1,x.2.1))++[(⟨some t,none,.new z⟩,[]),(⟨none,none,.st sz (.t t) y⟩,ast)])=true) (hq:(xs.all fun x=>x.2.2||qI x.1.i)=true) (ha:((List.range (xs.length+1)).all fun j=>ast.contains j)=true) (hdd:(xs.all fun x=>x.1.d != some t)=true)
  {fr:Fr} {h:List Ob} {r:Rs} (he:evF cr xs t z sz y fr h=some r) {a:Act} {w:World} {M:Nat→Prop} {ν:Nu} (hf:ziU w M ν n fr a) (hh:HR w M ν h) (hi:Inv g w M ν) {Q:Exit→Act→World→Prop}
  (hQ:∀ e a' w' M' ν',XR w' M' ν' r.1 e→ziU w' M' ν' n r.2.1 a'→Pst w M ν h w' M' ν' r.2.2→a'.defers=a.defers→Q e a' w'):(Code.region id ops true).wpIn (FW ρ) 0 P Q a w:=by
 have hund:get fr t=.und:=by
  unfold evF at he
  cases hu:get fr t<;>first|rfl|(rw [hu] at he;simp [V.isUnd] at he)
 obtain ⟨r0,he0,hcase⟩:∃ r0,evC cr xs 0 [] fr h=some r0∧((∃ fr' h',r0=(.nrm,fr',h')∧zak cr [⟨some t,none,.new z⟩,⟨none,none,.st sz (.t t) y⟩] fr' h'=some r)∨(r0.1≠.nrm∧r=r0)):=by
  unfold evF at he
  rw [hund] at he
  rw [if_pos (show V.und.isUnd=true from rfl)] at he
  cases hc:evC cr xs 0 [] fr h with
  | none=>rw [hc] at he;cases he
  | some r0=>
   rw [hc] at he
   refine ⟨r0,rfl,?_⟩
   obtain ⟨x,f,g⟩:=r0
   cases x with
   | nrm=>exact .inl ⟨f,g,rfl,he⟩
   | _=>exact .inr ⟨by simp,by simpa using he.symm⟩
 obtain ⟨E,hp,T,F⟩:=zns he0
 simp only [mDr,Bool.and_eq_true] at hm
 obtain ⟨⟨⟨h1,h2⟩,h3⟩,h4⟩:=hm
 obtain ⟨k1,k2⟩:=zrE h2
 simp only [Array.length_toList,List.length_map,List.length_append,List.length_cons,List.length_nil] at k1
 simp only [aOK,List.all_eq_true,List.mem_range] at h3
 obtain ⟨L,hL⟩:∃ L,L=xs.map (fun x=>(x.1,x.2.1))++[((⟨some t,none,.new z⟩:In),([]:List Nat)),(⟨none,none,.st sz (.t t) y⟩,ast)]:=⟨_,rfl⟩
 rw [←hL] at h3 h4 k2
 have gL:∀ i (hi:i<xs.length),(L.map (·.2)).getD i []=xs[i].2.1:=fun i hi=>by
  rw [hL]
  simp [List.getElem?_append_left,hi]
 have gN:(L.map (·.2)).getD xs.length []=[]:=by
  rw [hL]
  simp
 have gN1:(L.map (·.2)).getD (xs.length+1) []=ast:=by
  rw [hL]
  simp [List.getElem?_append_right]
 have gO:∀ i,xs.length+2≤i→(L.map (·.2)).getD i []=[]:=fun i hi=>by
  have hl:L.length=xs.length+2:=by rw [hL];simp
  simp [hl,hi]
 have h3':∀ i o,ops[i]? = some o→(∀ e∈o.after,Region.binds .any e=true→e.on<i)∧∀ j∈(L.map (·.2)).getD i [],∃ e∈o.after,Region.binds .any e=true∧(e.on=j∨(e.on<i∧j∈(L.map (·.2)).getD e.on [])):=by
  intro i o ho
  have:=h3 i (Array.getElem?_eq_some_iff.1 ho).1
  rw [ho] at this
  simp only [Bool.and_eq_true,Array.all_eq_true_iff_forall_mem,Bool.or_eq_true,Bool.not_eq_true',decide_eq_true_eq,List.all_eq_true,Array.any_eq_true',beq_iff_eq,List.contains_iff_mem] at this
  refine ⟨fun e he hb=>?_,this.2⟩
  have:=this.1 e he
  rw [hb] at this
  simpa using this
 have hLx:∀ i (hi:i<xs.length),L[i]? = some (xs[i].1,xs[i].2.1):=fun i hi=>by
  rw [hL]
  simp [List.getElem?_append_left,hi]
 have m2:∀ (i:Nat) (o:Oper) (y:In×List Nat),ops[i]? = some o→L[i]? = some y→mIn P n ops o y.1=true:=fun i o y ho hy=>by
  obtain ⟨hio,rfl⟩:=Array.getElem?_eq_some_iff.1 ho
  obtain ⟨hiy,rfl⟩:=List.getElem?_eq_some_iff.1 hy
  have:=k2 i (by simpa using hio) (by simpa using hiy)
  simpa using this
 have D:Chn P cr n ops xs fr h E hp:=by
  refine ⟨by omega,T,fun i j x y hx hy hji=>?_,fun i o x ho hx=>?_,fun i o ho=>(h3' i o ho).1,fun i o x ho hx j hj=>?_,fun i x hx hw=>?_⟩
  ·obtain ⟨hi,rfl⟩:=List.getElem?_eq_some_iff.1 hx
   obtain ⟨hj,rfl⟩:=List.getElem?_eq_some_iff.1 hy
   have li:=hLx i hi
   have lj:=hLx j hj
   obtain ⟨hi2,li⟩:=List.getElem?_eq_some_iff.1 li
   obtain ⟨hj2,lj⟩:=List.getElem?_eq_some_iff.1 lj
   have t:=zuK h4 i hi2 j (by simpa using hji) (by simpa using hj2)
   simp only [List.nil_append,li,lj] at t
   exact t
  ·obtain ⟨hi,rfl⟩:=List.getElem?_eq_some_iff.1 hx
   exact m2 i o _ ho (hLx i hi)
  ·obtain ⟨hi,rfl⟩:=List.getElem?_eq_some_iff.1 hx
   obtain ⟨e,he,hb,hh⟩:=(h3' i o ho).2 j (by rw [gL i hi];exact hj)
   refine ⟨e,he,hb,hh.imp (fun e=>e) fun hh=>?_⟩
   have hk:e.on<xs.length:=by omega
   exact ⟨xs[e.on],by simp [hk],by rw [←gL e.on hk];exact hh.2⟩
  ·have:=List.all_eq_true.1 hq x (List.mem_of_getElem? hx)
   rw [hw] at this
   simpa using this
 have hsz2:ops.size=xs.length+2:=by omega
 have W:Two P n ops xs t z sz y ast fr:=by
  refine ⟨hsz2,⟨ops[xs.length],by simp [hsz2],?_⟩,⟨ops[xs.length+1],by simp [hsz2],?_,fun j hj=>?_⟩,fun j hj=>?_,fun i x hx=>?_,hund⟩
  ·exact m2 xs.length _ (⟨some t,none,.new z⟩,[]) (by simp [hsz2]) (by rw [hL];simp)
  ·exact m2 (xs.length+1) _ (⟨none,none,.st sz (.t t) y⟩,ast) (Array.getElem?_eq_getElem (by omega)) (by rw [hL,List.getElem?_append_right (by simp)];simp)
  ·obtain ⟨e,he,hb,hh⟩:=(h3' (xs.length+1) _ (Array.getElem?_eq_getElem (by omega))).2 j (by rw [gN1];exact hj)
   refine ⟨e,he,hb,?_⟩
   rcases hh with hh|⟨h5,h6⟩
   ·exact .inl hh
   ·rcases Nat.lt_or_ge e.on xs.length with hk|hk
    ·exact .inr (.inr ⟨xs[e.on],by simp [hk],by rw [←gL e.on hk];exact h6⟩)
    ·have:e.on=xs.length:=by omega
     rw [this,gN] at h6
     simp at h6
  ·have:=List.all_eq_true.1 ha j (List.mem_range.2 hj)
   simpa using this
  ·have:=List.all_eq_true.1 hdd x (List.mem_of_getElem? hx)
   simpa using this
 have G:(E.length=xs.length∧zak cr [⟨some t,none,.new z⟩,⟨none,none,.st sz (.t t) y⟩] (frA fr E) (hp xs.length)=some r)∨(E.length<xs.length∧r=r0):=by
  rcases F with ⟨f1,f2⟩|⟨x,v,h',f1,f2,f3,f4,f5,f6⟩
  ·rcases hcase with ⟨fr',h',e1,e2⟩|⟨e1,-⟩
   ·rw [f2] at e1
    cases e1
    exact .inl ⟨f1,e2⟩
   ·rw [f2] at e1
    exact absurd rfl e1
  ·rcases hcase with ⟨fr',h',e1,e2⟩|⟨-,e2⟩
   ·rw [f5] at e1
    cases e1
   ·exact .inr ⟨(List.getElem?_eq_some_iff.1 f1).1,e2⟩
 have hl0:∀ j,(Array.replicate ops.size false).getD j false=false:=by
  intro j
  simp only [Array.getD_eq_getD_getElem?,Array.getElem?_replicate]
  split<;>rfl
 have e1:(fun j=>(Array.replicate ops.size false).getD j false)=fun _=>false:=funext hl0
 have e2:∀ m,stg xs (fun _=>false) m=0:=by
  intro m
  induction m with
  | zero=>rfl
  | succ m ih=>unfold stg;simp [ih]
 have hhw:HR { w with drawn:=w.drawn+1 } M ν h:=hh.same rfl
 refine wpIn_region_any h1 (D.anyF hcr W F G (w0:={ w with drawn:=w.drawn+1 }) (M0:=M) (ν0:=ν) (h00:=h) (df:=a.defers) ?_ ops.size _ (List.range ops.size) a { w with drawn:=w.drawn+1 } M ν (by simp) ?_ ?_ (by simp) ?_ ?_ ?_ ?_ ?_ rfl ?_)
 ·intro e a' w' M' ν' hxr hf' p hd
  exact hQ e a' w' M' ν' hxr hf' ⟨p.hr,p.hM,p.hM',p.le,⟨p.stp.os,p.stp.tape,p.stp.output,p.stp.size,p.stp.block⟩,p.mine⟩ hd
 ·intro i x hx hS
  have hS:(Array.replicate ops.size false).getD i false=true:=hS
  rw [hl0] at hS
  cases hS
 ·intro j hj
  rw [hl0] at hj
  cases hj
 ·intro j hj
  rw [List.mem_range]
  rcases Nat.lt_or_ge j ops.size with h1|h1
  ·exact h1
  ·simp only [Array.getD_eq_getD_getElem?,Array.getElem?_replicate] at hj
   rw [if_neg (by omega)] at hj
   cases hj
 ·rw [e1,znJ fun _ _=>rfl]
  exact ⟨hf.fr.mono (fun _ _=>rfl) (fun _ hb=>hb) (Nu.le_refl _),hf.n⟩
 ·rw [e1,e2,T.h0]
  exact hhw
 ·exact hi.step (fun _ _=>rfl) (fun _ hb=>hb) (Nu.le_refl _)
 ·rw [e1,e2,T.h0]
  exact .refl hhw
 ·intro hN
  rw [hl0] at hN
  cases hN
variable {P:Program} {g:GW} {ρ:Option Nat}
def Snd0 (P:Program) (g:GW) (n:Nat) (f:Fr→List Ob→Option Rs) (wpc:(Exit→Act→World→Prop)→Act→World→Prop):Prop:=
 ∀ fr h x fr' h',f fr h=some (x,fr',h')→∀ a w M ν,ziU w M ν n fr a→HR w M ν h→Inv g w M ν→∀ Q:Exit→Act→World→Prop,
  (∀ e a' w' M' ν',XR w' M' ν' x e→ziU w' M' ν' n fr' a'→Pst w M ν h w' M' ν' h'→a'.defers=a.defers→Q e a' w')→wpc Q a w
def coll (D:Nat):Deferred:={ target:=.collected D,args:=#[] }
def Dfr (w w':World) (M':Nat→Prop) (ν':Nu) (h':List Ob) (a a':Act):Prop:=∃ Ds:List Nat,a'.defers=Ds.map coll++a.defers∧(∀ D∈Ds,w.heap.size≤D∧w'.heap[D]? = some (.deferred (some []))∧¬Mine ν' h' D∧¬M' D)∧Ds.Nodup
theorem Dfr.of_eq {w w':World} {M':Nat→Prop} {ν':Nu} {h':List Ob} {a a':Act} (e:a'.defers=a.defers):Dfr w w' M' ν' h' a a':=⟨[],by simp [e],by simp,by simp⟩
theorem Dfr.mono {w w1 w2:World} {M1 M2:Nat→Prop} {ν1 ν2:Nu} {h1 h2:List Ob} {a a1:Act} (d:Dfr w w1 M1 ν1 h1 a a1) (p:Pst w1 M1 ν1 h1 w2 M2 ν2 h2):Dfr w w2 M2 ν2 h2 a a1:=by
 obtain ⟨Ds,k1,k2,k3⟩:=d
 refine ⟨Ds,k1,fun D hD=>?_,k3⟩
 obtain ⟨g1,g2,g3,g4⟩:=k2 D hD
 have hlt:=(Array.getElem?_eq_some_iff.1 g2).1
 refine ⟨g1,by rw [p.stp.block D hlt g3];exact g2,fun hm=>?_,fun hm=>?_⟩
 ·rcases p.mine D hm with h|h
  ·exact g3 h
  ·omega
 ·rcases p.hM' D hm with h|h|h
  ·exact g4 h
  ·exact g3 h
  ·omega
theorem Dfr.trans {w w1 w2:World} {M1 M2:Nat→Prop} {ν1 ν2:Nu} {h1 h2:List Ob} {a a1 a2:Act} (hsz:w.heap.size≤w1.heap.size) (d:Dfr w w1 M1 ν1 h1 a a1) (p:Pst w1 M1 ν1 h1 w2 M2 ν2 h2) (d2:Dfr w1 w2 M2 ν2 h2 a1 a2):Dfr w w2 M2 ν2 h2 a a2:=by
 have hlt:∀ D,w1.heap[D]? = some (.deferred (some []))→D<w1.heap.size:=fun D h=>(Array.getElem?_eq_some_iff.1 h).1
 have d':=d.mono p
 obtain ⟨Ds0,c1,c2,c3⟩:=d
 obtain ⟨Ds,k1,k2,k3⟩:=d'
 obtain ⟨Es,m1,m2,m3⟩:=d2
 have e:Ds0=Ds:=by
  rw [c1] at k1
  have:=List.append_cancel_right k1
  have hinj:∀ (a b:List Nat),a.map coll=b.map coll→a=b:=by
   intro a
   induction a with
   | nil=>intro b h;cases b<;>simp_all
   | cons x a ih=>
    intro b h
    cases b with
    | nil=>simp at h
    | cons y b=>
     simp only [List.map_cons,List.cons.injEq] at h
     have hxy:x=y:=by
      have:=h.1
      unfold coll at this
      simp only [Deferred.mk.injEq,Target.collected.injEq,and_true] at this
      exact this
     rw [hxy,ih b h.2]
  exact hinj _ _ this
 subst e
 refine ⟨Es++Ds0,by rw [m1,c1];simp,fun D hD=>?_,?_⟩
 ·rcases List.mem_append.1 hD with h|h
  ·obtain ⟨g1,g2,g3⟩:=m2 D h
   exact ⟨by omega,g2,g3⟩
  ·exact k2 D h
 ·refine List.nodup_append.2 ⟨m3,c3,fun x hx y hy e=>?_⟩
  subst e
  have h1:=(m2 x hx).1
  have h2:=hlt x (c2 x hy).2.1
  omega
def Snd (P:Program) (g:GW) (n:Nat) (f:Fr→List Ob→Option Rs) (wpc:(Exit→Act→World→Prop)→Act→World→Prop):Prop:=
 ∀ fr h x fr' h',f fr h=some (x,fr',h')→∀ a w M ν,ziU w M ν n fr a→HR w M ν h→Inv g w M ν→∀ Q:Exit→Act→World→Prop,
  (∀ e a' w' M' ν',XR w' M' ν' x e→ziU w' M' ν' n fr' a'→Pst w M ν h w' M' ν' h'→Dfr w w' M' ν' h' a a'→Q e a' w')→wpc Q a w
theorem zcw {cr:zaw} (hcr:CRok P g cr) {n:Nat} {ops:Array Oper}:∀ {l:List Oper} {xs:List In},zvs P n ops l xs=true→Snd0 P g n (zak cr xs) (fun Q a w=>wpListIn (FW ρ) 0 P ops Q l a w)
 | [],[],_=>by
  intro fr h x fr' h' he a w M ν hf hh hi Q hQ
  simp only [zak] at he
  cases he
  exact hQ .normal a w M ν rfl hf (.refl hh) rfl
 | [],_::_,h=>by simp [zvs] at h
 | _::_,[],h=>by simp [zvs] at h
 | o::l,x::xs,hm=>by
  intro fr h y fr' h' he a w M ν hf hh hi Q hQ
  simp only [zvs,Bool.and_eq_true] at hm
  obtain ⟨hm,hms⟩:=hm
  have hm0:=hm
  simp only [mIn,Bool.and_eq_true] at hm
  obtain ⟨⟨hd,hg⟩,hx⟩:=hm
  obtain ⟨ed,hdn⟩:=zri hd
  have ih:=zcw hcr hms
  simp only [zak] at he
  unfold wpListIn
  split at he<;>try contradiction
  ·rename_i hw
   rw [if_pos (zcu hf hg hw)]
   refine Oper.wpR_in (zsG hx) ?_
   split at he<;>try contradiction
   ·rename_i v h1 hs
    have:=zcL (P:=P) hcr hm0 hf hh hi hs (ρ:=ρ) (K:=wpListIn (FW ρ) 0 P ops Q l) (Q:=Q)
    refine this fun u w1 M1 ν1 hv p=>?_
    have hf1:=(hf.step hh p).put hdn hv
    rw [ed]
    refine ih _ _ _ _ _ he _ _ _ _ hf1 p.hr (hi.step (p.same hh) p.hM p.le) Q fun e a' w' M' ν' hx hf' p' hd'=>?_
    exact hQ e a' w' M' ν' hx hf' (p.trans p') (by rw [hd',put_defers'])
   ·rename_i v h1 hs
    have:=zcL (P:=P) hcr hm0 hf hh hi hs (ρ:=ρ) (K:=wpListIn (FW ρ) 0 P ops Q l) (Q:=Q)
    cases he
    refine this fun u w1 M1 ν1 hv p=>?_
    exact hQ _ a w1 M1 ν1 ⟨u,rfl,hv⟩ (hf.step hh p) p rfl
  ·rename_i hw
   rw [if_neg (by rw [zcu hf hg hw];simp)]
   refine ⟨fun _ _=>trivial,?_⟩
   have hf1:=hf.put hdn (v:=.tup []) (u:=undef) zp3
   rw [ed]
   refine ih _ _ _ _ _ he _ _ _ _ hf1 hh hi Q fun e a' w' M' ν' hx hf' p' hd'=>?_
   exact hQ e a' w' M' ν' hx hf' p' (by rw [hd',put_defers'])
theorem zxK (fr:Fr):∀ (l:List Nat) (t:Nat),get (l.map fun t=>(t,get fr t)) t=get fr t∨get (l.map fun t=>(t,get fr t)) t=.und
 | [],t=>.inr rfl
 | s::l,t=>by
  simp only [List.map_cons,get]
  by_cases e:s=t
  ·rw [if_pos e,e];exact .inl rfl
  ·rw [if_neg e];exact zxK fr l t
theorem ziU.keep {w:World} {M:Nat→Prop} {ν:Nu} {n:Nat} {fr:Fr} {a:Act} (hf:ziU w M ν n fr a) (k:Option (List Nat)):ziU w M ν n (zv9 k fr) a:=by
 cases k with
 | none=>exact hf
 | some l=>
  refine ⟨fun t=>?_,hf.n⟩
  simp only [zv9]
  rcases zxK fr l t with e|e
  ·rw [e];exact hf.fr t
  ·rw [e];exact .und
theorem zn2 {cr:zaw} (hcr:CRok P g cr) {n id:Nat} {ops:Array Oper} {xs:List (In×List Nat)} (hm:mDr P n ops xs=true):Snd0 P g n (zqT cr xs []) (fun Q a w=>(Code.region id ops true).wpIn (FW ρ) 0 P Q a w):=by
 intro fr h x fr' h' he a w M ν hf hh hi Q hQ
 obtain ⟨hmix,rfl,E,D,rfl,rfl⟩:=Dr.of hm he
 obtain ⟨m,em⟩:∃ m,(hA h E).length=h.length+m:=⟨(hA h E).length-h.length,by have:=zc2 E h;omega⟩
 have hl0:∀ j,(Array.replicate ops.size false).getD j false=false:=by
  intro j
  simp only [Array.getD_eq_getD_getElem?,Array.getElem?_replicate]
  split<;>rfl
 have e1:(fun j=>(Array.replicate ops.size false).getD j false)=fun _=>false:=funext hl0
 have hhw:HR { w with drawn:=w.drawn+1 } M ν (h++List.replicate m .dead):=(hh.pad m).same rfl
 refine wpIn_region_any hmix (D.any hcr em ops.size _ (List.range ops.size) a { w with drawn:=w.drawn+1 } M ν (by simp) ?_ (by simp) ?_ ?_ ?_ ?_ ?_ ?_)
 ·intro i hi hS
  have hS:(Array.replicate ops.size false).getD i false=true:=hS
  rw [hl0] at hS
  cases hS
 ·intro j hj
  rw [List.mem_range]
  rcases Nat.lt_or_ge j ops.size with h1|h1
  ·exact h1
  ·simp only [Array.getD_eq_getD_getElem?,Array.getElem?_replicate] at hj
   rw [if_neg (by omega)] at hj
   cases hj
 ·rw [e1,znJ fun _ _=>rfl]
  exact ⟨hf.fr.mono (fun _ _=>rfl) (fun _ hb=>hb) (Nu.le_refl _),hf.n⟩
 ·rw [e1,zrQ fun _ _=>rfl]
  exact hhw
 ·exact hi.step (fun _ _=>rfl) (fun _ hb=>hb) (Nu.le_refl _)
 ·intro k hk _
  exact hh.new k hk
 ·intro a' w' M' ν' hf' p hd
  rw [e1,zrQ fun _ _=>rfl] at p
  have p:=p.pad
  exact hQ .normal a' w' M' ν' rfl hf' ⟨p.hr,p.hM,p.hM',p.le,⟨p.stp.os,p.stp.tape,p.stp.output,p.stp.size,p.stp.block⟩,p.mine⟩ hd
def zve (ρ:Option Nat) (P:Program) (c:Code) (Q:Exit→Act→World→Prop):Nat→Code→Act→World→Prop
 | 0,_,_,_=>False
 | n+1,rest,a,w=>rest.wpIn (FW ρ) 0 P (fun e a1 w1=>match e with
  | .goto l=>match findLabel c l with
   | some r=>zve ρ P c Q n r a1 w1
   | none=>Q (.goto l) a1 w1
  | e=>Q e a1 w1) a w
theorem zxf {b:Frame} {a:Act} {k:List Item} {cs:List Frame} {w:World} {c:Code}:Go.step P (lone (b.atR a (.code (.scope c)::k)) cs w)=.next (lone (b.atR a (.code c::.inScope c::k)) cs w):=
 step_lone_go (by simp [stepG,stepG.exec,Frame.atR])
theorem zuv {b:Frame} {a:Act} {k:List Item} {cs:List Frame} {w:World} {c:Code}:Go.step P (lone (b.atR a (.inScope c::k)) cs w)=.next (lone (b.atR a k) cs w):=
 step_lone_go (by simp [stepG,stepG.exec,Frame.atR])
theorem zpE {c:Code} {Q:Exit→Act→World→Prop}:∀ (n:Nat) (rest:Code) (a:Act) (w:World),zve ρ P c Q n rest a w→∀ (b:Frame) (k:List Item) (cs:List Frame),b.roundOf=(FW ρ).round→(FW ρ).fn b.fn→(FW ρ).room (cs.length+1+0) →
  ∃ e a' w',Q e a' w'∧ArrivesIn (Machine.fenced P (FW ρ)) P (lone (b.atR a (.code rest::.inScope c::k)) cs w) b k cs e a' w'
 | 0,_,_,_,h=>h.elim
 | n+1,rest,a,w,h=>by
  intro b k cs hro hb hr
  unfold zve at h
  obtain ⟨e,a1,w1,hq,harr⟩:=h b (.inScope c::k) cs hro hb hr
  cases e with
  | normal=>exact ⟨.normal,a1,w1,hq,StepsIn.trans harr (.one (fenced_calm hb hr rfl) zuv)⟩
  | exit id=>exact ⟨.exit id,a1,w1,hq,fun k' hk=>harr.1 k' (by simp [exitTo,hk]),fun h1 h2=>harr.2 h1 (by simp [exitTo,h2])⟩
  | ret=>exact ⟨_,a1,w1,hq,harr⟩
  | panic ch=>exact ⟨_,a1,w1,hq,harr⟩
  | outgrown=>exact ⟨_,a1,w1,hq,harr⟩
  | goto l=>
   simp only at hq
   cases hf:findLabel c l with
   | none=>
    rw [hf] at hq
    exact ⟨.goto l,a1,w1,hq,fun k' hk=>harr.1 k' (by simp [gotoIn,hf,hk]),fun h1 h2=>harr.2 h1 (by simp [gotoIn,hf,h2])⟩
   | some r=>
    rw [hf] at hq
    obtain ⟨e2,a2,w2,hq2,harr2⟩:=zpE n r a1 w1 hq b k cs hro hb hr
    exact ⟨e2,a2,w2,hq2,.of_steps (harr.1 _ (by simp [gotoIn,hf])) harr2⟩
theorem zxG {c:Code} {Q:Exit→Act→World→Prop} {a:Act} {w:World} (n:Nat) (h:zve ρ P c Q n c a w):(Code.scope c).wpIn (FW ρ) 0 P Q a w:=by
 intro b k cs hro hb hr
 obtain ⟨e,a1,w1,hq,harr⟩:=zpE n c a w h b k cs hro hb hr
 exact ⟨e,a1,w1,hq,.of_steps (.one (fenced_calm hb hr rfl) zxf) harr⟩
def zAL:Code→Bool
 | .seq a b=>zAL a&&zAL b
 | .label _=>false
 | _=>true
theorem zqN:∀ {c:Code} (l:Nat),zAL c=true→findLabel c l=none
 | .seq a b,l,h=>by
  simp only [zAL,Bool.and_eq_true] at h
  simp [findLabel,zqN l h.1,zqN l h.2]
 | .label _,_,h=>by cases h
 | .skip,_,_|.region _ _ _,_,_|.cond _ _ _,_,_|.block _ _,_,_|.loop _,_,_|.rangeFunc _ _ _ _,_,_|.exit _,_,_|.scope _,_,_|.goto _,_,_|.ret,_,_|.refuse _,_,_=>rfl
theorem zxq {cr:zaw}:∀ {l:List (In×List Nat)} {fr:Fr} {h:List Ob},evQ cr l fr h=zak (crD cr) (l.map (·.1)) fr h
 | [],_,_=>rfl
 | x::l,fr,h=>by
  rw [zlR,List.map_cons]
  simp only [zak]
  cases hw:wanted fr x.1.g with
  | none=>rfl
  | some b=>
   cases b with
   | false=>exact zxq
   | true=>
    simp only
    cases hs:step (crD cr) fr h x.1.i with
    | none=>rfl
    | some s=>
     cases s with
     | val v h'=>exact zxq
     | pan v h'=>rfl
def zvd:IR→Bool
 | .seq a b=>zvd a&&zvd b
 | .cond _ a b=>zvd a&&zvd b
 | .blk _ b=>zvd b
 | .loop b=>zvd b
 | .sc b=>zvd b
 | .scg b=>zvd b
 | .scr a b=>zvd a&&zvd b
 | .rf _ _ _ _=>false
 | _=>true
def mC (P:Program) (n:Nat):Code→IR→Bool
 | .skip,.skip=>true
 | .label l,.lab l'=>l==l'
 | .goto l,.gto l'=>l==l'
 | .scope b,.scg b'=>mC P n b b'
 | .region _ ops d,.rg l _=>!d&&zvs P n ops ops.toList l
 | .region _ ops d,.dr l _=>d&&mDr P n ops l
 | .region _ ops d,.dc l _=>d&&(mDr P n ops (l.map fun x=>(x.1,x.2.1))&&l.all fun x=>x.2.2||qI x.1.i)
 | .region _ ops d,.df l t z sz y ast _=>d&&(mDr P n ops (l.map (fun x=>(x.1,x.2.1))++[(⟨some t,none,.new z⟩,[]),(⟨none,none,.st sz (.t t) y⟩,ast)])&&(l.all fun x=>x.2.2||qI x.1.i)&&((List.range (l.length+1)).all fun j=>ast.contains j)&&l.all fun x=>x.1.d != some t)
 | .region _ ops d,.dq l _=>if d then mDr P n ops l&&calm 0 false l else zvs P n ops ops.toList (l.map (·.1))
 | .seq a b,.seq a' b'=>mC P n a a'&&mC P n b b'
 | .cond c a b,.cond c' a' b'=>mO c c'&&mC P n a a'&&mC P n b b'
 | .block id b,.blk id' b'=>id==id'&&mC P n b b'
 | .loop b,.loop b'=>mC P n b b'
 | .scope b,.sc b'=>zAL b&&mC P n b b'
 | .exit id,.ext id'=>id==id'
 | .ret,.ret=>true
 | .rangeFunc f ps a b,.rf f' ps' a' b'=>mO f f'&&ps.toList==ps'&&ps'.all (fun t=>decide (t<n))&&zvd a'&&zvd b'&&mC P n a a'&&mC P n b b'
 | _,_=>false
def okR (ρ:Option Nat) (ir:IR):Prop:=ρ=none∨zvd ir=true
def zx6 (ρ:Option Nat) (P:Program) (g:GW) (n:Nat) (rec:IR→Fr→List Ob→Option Rs) (m:Nat):Prop:=(∀ b c,okR ρ b→mC P n c b=true→Snd P g n (rec (.loop b)) (fun Q a w=>Code.roundsIn (FW ρ) 0 P c Q m a w)) ∧
 ∀ b c b' c',okR ρ b→okR ρ b'→mC P n c b=true→mC P n c' b'=true→Snd P g n (rec (.scr b b')) (fun Q a w=>zve ρ P c Q m c' a w)
theorem okR.l {a b c:IR} (h:okR ρ a) (e:zvd a=(zvd b&&zvd c)):okR ρ b∧okR ρ c:=by
 rcases h with h|h
 ·exact ⟨.inl h,.inl h⟩
 ·rw [e,Bool.and_eq_true] at h
  exact ⟨.inr h.1,.inr h.2⟩
theorem okR.find {c:IR} {l:Nat} {r:IR} (h:okR ρ c) (e:zoq c l=some r):okR ρ r:=by
 rcases h with h|h
 ·exact .inl h
 ·refine .inr ?_
  revert r
  induction c with
  | seq a b iha ihb=>
   intro r e
   simp only [zvd,Bool.and_eq_true] at h
   unfold zoq at e
   split at e
   ·rename_i r1 e1
    cases e
    simp only [zvd,Bool.and_eq_true]
    exact ⟨iha h.1 e1,h.2⟩
   ·exact ihb h.2 e
  | lab k=>
   intro r e
   unfold zoq at e
   split at e<;>try contradiction
   cases e
   rfl
  | _=>intro r e;simp [zoq] at e
theorem zCb {n:Nat}:∀ {ir:IR} {c:Code} (l:Nat),mC P n c ir=true→(zoq ir l=none∧findLabel c l=none)∨∃ r r',zoq ir l=some r∧findLabel c l=some r'∧mC P n r' r=true:=by
 intro ir
 induction ir with
 | seq a b iha ihb=>
  intro c l h
  cases c<;>simp only [mC,Bool.false_eq_true,Bool.and_eq_true] at h
  rename_i ca cb
  rcases iha l h.1 with ⟨h1,h2⟩|⟨r,r',h1,h2,h3⟩
  ·simp only [zoq,findLabel,h1,h2]
   exact ihb l h.2
  ·exact .inr ⟨.seq r b,.seq r' cb,by simp [zoq,h1],by simp [findLabel,h2],by simp [mC,h3,h.2]⟩
 | lab k=>
  intro c l h
  cases c<;>simp only [mC,Bool.false_eq_true,beq_iff_eq] at h
  subst h
  rename_i k'
  by_cases e:k'=l
  ·subst e
   exact .inr ⟨.skip,.skip,by simp [zoq],by simp [findLabel],rfl⟩
  ·exact .inl ⟨by simp [zoq,e],by simp [findLabel,e]⟩
 | _=>
  intro c l h
  cases c<;>simp only [mC,Bool.false_eq_true] at h<;>exact .inl ⟨rfl,rfl⟩
theorem ztJ {rec:IR→Fr→List Ob→Option Rs} {cr:zaw} {n m:Nat} (hrec:zx6 ρ P g n rec m) {b:IR} {c:Code} (ho:okR ρ b) (hm:mC P n c b=true) (hb:Snd P g n (evS rec cr b) (fun Q a w=>c.wpIn (FW ρ) 0 P Q a w)) :
  Snd P g n (evS rec cr (.loop b)) (fun Q a w=>Code.roundsIn (FW ρ) 0 P c Q (m+1) a w):=by
 intro fr h x fr' h' he a w M ν hf hh hi Q hQ
 show c.wpIn (FW ρ) 0 P (Exit.then (Code.roundsIn (FW ρ) 0 P c Q m) Q) a w
 simp only [evS] at he
 split at he
 ·rename_i fr1 h1 e1
  refine hb _ _ _ _ _ e1 a w M ν hf hh hi _ fun e a1 w1 M1 ν1 hx hf1 p hd=>?_
  cases hx
  refine hrec.1 b c ho hm _ _ _ _ _ he a1 w1 M1 ν1 hf1 p.hr (hi.step (p.same hh) p.hM p.le) Q fun e a' w' M' ν' hx hf' p' hd'=>?_
  exact hQ e a' w' M' ν' hx hf' (p.trans p') (hd.trans p.stp.size p' hd')
 ·rename_i hne
  refine hb _ _ _ _ _ he a w M ν hf hh hi _ fun e a1 w1 M1 ν1 hx hf1 p hd=>?_
  have hq:=hQ e a1 w1 M1 ν1 hx hf1 p hd
  cases x with
  | nrm=>exact absurd he (hne _ _)
  | ext id=>cases hx;exact hq
  | ret=>cases hx;exact hq
  | pan v=>obtain ⟨u,rfl,_⟩:=hx;exact hq
  | gto l=>cases hx;exact hq
theorem zr4 {rec:IR→Fr→List Ob→Option Rs} {n m:Nat} (hrec:zx6 ρ P g n rec m) {b b':IR} {c c':Code} (ho:okR ρ b) (hm:mC P n c b=true) (hm':mC P n c' b'=true) {f:Fr→List Ob→Option Rs} (hb:Snd P g n f (fun Q a w=>c'.wpIn (FW ρ) 0 P Q a w)) :
  Snd P g n (fun fr h=>scE rec b (f fr h)) (fun Q a w=>zve ρ P c Q (m+1) c' a w):=by
 intro fr h x fr' h' he a w M ν hf hh hi Q hQ
 unfold zve
 simp only [scE] at he
 split at he
 ·rename_i l fr1 h1 e1
  refine hb _ _ _ _ _ e1 a w M ν hf hh hi _ fun e a1 w1 M1 ν1 hx hf1 p hd=>?_
  cases hx
  simp only
  rcases zCb l hm with ⟨g1,g2⟩|⟨r,r',g1,g2,g3⟩
  ·rw [g1] at he
   cases he
   rw [g2]
   exact hQ _ a1 w1 M1 ν1 rfl hf1 p hd
  ·rw [g1] at he
   rw [g2]
   refine hrec.2 b c r r' ho (ho.find g1) hm g3 _ _ _ _ _ he a1 w1 M1 ν1 hf1 p.hr (hi.step (p.same hh) p.hM p.le) Q fun e a' w' M' ν' hx hf' p' hd'=>?_
   exact hQ e a' w' M' ν' hx hf' (p.trans p') (hd.trans p.stp.size p' hd')
 ·rename_i hne
  refine hb _ _ _ _ _ he a w M ν hf hh hi _ fun e a1 w1 M1 ν1 hx hf1 p hd=>?_
  have hq:=hQ e a1 w1 M1 ν1 hx hf1 p hd
  cases x with
  | nrm=>cases hx;exact hq
  | ext id=>cases hx;exact hq
  | ret=>cases hx;exact hq
  | pan v=>obtain ⟨u,rfl,_⟩:=hx;exact hq
  | gto l=>exact absurd he (hne _ _ _)
variable {P:Program} {g:GW}
theorem zAC {w:World} {M:Nat→Prop} {ν:Nu} {h:List Ob} (hh:HR w M ν h) {id:Nat} {s:Lp} (he:h[id]? = some (.lp s)) {L:Lc} (hL:ν id=some L) (x:Ob) (o:Obj) (hx:HOb (w.putObj L.b o) M ν L x) :
  Pst w M ν h (w.putObj L.b o) M ν (h.set id x):=by
 obtain ⟨hid,he⟩:=List.getElem?_eq_some_iff.1 he
 have hl:live h[id]=true:=by rw [he];rfl
 have e1:(fun i=>if i=id then some L else ν i)=ν:=funext fun i=>by
  by_cases e:i=id
  ·subst e;simp [hL]
  ·simp [e]
 have e2:wr h (some (id,x))=h.set id x:=by simp [zuL,hid]
 obtain ⟨k1,k2,k3,k4⟩:=HR.upd (x:=x) (L':=L) hh hid hl hL (w':=w.putObj L.b o) (fun k _ hk=>World.putObj_heap_other hk) (by simp) (Nat.le_refl _) (fun _=>rfl) (.inl rfl) (by rw [e1];exact hx)
 rw [e1,e2] at k1 k3
 refine ⟨k1,fun _ hb=>hb,fun _ hb=>.inl hb,Nu.le_refl _,⟨rfl,rfl,rfl,by simp,fun k _ hk=>World.putObj_heap_other fun e=>hk ⟨id,hid,hl,L,hL,e.symm⟩⟩,k3⟩
theorem zCh {w:World} {M:Nat→Prop} {ν:Nu} {h:List Ob} (hh:HR w M ν h) {id:Nat} {s:Lp} (he:h[id]? = some (.lp s)) {L:Lc} (hL:∃ L',ν id=some L'∧(L'.tot=0→L'=L)):ν id=some L∧HLp w M L s:=by
 obtain ⟨hid,he⟩:=List.getElem?_eq_some_iff.1 he
 obtain ⟨L1,h1,h2⟩:=hh.ob id hid (by rw [he];rfl)
 rw [he] at h2
 obtain ⟨L2,h3,h4⟩:=hL
 rw [h1] at h3
 cases h3
 have:=h4 (HLp.tot h2)
 subst this
 exact ⟨h1,h2⟩
theorem zBL {ν ν':Nu} {id:Nat} {L:Lc} (h:∃ L',ν id=some L'∧(L'.tot=0→L'=L)) (hn:ν.le ν'):∃ L',ν' id=some L'∧(L'.tot=0→L'=L):=by
 obtain ⟨L1,h1,h2⟩:=h
 obtain ⟨L',h3,h4,h5⟩:=hn _ _ h1
 exact ⟨L',h3,fun h0=>by rw [h5 (by omega)];exact h2 (by omega)⟩
theorem zvI {w:World} {M:Nat→Prop} {ν:Nu}:∀ {ps:List Nat} {vs:List V} {us:List Value} {fr:Fr} {tmps:Array Value},(∀ t∈ps,t<tmps.size)→vs.length=ps.length→us.length=vs.length→(∀ i (hi:i<vs.length),Rel w M ν vs[i] (us.getD i undef))→FrR w M ν fr tmps →
  FrR w M ν (zrx ps vs fr) ((ps.zip us).foldl (fun t (p:Nat×Value)=>t.setIfInBounds p.1 p.2) tmps)∧((ps.zip us).foldl (fun t (p:Nat×Value)=>t.setIfInBounds p.1 p.2) tmps).size=tmps.size
 | [],[],[],fr,tmps,_,_,_,_,hf=>⟨hf,rfl⟩
 | [],_::_,_,_,_,_,h,_,_,_=>by simp at h
 | _::_,[],_,_,_,_,h,_,_,_=>by simp at h
 | _,[],_::_,_,_,_,_,h,_,_=>by simp at h
 | _,_::_,[],_,_,_,_,h,_,_=>by simp at h
 | t::ps,v::vs,u::us,fr,tmps,hp,h1,h2,hr,hf=>by
  have ht:t<tmps.size:=hp t (by simp)
  have:=zvI (ps:=ps) (vs:=vs) (us:=us) (fr:=(t,v)::fr) (tmps:=tmps.setIfInBounds t u) (fun x hx=>by simpa using hp x (by simp [hx])) (by simpa using h1) (by simpa using h2) (fun i hi=>hr (i+1) (Nat.succ_lt_succ hi)) (fun x=>by
   simp only [get]
   by_cases e:t=x
   ·subst e
    have h0:Rel w M ν v u:=hr 0 (by simp)
    simpa [ht] using h0
   ·rw [if_neg e]
    have:=hf x
    simpa [Array.getElem?_setIfInBounds_ne e] using this)
  refine ⟨by simpa [zrx] using this.1,by simpa using this.2⟩
theorem FrR.bind {w:World} {M:Nat→Prop} {ν:Nu} {ps:Array Tmp} {vs:List V} {us:Array Value} {fr:Fr} {tmps:Array Value} (hp:∀ t∈ps.toList,t<tmps.size) (h1:vs.length=ps.toList.length) (h2:us.size=vs.length) (hr:∀ i (hi:i<vs.length),Rel w M ν vs[i] (us.getD i undef)) (hf:FrR w M ν fr tmps) :
  FrR w M ν (zrx ps.toList vs fr) ((ps.zip us).foldl (fun t (p,v)=>t.setIfInBounds p v) tmps)∧((ps.zip us).foldl (fun t (p,v)=>t.setIfInBounds p v) tmps).size=tmps.size:=by
 have:=zvI (us:=us.toList) hp h1 (by simpa using h2) (fun i hi=>by simpa using hr i hi) hf
 rw [←Array.foldl_toList,Array.toList_zip]
 exact this
def zz5 (fn:FuncId) (tmps:Array Value) (ps:Array Tmp) (as bd:Code) (D:Nat):Loop:={ state:=.ready,pending:=none,fn,tmps,params:=ps,assign:=as,body:=bd,defers:=D }
def lcL (w:World) (fn:FuncId) (tmps:Array Value) (ps:Array Tmp) (as bd:Code):Lc:=⟨w.heap.size+1,0,0,1,0,0,zz5 fn tmps ps as bd w.heap.size⟩
def yxL (e:YX) (y:Nat) (L0:Lc) (fr:Fr) (tmps:Array Value):YX where
 y:=some (y,L0)
 X:=fun w M ν=>(∃ L',ν y=some L'∧(L'.tot=0→L'=L0))∧FrR w M ν fr tmps∧e.X w M ν
 st:=fun w w' M M' ν ν' hw hM hn h=>⟨zBL h.1 hn,h.2.1.mono hw hM hn,e.st _ _ _ _ _ _ hw hM hn h.2.2⟩
theorem zAU {n:Nat} {ps:Array Tmp} {as bd:Code} {ea eb:Fr→List Ob→Option Rs} {fr:Fr} {a:Act} {w:World} {fn:FuncId} {y:Nat} (hn:n≤a.tmps.size) (hpn:∀ t∈ps.toList,t<n)
  (ha:∀ l,Snd P g n ea (fun Q a w=>as.wpIn (FW (some l)) 0 P Q a w)) (hb:∀ l,Snd P g n eb (fun Q a w=>bd.wpIn (FW (some l)) 0 P Q a w)) :
  YOK P (g.at (yxL g.yl y (lcL w fn a.tmps ps as bd) fr a.tmps)) (rnd ea eb y ps.toList fr):=by
 intro args h0 out h0' hy
 unfold rnd at hy
 split at hy<;>try contradiction
 rename_i y' vs
 split at hy<;>try contradiction
 rename_i hc
 obtain ⟨rfl,hvs⟩:=hc
 split at hy<;>try contradiction
 rename_i hy0
 split at hy<;>try contradiction
 rename_i fr1 h1 ea1
 split at hy<;>try contradiction
 rename_i hy1
 split at hy<;>try contradiction
 rename_i x frx h2 eb1
 split at hy<;>try contradiction
 rename_i hy2
 refine ⟨y',lcL w fn a.tmps ps as bd,vs,rfl,rfl,?_⟩
 intro us w0 M0 ν0 hus hrel hh0 hi0
 obtain ⟨hL0,hLp0⟩:=zCh hh0 hy0 hi0.2.2.1
 obtain ⟨_,_,_,hblk⟩:=hLp0
 have hblk:w0.heap[w.heap.size+1]? = some (.loop (zz5 fn a.tmps ps as bd w.heap.size)):=hblk
 refine ⟨fun u hu=>?_,?_⟩
 ·cases hu with
  | mp hv _ hm=>
   rw [hL0] at hv
   cases hv
   rw [hm rfl]
   simp [Lc.ref,lcL]
 refine ⟨fn,_,as,bd,run_yield hblk (by show us.size=ps.size;rw [hus,hvs];simp),?_⟩
 refine roundIn_of_wpIn trivial ?_
 obtain ⟨hfr,hfs⟩:=FrR.bind (ps:=ps) (vs:=vs) (us:=us) (fr:=fr) (tmps:=a.tmps) (fun t ht=>Nat.lt_of_lt_of_le (hpn t ht) hn) hvs hus hrel hi0.2.2.2.1
 have hi0':Inv g w0 M0 ν0:=⟨hi0.1,hi0.2.1,hi0.2.2.2.2⟩
 refine ha (w.heap.size+1) _ _ _ _ _ ea1 _ w0 M0 ν0 ⟨hfr,Nat.le_trans hn (Nat.le_of_eq hfs.symm)⟩ hh0 hi0' _ ?_
 intro e a1 w1 M1 ν1 hx1 hf1 p1 _
 cases hx1
 obtain ⟨hL1,hLp1⟩:=zCh p1.hr hy1 (zBL ⟨_,hL0,fun _=>rfl⟩ p1.le)
 have hm1:=hLp1.mine
 have hblk1:w1.heap[w.heap.size+1]? = some (.loop (zz5 fn a.tmps ps as bd w.heap.size)):=hLp1.blk
 have hlt1:w.heap.size+1<w1.heap.size:=(Array.getElem?_eq_some_iff.1 hblk1).1
 refine ⟨_,run_beginRound hblk1 rfl,?_⟩
 have p2:=zAC p1.hr hy1 hL1 (.lp .bsy) (.loop { zz5 fn a.tmps ps as bd w.heap.size with state:=.busy }) ⟨rfl,by simp [lcL],hm1,World.putObj_heap_same hlt1⟩
 have p12:=p1.trans p2
 refine hb (w.heap.size+1) _ _ _ _ _ eb1 a1 _ M1 ν1 (hf1.step p1.hr p2) p2.hr ((hi0'.step (p1.same hh0) p1.hM p1.le).step (p2.same p1.hr) p2.hM p2.le) _ ?_
 intro e a3 w3 M3 ν3 hx3 hf3 p3 _
 obtain ⟨hL3,hLp3⟩:=zCh p3.hr hy2 (zBL ⟨_,hL1,fun _=>rfl⟩ p3.le)
 have hm3:=hLp3.mine
 have hblk3:w3.heap[w.heap.size+1]? = some (.loop { zz5 fn a.tmps ps as bd w.heap.size with state:=.busy }):=hLp3.blk
 have hlt3:w.heap.size+1<w3.heap.size:=(Array.getElem?_eq_some_iff.1 hblk3).1
 have fin:∀ (s:Lp),s≠.bsy→(Instr.endRound (w.heap.size+1) s.pe).run P w3=.ok (.bool s.pe.isNone) (w3.putObj (w.heap.size+1) (.loop { zz5 fn a.tmps ps as bd w.heap.size with state:=s.st,pending:=s.pe })) ∧
   Pst w0 M0 ν0 h0 (w3.putObj (w.heap.size+1) (.loop { zz5 fn a.tmps ps as bd w.heap.size with state:=s.st,pending:=s.pe })) M3 ν3 (h2.set y' (.lp s)):=by
  intro s hs
  refine ⟨?_,(p12.trans p3).trans (zAC p3.hr hy2 hL3 (.lp s) (.loop { zz5 fn a.tmps ps as bd w.heap.size with state:=s.st,pending:=s.pe }) ⟨rfl,by simp [lcL],hm3,World.putObj_heap_same hlt3⟩)⟩
  rw [run_endRound s.pe hblk3]
  cases s with
  | rdy=>rfl
  | bsy=>exact absurd rfl hs
  | fin j=>rfl
 cases x with
 | nrm=>
  cases hy
  cases hx3
  obtain ⟨k1,k2⟩:=fin .rdy (by simp)
  exact ⟨_,_,k1,M3,ν3,⟨_,rfl,.bool⟩,k2⟩
 | ret=>
  cases hy
  cases hx3
  obtain ⟨k1,k2⟩:=fin (.fin .ret) (by simp)
  exact ⟨_,_,k1,M3,ν3,⟨_,rfl,.bool⟩,k2⟩
 | ext id=>
  cases hy
  cases hx3
  obtain ⟨k1,k2⟩:=fin (.fin (.ext id)) (by simp)
  exact ⟨_,_,k1,M3,ν3,⟨_,rfl,.bool⟩,k2⟩
 | gto l=>
  cases hy
  cases hx3
  obtain ⟨k1,k2⟩:=fin (.fin (.gto l)) (by simp)
  exact ⟨_,_,k1,M3,ν3,⟨_,rfl,.bool⟩,k2⟩
 | pan v=>cases hy
theorem zCq {cr:zaw} (hcr:CRok P g cr) {n:Nat} {f:O} {f':Operand} {ps:Array Tmp} {ps':List Nat} {as bd:Code} {ea eb:Fr→List Ob→Option Rs} (hmf:mO f' f=true) (hps:ps.toList=ps') (hpn:∀ t∈ps',t<n)
  (ha:∀ l,Snd P g n ea (fun Q a w=>as.wpIn (FW (some l)) 0 P Q a w)) (hb:∀ l,Snd P g n eb (fun Q a w=>bd.wpIn (FW (some l)) 0 P Q a w)) :
  Snd P g n (fun fr h=>match f.ev fr with
   | .fn (.func gf) [] cap=>match cr.it (rnd ea eb h.length ps' fr) gf (.mp h.length::cap) (h++[.lp .rdy]) with
    | some (.ret _,h')=>match h'[h.length]? with
     | some (.lp .rdy)=>some (.nrm,fr,h'.set h.length .dead)
     | some (.lp (.fin j))=>some (j.x,fr,h'.set h.length .dead)
     | _=>none
    | _=>none
   | _=>none) (fun Q a w=>(Code.rangeFunc f' ps as bd).wpIn (FW none) 0 P Q a w):=by
 subst hps
 intro fr h x fr' h' he a w M ν hf hh hi Q hQ
 have hff:=zaM hf.fr hmf
 simp only at he
 split at he<;>try contradiction
 rename_i gf cap ef
 rw [ef] at hff
 split at he<;>try contradiction
 rename_i v h2 eit
 generalize hu:a.eval f'=u at hff
 cases hff with
 | fn hl hq kl kr=>
 rename_i vs us
 have hvs:vs=#[]:=Array.size_eq_zero_iff.1 (by simpa using hl)
 subst hvs
 refine wpIn_rangeFunc ?_
 intro fn _
 obtain ⟨L0,hL0⟩:∃ L0,L0=lcL w fn a.tmps ps as bd:=⟨_,rfl⟩
 obtain ⟨W1,hW1⟩:∃ W1,W1=(w.alloc (.deferred (some []))).alloc (.loop (zz5 fn a.tmps ps as bd w.heap.size)):=⟨_,rfl⟩
 have hsz1:W1.heap.size=w.heap.size+2:=by rw [hW1];simp [World.size_alloc]
 have hblk1:W1.heap[w.heap.size+1]? = some (.loop (zz5 fn a.tmps ps as bd w.heap.size)):=by
  rw [hW1];have:=World.alloc_heap_new (w.alloc (.deferred (some []))) (.loop (zz5 fn a.tmps ps as bd w.heap.size));rwa [World.size_alloc] at this
 have hD1:W1.heap[w.heap.size]? = some (.deferred (some [])):=by
  rw [hW1];exact (Below.heap_alloc _ _ _ (by simp)).trans (World.alloc_heap_new w _)
 have hold:∀ k,k<w.heap.size→W1.heap[k]? = w.heap[k]?:=fun k hk=>by
  rw [hW1,Below.heap_alloc _ _ _ (by simp [World.size_alloc];omega),Below.heap_alloc _ _ _ hk]
 obtain ⟨k1,k2,k3,k4⟩:=HR.add (w':=W1) (nid:=h.length) (x:=.lp .rdy) (L:=L0) hh (hh.new _ (Nat.le_refl _)) (Nat.le_refl _) (fun hi=>absurd hi (Nat.lt_irrefl _)) hold (by omega) (by rw [hL0];simp [lcL])
  (by rw [hL0];exact ⟨rfl,by simp [lcL],fun hb=>by have:=hh.lt _ hb;simp [lcL] at this;omega,hblk1⟩)
 have e2:wr h (some (h.length,.lp .rdy))=h++[.lp .rdy]:=by simp [zuL]
 rw [e2] at k1 k3
 generalize hν1:(fun i=>if i=h.length then some L0 else ν i)=ν1 at k1 k2 k3
 have hν:ν1 h.length=some L0:=by rw [←hν1];simp
 have p1:Pst w M ν h W1 M ν1 (h++[.lp .rdy]):=⟨k1,fun _ hb=>hb,fun _ hb=>.inl hb,k2,⟨by rw [hW1];rfl,by rw [hW1];rfl,by rw [hW1];rfl,by omega,fun k hk _=>hold k hk⟩,k3⟩
 have hbL:L0.b=w.heap.size+1:=by rw [hL0];rfl
 have htL:L0.tot=0:=by rw [hL0];rfl
 have hY:=zAU (P:=P) (g:=g) (fr:=fr) (w:=w) (fn:=fn) (y:=h.length) hf.n hpn ha hb
 rw [←hL0] at hY
 have hi1:Inv (g.at (yxL g.yl h.length L0 fr a.tmps)) W1 M ν1:=by
  have:=hi.step (p1.same hh) p1.hM p1.le
  exact ⟨this.1,this.2.1,⟨L0,hν,fun _=>rfl⟩,hf.fr.mono (p1.same hh) p1.hM p1.le,this.2.2⟩
 obtain ⟨hfn,hc⟩:=hcr.it _ _ hY gf (.mp h.length::cap) (h++[.lp .rdy]) (.ret v) h2 eit (#[.func (.yield (w.heap.size+1)) #[] #[]]++us) W1 M ν1 (by simp;omega) (fun i hi=>by
  cases i with
  | zero=>
   have e:(#[Value.func (.yield (w.heap.size+1)) #[] #[]]++us).getD 0 undef=.func (.yield (w.heap.size+1)) #[] #[]:=by
    simp only [Array.getD_eq_getD_getElem?]
    rw [Array.getElem?_append_left (by simp)]
    simp
   rw [e]
   exact .mp (L:=L0) hν rfl fun _=>by simp [Lc.ref,hL0,lcL]
  | succ i=>
   have:=(kr i (by simpa using hi)).step hh p1
   have e:(#[Value.func (.yield (w.heap.size+1)) #[] #[]]++us).getD (i+1) undef=us.getD i undef:=by
    simp only [Array.getD_eq_getD_getElem?]
    rw [Array.getElem?_append_right (by simp)]
    simp
   rw [e]
   exact this) k1 hi1
 refine ⟨w.heap.size+1,[coll w.heap.size],W1,{ target:=.fn (.func gf) us,args:=#[.func (.yield (w.heap.size+1)) #[] #[]] },W1,gf,
  #[.func (.yield (w.heap.size+1)) #[] #[]]++us,W1,?_,?_,?_,?_,fun hd=>(by cases hd),?_⟩
 ·rw [hW1];exact run_enterLoop_outer _ _ _ _ _
 ·simp only [resolve,hu]
  simp [go_sem]
 ·intro _ _;trivial
 ·have:=zft (us:=#[.func (.yield (w.heap.size+1)) #[] #[]]++us) (w:=W1) hfn
  simp only [invoke]
  exact this
 ·refine (zCW (ρ:=none) hc).mono fun e W2 ⟨M2,ν2,ho,p⟩=>?_
  obtain ⟨u2,rfl,_⟩:=ho
  have key:∀ s,s≠.bsy→h2[h.length]? = some (.lp s)→∃ W3,(Instr.endLoop (w.heap.size+1)).run P W2=.ok s.pe W3∧Pst w M ν h W3 M2 ν2 (h2.set h.length .dead)∧ziU W3 M2 ν2 n fr { a with defers:=[coll w.heap.size]++a.defers }∧Dfr w W3 M2 ν2 (h2.set h.length .dead) a { a with defers:=[coll w.heap.size]++a.defers }:=by
   intro s hs hy
   obtain ⟨hL2,hLp2⟩:=zCh p.hr hy (zBL ⟨_,hν,fun _=>rfl⟩ p.le)
   have hm2:=hLp2.mine
   have hblk2:=hLp2.blk
   rw [hbL] at hblk2
   have hrun:=run_endLoop (P:=P) hblk2 (by cases s<;>simp [Lp.st] at hs ⊢)
   have p3:=zAC p.hr hy hL2 .dead (.loop { { L0.lp with state:=s.st,pending:=s.pe } with state:=.exhausted }) trivial
   rw [hbL] at p3
   have pt:=(p1.trans p).trans p3
   refine ⟨_,hrun,pt,⟨(hf.step hh pt).fr,hf.n⟩,?_⟩
   have d1:Dfr w W1 M ν1 (h++[.lp .rdy]) a { a with defers:=[coll w.heap.size]++a.defers }:=⟨[w.heap.size],rfl,fun D hD=>by
    simp only [List.mem_singleton] at hD
    subst hD
    refine ⟨Nat.le_refl _,hD1,?_,fun hb=>Nat.lt_irrefl _ (hh.lt _ hb)⟩
    rintro ⟨i,hi,hl,L,e1,e2⟩
    rcases Nat.lt_or_ge i h.length with hlt|hge
    ·rw [List.getElem_append_left hlt] at hl
     rw [←hν1] at e1
     simp only [if_neg (Nat.ne_of_lt hlt)] at e1
     have:=(Mine.lt hh ⟨i,hlt,hl,L,e1,rfl⟩).1
     omega
    ·have:i=h.length:=by simp at hi;omega
     subst this
     rw [hν] at e1
     cases e1
     omega,by simp⟩
   exact (d1.mono p).mono p3
  split at he<;>try contradiction
  ·rename_i hy
   cases he
   obtain ⟨W3,g1,g2,g3,g4⟩:=key .rdy (by simp) hy
   exact ⟨_,W3,g1,hQ _ _ _ _ _ rfl g3 g2 g4⟩
  ·rename_i j hy
   cases he
   obtain ⟨W3,g1,g2,g3,g4⟩:=key (.fin j) (by simp) hy
   refine ⟨_,W3,g1,?_⟩
   cases j with
   | ret=>exact wpIn_ret (hQ _ _ _ _ _ rfl g3 g2 g4)
   | ext id=>exact wpIn_exit (hQ _ _ _ _ _ rfl g3 g2 g4)
   | gto l=>exact wpIn_goto (hQ _ _ _ _ _ rfl g3 g2 g4)
variable {P:Program} {g:GW}
theorem znQ {rec:IR→Fr→List Ob→Option Rs} {cr:zaw} (hcr:CRok P g cr) {n m:Nat} (hrec:∀ ρ,zx6 ρ P g n rec m):∀ {ir:IR} {c:Code} (ρ:Option Nat),okR ρ ir→mC P n c ir=true→Snd P g n (evS rec cr ir) (fun Q a w=>c.wpIn (FW ρ) 0 P Q a w):=by
 intro ir
 induction ir with
 | skip=>
  intro c ρ ho hm fr h x fr' h' he a w M ν hf hh hi Q hQ
  simp only [evS] at he
  cases he
  have:=hQ .normal a w M ν rfl hf (.refl hh) (.of_eq rfl)
  cases c<;>simp only [mC,Bool.false_eq_true] at hm
  exact wpIn_skip this
 | rg l k=>
  intro c ρ ho hm fr h x fr' h' he a w M ν hf hh hi Q hQ
  cases c<;>simp only [mC,Bool.false_eq_true,Bool.and_eq_true,Bool.not_eq_true'] at hm
  rename_i id ops d
  obtain ⟨rfl,hm⟩:=hm
  refine wpIn_region_list ?_
  simp only [evS] at he
  unfold ziR at he
  split at he
  ·rename_i fr1 h1 e1
   cases he
   exact zcw hcr hm _ _ _ _ _ e1 a w M ν hf hh hi Q fun e a' w' M' ν' hx hf' p hd=>hQ e a' w' M' ν' hx (hf'.keep k) p (.of_eq hd)
  ·exact zcw hcr hm _ _ _ _ _ he a w M ν hf hh hi Q fun e a' w' M' ν' hx hf' p hd=>hQ e a' w' M' ν' hx hf' p (.of_eq hd)
 | dr l k=>
  intro c ρ ho hm fr h x fr' h' he a w M ν hf hh hi Q hQ
  cases c<;>simp only [mC,Bool.false_eq_true,Bool.and_eq_true] at hm
  rename_i id ops d
  obtain ⟨rfl,hm⟩:=hm
  simp only [evS] at he
  unfold ziR at he
  split at he
  ·rename_i fr1 h1 e1
   cases he
   exact zn2 hcr hm _ _ _ _ _ e1 a w M ν hf hh hi Q fun e a' w' M' ν' hx hf' p hd=>hQ e a' w' M' ν' hx (hf'.keep k) p (.of_eq hd)
  ·exact zn2 hcr hm _ _ _ _ _ he a w M ν hf hh hi Q fun e a' w' M' ν' hx hf' p hd=>hQ e a' w' M' ν' hx hf' p (.of_eq hd)
 | dc l k=>
  intro c ρ ho hm fr h x fr' h' he a w M ν hf hh hi Q hQ
  cases c<;>simp only [mC,Bool.false_eq_true,Bool.and_eq_true] at hm
  rename_i id ops d
  obtain ⟨rfl,hm⟩:=hm
  simp only [evS] at he
  unfold ziR at he
  split at he
  ·rename_i fr1 h1 e1
   cases he
   exact zvP hcr hm.1 hm.2 e1 hf hh hi fun e a' w' M' ν' hx hf' p hd=>hQ e a' w' M' ν' hx (hf'.keep k) p (.of_eq hd)
  ·exact zvP hcr hm.1 hm.2 he hf hh hi fun e a' w' M' ν' hx hf' p hd=>hQ e a' w' M' ν' hx hf' p (.of_eq hd)
 | df l t z sz y ast k=>
  intro c ρ ho hm fr h x fr' h' he a w M ν hf hh hi Q hQ
  cases c<;>simp only [mC,Bool.false_eq_true,Bool.and_eq_true] at hm
  rename_i id ops d
  obtain ⟨rfl,⟨⟨hm1,hm2⟩,hm3⟩,hm4⟩:=hm
  simp only [evS] at he
  unfold ziR at he
  split at he
  ·rename_i fr1 h1 e1
   cases he
   exact zvh hcr hm1 hm2 hm3 hm4 e1 hf hh hi fun e a' w' M' ν' hx hf' p hd=>hQ e a' w' M' ν' hx (hf'.keep k) p (.of_eq hd)
  ·exact zvh hcr hm1 hm2 hm3 hm4 he hf hh hi fun e a' w' M' ν' hx hf' p hd=>hQ e a' w' M' ν' hx hf' p (.of_eq hd)
 | dq l k=>
  intro c ρ ho hm fr h x fr' h' he a w M ν hf hh hi Q hQ
  cases c<;>simp only [mC,Bool.false_eq_true] at hm
  rename_i id ops d
  simp only [evS] at he
  cases d with
  | true=>
   simp only [if_true,Bool.and_eq_true] at hm
   obtain ⟨hm,hqq⟩:=hm
   rw [←zm0 l false [] fr h hqq (by simp)] at he
   unfold ziR at he
   split at he
   ·rename_i fr1 h1 e1
    cases he
    exact zn2 hcr hm _ _ _ _ _ e1 a w M ν hf hh hi Q fun e a' w' M' ν' hx hf' p hd=>hQ e a' w' M' ν' hx (hf'.keep k) p (.of_eq hd)
   ·exact zn2 hcr hm _ _ _ _ _ he a w M ν hf hh hi Q fun e a' w' M' ν' hx hf' p hd=>hQ e a' w' M' ν' hx hf' p (.of_eq hd)
  | false=>
   simp only [Bool.false_eq_true,if_false] at hm
   rw [zxq] at he
   refine wpIn_region_list ?_
   unfold ziR at he
   split at he
   ·rename_i fr1 h1 e1
    cases he
    exact zcw (zxW hcr) hm _ _ _ _ _ e1 a w M ν hf hh hi Q fun e a' w' M' ν' hx hf' p hd=>hQ e a' w' M' ν' hx (hf'.keep k) p (.of_eq hd)
   ·exact zcw (zxW hcr) hm _ _ _ _ _ he a w M ν hf hh hi Q fun e a' w' M' ν' hx hf' p hd=>hQ e a' w' M' ν' hx hf' p (.of_eq hd)
 | seq p q ih1 ih2=>
  intro c ρ ho hm fr h x fr' h' he a w M ν hf hh hi Q hQ
  cases c<;>simp only [mC,Bool.false_eq_true,Bool.and_eq_true] at hm
  refine wpIn_seq ?_
  simp only [evS] at he
  split at he
  ·rename_i fr1 h1 e1
   refine ih1 ρ (ho.l rfl).1 hm.1 _ _ _ _ _ e1 a w M ν hf hh hi _ fun e a1 w1 M1 ν1 hx hf1 p hd=>?_
   cases hx
   refine ih2 ρ (ho.l rfl).2 hm.2 _ _ _ _ _ he a1 w1 M1 ν1 hf1 p.hr (hi.step (p.same hh) p.hM p.le) Q fun e a' w' M' ν' hx hf' p' hd'=>?_
   exact hQ e a' w' M' ν' hx hf' (p.trans p') (hd.trans p.stp.size p' hd')
  ·rename_i hne
   refine ih1 ρ (ho.l rfl).1 hm.1 _ _ _ _ _ he a w M ν hf hh hi _ fun e a1 w1 M1 ν1 hx hf1 p hd=>?_
   have hq:=hQ e a1 w1 M1 ν1 hx hf1 p hd
   cases x with
   | nrm=>exact absurd he (hne _ _)
   | ext id=>cases hx;exact hq
   | ret=>cases hx;exact hq
   | pan v=>obtain ⟨u,rfl,_⟩:=hx;exact hq
   | gto l=>cases hx;exact hq
 | cond y p q ih1 ih2=>
  intro c ρ ho hm fr h x fr' h' he a w M ν hf hh hi Q hQ
  cases c<;>simp only [mC,Bool.false_eq_true,Bool.and_eq_true] at hm
  obtain ⟨⟨hy,hm1⟩,hm2⟩:=hm
  have hy:=zaM hf.fr hy
  simp only [evS] at he
  split at he<;>try contradiction
  ·rename_i ey
   rw [ey] at hy
   exact wpIn_cond_true hy.bool_inv (ih1 ρ (ho.l rfl).1 hm1 _ _ _ _ _ he a w M ν hf hh hi Q hQ)
  ·rename_i ey
   rw [ey] at hy
   exact wpIn_cond_false hy.bool_inv (ih2 ρ (ho.l rfl).2 hm2 _ _ _ _ _ he a w M ν hf hh hi Q hQ)
 | blk id p ih=>
  intro c ρ ho hm fr h x fr' h' he a w M ν hf hh hi Q hQ
  cases c<;>simp only [mC,Bool.false_eq_true,Bool.and_eq_true,beq_iff_eq] at hm
  obtain ⟨rfl,hm⟩:=hm
  refine wpIn_block ?_
  simp only [evS] at he
  split at he
  ·rename_i i fr1 h1 e1
   refine ih ρ ho hm _ _ _ _ _ e1 a w M ν hf hh hi _ fun e a1 w1 M1 ν1 hx hf1 p hd=>?_
   cases hx
   simp only [Exit.inBlock]
   split at he
   ·rename_i ei
    cases he
    rw [if_pos ei]
    exact hQ _ a1 w1 M1 ν1 rfl hf1 p hd
   ·rename_i ei
    cases he
    rw [if_neg ei]
    exact hQ _ a1 w1 M1 ν1 rfl hf1 p hd
  ·rename_i hne
   refine ih ρ ho hm _ _ _ _ _ he a w M ν hf hh hi _ fun e a1 w1 M1 ν1 hx hf1 p hd=>?_
   have hq:=hQ e a1 w1 M1 ν1 hx hf1 p hd
   cases x with
   | nrm=>cases hx;exact hq
   | ext id=>exact absurd he (hne _ _ _)
   | ret=>cases hx;exact hq
   | pan v=>obtain ⟨u,rfl,_⟩:=hx;exact hq
   | gto l=>cases hx;exact hq
 | loop p ih=>
  intro c ρ ho hm fr h x fr' h' he a w M ν hf hh hi Q hQ
  cases c<;>simp only [mC,Bool.false_eq_true] at hm
  exact wpIn_loop_rounds (m+1) (ztJ (hrec ρ) (show okR ρ p from ho) hm (ih ρ ho hm) _ _ _ _ _ he a w M ν hf hh hi Q hQ)
 | sc p ih=>
  intro c ρ ho hm fr h x fr' h' he a w M ν hf hh hi Q hQ
  cases c<;>simp only [mC,Bool.false_eq_true,Bool.and_eq_true] at hm
  refine zxG 1 ?_
  unfold zve
  simp only [evS] at he
  refine ih ρ ho hm.2 _ _ _ _ _ he a w M ν hf hh hi _ fun e a1 w1 M1 ν1 hx hf1 p hd=>?_
  have hq:=hQ e a1 w1 M1 ν1 hx hf1 p hd
  cases x with
  | nrm=>cases hx;exact hq
  | ext id=>cases hx;exact hq
  | ret=>cases hx;exact hq
  | pan v=>obtain ⟨u,rfl,_⟩:=hx;exact hq
  | gto l=>
   cases hx
   simp only [zqN l hm.1]
   exact hq
 | lab l=>
  intro c ρ ho hm fr h x fr' h' he a w M ν hf hh hi Q hQ
  cases c<;>simp only [mC,Bool.false_eq_true] at hm
  simp only [evS] at he
  cases he
  exact wpIn_label (hQ .normal a w M ν rfl hf (.refl hh) (.of_eq rfl))
 | gto l=>
  intro c ρ ho hm fr h x fr' h' he a w M ν hf hh hi Q hQ
  cases c<;>simp only [mC,Bool.false_eq_true,beq_iff_eq] at hm
  subst hm
  simp only [evS] at he
  cases he
  exact wpIn_goto (hQ _ a w M ν rfl hf (.refl hh) (.of_eq rfl))
 | scg p ih=>
  intro c ρ ho hm fr h x fr' h' he a w M ν hf hh hi Q hQ
  cases c<;>simp only [mC,Bool.false_eq_true] at hm
  rename_i c
  refine zxG (m+1) ?_
  simp only [evS] at he
  exact zr4 (hrec ρ) (show okR ρ p from ho) hm hm (ih ρ ho hm) _ _ _ _ _ he a w M ν hf hh hi Q hQ
 | scr p q _ _=>
  intro c ρ ho hm
  cases c<;>simp [mC] at hm
 | rf f ps p q ih1 ih2=>
  intro c ρ ho hm
  cases c<;>simp only [mC,Bool.false_eq_true,Bool.and_eq_true,List.all_eq_true,decide_eq_true_eq,beq_iff_eq] at hm
  obtain ⟨⟨⟨⟨⟨⟨h1,h2⟩,h3⟩,h4⟩,h5⟩,h6⟩,h7⟩:=hm
  rcases ho with rfl|ho
  ·exact zCq hcr h1 h2 h3 (fun l=>ih1 (some l) (.inr h4) h6) (fun l=>ih2 (some l) (.inr h5) h7)
  ·cases ho
 | ext id=>
  intro c ρ ho hm fr h x fr' h' he a w M ν hf hh hi Q hQ
  cases c<;>simp only [mC,Bool.false_eq_true,beq_iff_eq] at hm
  subst hm
  simp only [evS] at he
  cases he
  exact wpIn_exit (hQ _ a w M ν rfl hf (.refl hh) (.of_eq rfl))
 | ret=>
  intro c ρ ho hm fr h x fr' h' he a w M ν hf hh hi Q hQ
  cases c<;>simp only [mC,Bool.false_eq_true] at hm
  simp only [evS] at he
  cases he
  exact wpIn_ret (hQ _ a w M ν rfl hf (.refl hh) (.of_eq rfl))
variable {P:Program} {g:GW}
def zCy (P:Program):List ResultVar→List (Nat×Option (Bool×Nat))→Bool
 | [],[]=>true
 | x::r,y::s=>(match x,y with
  | .tmp t,(t',none)=>t==t'
  | .cell t ty,(t',some (ag,sz))=>t==t'&&zsc P ty==some ag&&zrr P ty sz
  | _,_=>false)&&zCy P r s
 | _,_=>false
def mF (P:Program) (f:Nat) (F:F):Bool:=
 match P.funcs[f]? with
 | some fn=>match fn.body with
  | some c=>mC P fn.ntmps c F.body&&zCy P fn.results.toList F.res&&!(fn.name == "runtime.NumGoroutine")
  | none=>false
 | none=>false
theorem zCu {w:World} {M:Nat→Prop} {ν:Nu} {h:List Ob} {fr:Fr} (hh:HR w M ν h) {t:TypeId} {ag:Bool} {sz:Nat} {x:O} {u:Value} (h1:zsc P t=some ag) (h2:zrr P t sz=true) (hx:Rel w M ν (x.ev fr) u) {v:V} {wv} (he:op1 0 fr h (.ld ag sz x)=some (v,wv)) :
  ∃ ad u',u=.pointer (some ad)∧(loadVar t ad).run P w=.ok u' w∧Rel w M ν v u':=by
 obtain ⟨i,hi,hs⟩:=zgq h2
 simp only [op1] at he
 split at he<;>try contradiction
 ·rename_i y k ex
  rw [ex] at hx
  simp only [Option.map_eq_some_iff,Prod.mk.injEq] at he
  obtain ⟨v',hp,rfl,rfl⟩:=he
  cases hx with
  | pin hM hr g hm=>
   obtain ⟨u',r1,r2⟩:=zn7 (P:=P) (hr.mono (fun _ _=>rfl) (fun _ hb=>hb) (zqc ν)) g.1 g.2 hm (zfE h1) hi hs hp
   exact ⟨_,u',rfl,r1,r2⟩
 ·rename_i id ix k tot ex
  rw [ex] at hx
  split at he<;>try contradiction
  rename_i z xs hr
  split at he<;>try contradiction
  rename_i y hy
  simp only [Option.map_eq_some_iff,Prod.mk.injEq] at he
  obtain ⟨v',hp,rfl,rfl⟩:=he
  obtain ⟨L,hL,ht,hrow,hlen,hd,hv0,hlt,rfl⟩:=hx.ptr_inv hh hr
  obtain ⟨hix,rfl⟩:=List.getElem?_eq_some_iff.1 hy
  obtain ⟨g1,g2,uy,g3,g4,g5⟩:=hrow.el ix hix hv0
  obtain ⟨u',r1,r2⟩:=zn7 (P:=P) (b:=L.b) (q:=(ix-L.d)*L.sz) g3 g1 g2 (fun j hj=>g5 j (by omega)) (zfE h1) hi hs hp
  exact ⟨_,u',rfl,r1,r2⟩
theorem zyj {w:World} {M:Nat→Prop} {ν:Nu} {h:List Ob} {n:Nat} {fr:Fr} {a:Act} (hh:HR w M ν h) (hf:ziU w M ν n fr a) (q:ResultVar→Sem Value) (hq:∀ t,q (.tmp t)=pure (a.tmps.getD t undef)) (hq':∀ t ty,q (.cell t ty)=(do loadVar ty (←asAddr (a.tmps.getD t undef)))) :
  ∀ {xs:List ResultVar} {ys:List (Nat×Option (Bool×Nat))} {vs:List V},zCy P xs ys=true→zdP (res1 fr h) ys=some vs →
  ∃ us:List Value,(xs.mapM q).run P w=.ok us w∧us.length=vs.length∧∀ i (hi:i<vs.length),Rel w M ν vs[i] (us.getD i undef)
 | [],[],vs,_,he=>by
  simp only [zdP] at he
  cases he
  exact ⟨[],by simp,rfl,fun i hi=>by simp at hi⟩
 | [],_::_,_,hm,_=>by simp [zCy] at hm
 | _::_,[],_,hm,_=>by simp [zCy] at hm
 | x::xs,y::ys,vs,hm,he=>by
  simp only [zCy,Bool.and_eq_true] at hm
  obtain ⟨hm,hms⟩:=hm
  unfold zdP at he
  split at he<;>try contradiction
  rename_i v hv
  split at he<;>try contradiction
  rename_i vs' hvs
  cases he
  obtain ⟨us,r1,r2,r3⟩:=zyj hh hf q hq hq' hms hvs
  have key:∃ u,(q x).run P w=.ok u w∧Rel w M ν v u:=by
   split at hm<;>try contradiction
   ·rename_i t t'
    have:=beq_iff_eq.1 hm
    subst this
    simp only [res1] at hv
    cases hv
    exact ⟨_,by rw [hq];rfl,hf.fr t⟩
   ·rename_i t ty t' ag sz
    simp only [Bool.and_eq_true,beq_iff_eq] at hm
    obtain ⟨⟨rfl,h1⟩,h2⟩:=hm
    simp only [res1] at hv
    split at hv<;>try contradiction
    rename_i v' wv he
    cases hv
    obtain ⟨ad,u',hu,r1,r2⟩:=zCu (P:=P) (x:=.t t) (u:=a.tmps.getD t undef) hh h1 h2 (hf.fr t) he
    exact ⟨u',by rw [hq',hu];simp [asAddr,r1],r2⟩
  obtain ⟨u,k1,k2⟩:=key
  refine ⟨u::us,by simp [List.mapM_cons,k1,r1],by simp [r2],fun i hi=>?_⟩
  cases i with
  | zero=>simpa using k2
  | succ i=>simpa using r3 i (by simpa using hi)
def resQ (tmps:Array Value) (x:ResultVar):Sem Value:=
 match x with
 | .tmp t=>pure (tmps.getD t undef)
 | .cell t ty=>do loadVar ty (←asAddr (tmps.getD t undef))
theorem zy6 (fn:Func) (tmps:Array Value):results fn tmps=(do
  let vs ←fn.results.mapM (resQ tmps)
  pure (if h:vs.size=1 then vs[0] else .tuple vs)):=by
 unfold results
 congr 2
theorem znY {w:World} {M:Nat→Prop} {ν:Nu} {h:List Ob} {n:Nat} {fr:Fr} {a:Act} (hh:HR w M ν h) (hf:ziU w M ν n fr a) {fn:Func} {ys:List (Nat×Option (Bool×Nat))} {vs:List V} (hm:zCy P fn.results.toList ys=true) (he:zdP (res1 fr h) ys=some vs) :
  ∃ u,(results fn a.tmps).run P w=.ok u w∧Rel w M ν (zzp vs) u:=by
 obtain ⟨us,r1,r2,r3⟩:=zyj (P:=P) hh hf (resQ a.tmps) (fun _=>rfl) (fun _ _=>rfl) hm he
 have hrun:(results fn a.tmps).run P w=.ok (if h:us.toArray.size=1 then us.toArray[0] else .tuple us.toArray) w:=by
  rw [zy6,Array.mapM_eq_mapM_toList]
  simp only [Sem.run_bind,Sem.run_map,r1,Result.andThen_ok,Sem.run_pure]
 by_cases h1:∃ v,vs=[v]
 ·obtain ⟨v,rfl⟩:=h1
  obtain ⟨u,rfl⟩:∃ u,us=[u]:=by
   cases us with
   | nil=>simp at r2
   | cons u r=>
    cases r with
    | nil=>exact ⟨u,rfl⟩
    | cons=>simp at r2
  refine ⟨u,by rw [hrun];simp,?_⟩
  have:=r3 0 (by simp)
  simpa [zzp] using this
 ·refine ⟨.tuple us.toArray,?_,?_⟩
  ·rw [hrun,dif_neg]
   intro h
   apply h1
   have:vs.length=1:=by rw [←r2];simpa using h
   exact List.length_eq_one_iff.1 this
  ·have:zzp vs=.tup vs:=by
    unfold zzp
    split
    ·exact absurd ⟨_,rfl⟩ h1
    ·rfl
   rw [this]
   exact .tup (by simpa using r2) fun i hi=>by simpa using r3 i hi
theorem zuX:∀ (args:List V) (k t:Nat),get ((args.zipIdx k).map fun p=>(p.2,p.1)) t=if k≤t∧t<k+args.length then args.getD (t-k) .und else .und
 | [],k,t=>by simp [get]
 | x::r,k,t=>by
  simp only [List.zipIdx_cons,List.map_cons,get,List.length_cons]
  by_cases e:k=t
  ·subst e
   simp
  ·rw [if_neg e,zuX r (k+1) t]
   by_cases h1:k+1≤t∧t<k+1+r.length
   ·rw [if_pos h1,if_pos (by omega),show t-k=(t-(k+1))+1 by omega]
    simp
   ·rw [if_neg h1,if_neg (by omega)]
theorem HR.out {w w':World} {M:Nat→Prop} {ν:Nu} {h:List Ob} (hh:HR w M ν h) {D:Nat} (hw:∀ b,b≠D→w'.heap[b]? = w.heap[b]?) (hsz:w'.heap.size=w.heap.size) (h1:¬Mine ν h D) (h2:¬M D):HR w' M ν h:=by
 refine ⟨fun i hi hl=>?_,hh.apart,hh.new,fun b hb=>by rw [hsz];exact hh.lt b hb⟩
 obtain ⟨L,k1,k2⟩:=hh.ob i hi hl
 exact ⟨L,k1,HOb.mono (fun b hb=>hw b fun e=>h2 (e▸hb)) (fun _ hb=>hb) (Nu.le_refl _) (fun hl=>⟨hw _ fun e=>h1 ⟨i,hi,hl,L,k1,e⟩,k2.mine hl⟩) k2⟩
theorem zfg {F:Fence} {k:Nat} {fn:Func} {tmps:Array Value} {R:Ending→World→Prop} {u:FrameMode} {w0:World} {M0:Nat→Prop} {ν0:Nu} {h0:List Ob} {M:Nat→Prop} {ν:Nu} {h:List Ob}:∀ (Ds:List Nat) {w:World},u≠.run→Pst w0 M0 ν0 h0 w M ν h→(∀ D∈Ds,w0.heap.size≤D∧w.heap[D]? = some (.deferred (some []))∧¬Mine ν h D∧¬M D)→Ds.Nodup →
  (∀ w',Pst w0 M0 ν0 h0 w' M ν h→(∀ b,M b→w'.heap[b]? = w.heap[b]?)→LeavesInM F k P fn tmps R [] u w')→LeavesInM F k P fn tmps R (Ds.map coll) u w
 | [],w,hu,p,_,_,hK=>hK w p fun _ _=>rfl
 | D::Ds,w,hu,p,hD,hnd,hK=>by
  obtain ⟨g1,g2,g3,g4⟩:=hD D (by simp)
  have hw:∀ b,b≠D→(w.putObj D (.deferred none)).heap[b]? = w.heap[b]?:=fun b hb=>World.putObj_heap_other hb
  refine ⟨hu,.inl ⟨D,_,rfl,run_takeDeferred g2,?_⟩⟩
  have p':Pst w0 M0 ν0 h0 (w.putObj D (.deferred none)) M ν h:=⟨p.hr.out hw (by simp) g3 g4,p.hM,p.hM',p.le,⟨p.stp.os,p.stp.tape,p.stp.output,by simpa using p.stp.size,fun k hk hm=>by rw [hw k (by omega)];exact p.stp.block k hk hm⟩,p.mine⟩
  refine zfg Ds hu p' (fun E hE=>?_) (List.nodup_cons.1 hnd).2 fun w' q hM'=>hK w' q fun b hb=>by rw [hM' b hb,hw b fun e=>g4 (e▸hb)]
  obtain ⟨k1,k2,k3⟩:=hD E (by simp [hE])
  refine ⟨k1,by rw [hw E fun e=>(List.nodup_cons.1 hnd).1 (e▸hE)];exact k2,k3⟩
theorem ziW {evn:IR→Fr→List Ob→Option Rs} {f:Nat} {F:F} (hm:mF P f F=true) (hev:∀ c n,mC P n c F.body=true→Snd P g n (evn F.body) (fun Q a w=>c.wpIn (FW none) 0 P Q a w)) {args:List V} {h h':List Ob} {out:Out} (he:zpt evn F args h=some (out,h'))
  {us:Array Value} {w:World} {M:Nat→Prop} {ν:Nu} (hl:us.size=args.length) (hr:∀ i (hi:i<args.length),Rel w M ν args[i] (us.getD i undef)) (hh:HR w M ν h) (hi:Inv g w M ν) :
  zyg P f∧Calls P f us w fun e w'=>∃ M' ν',zE1 w' M' ν' out e∧Pst w M ν h w' M' ν' h':=by
 unfold mF at hm
 split at hm<;>try contradiction
 rename_i fn hfn
 split at hm<;>try contradiction
 rename_i c hc
 simp only [Bool.and_eq_true,Bool.not_eq_true'] at hm
 obtain ⟨⟨h1,h2⟩,h3⟩:=hm
 refine ⟨⟨fn,hfn,by simp [hc],h3⟩,(callsIn_wide (n:=0)).1 (callsIn_of_wp_marks hfn hc trivial ?_)⟩
 have hf:ziU w M ν fn.ntmps (args.zipIdx.map fun p=>(p.2,p.1)) { tmps:=us++Array.replicate (fn.ntmps-us.size) undef,defers:=[] }:=by
  refine ⟨fun t=>?_,by simp;omega⟩
  rw [zuX]
  simp only [Nat.zero_le,Nat.zero_add,true_and,Nat.sub_zero]
  by_cases ht:t<args.length
  ·rw [if_pos ht]
   have h2:t<us.size:=by omega
   have:=hr t ht
   simp only [Array.getD_eq_getD_getElem?] at this ⊢
   rw [Array.getElem?_append_left h2]
   simpa [ht] using this
  ·rw [if_neg ht]
   exact .und
 unfold zpt at he
 split at he<;>try contradiction
 ·rename_i fr1 h1' e1
  split at he<;>try contradiction
  rename_i vs hvs
  cases he
  refine hev c _ h1 _ _ _ _ _ e1 _ w M ν hf hh hi _ fun e a' w' M' ν' hx hf' p hd=>?_
  cases hx
  obtain ⟨Ds,d1,d2,d3⟩:=hd
  rw [List.append_nil] at d1
  show LeavesInM _ _ _ _ _ _ _ _ _
  rw [d1]
  refine zfg Ds (by simp) p d2 d3 fun w4 p4 hM4=>?_
  obtain ⟨u,r1,r2⟩:=znY (P:=P) p4.hr ⟨hf'.fr.mono hM4 (fun _ hb=>hb) (Nu.le_refl _),hf'.n⟩ h2 hvs
  exact ⟨u,r1,M',ν',⟨u,rfl,r2⟩,p4⟩
 ·rename_i fr1 h1' e1
  split at he<;>try contradiction
  rename_i vs hvs
  cases he
  refine hev c _ h1 _ _ _ _ _ e1 _ w M ν hf hh hi _ fun e a' w' M' ν' hx hf' p hd=>?_
  cases hx
  obtain ⟨Ds,d1,d2,d3⟩:=hd
  rw [List.append_nil] at d1
  show LeavesInM _ _ _ _ _ _ _ _ _
  rw [d1]
  refine zfg Ds (by simp) p d2 d3 fun w4 p4 hM4=>?_
  obtain ⟨u,r1,r2⟩:=znY (P:=P) p4.hr ⟨hf'.fr.mono hM4 (fun _ hb=>hb) (Nu.le_refl _),hf'.n⟩ h2 hvs
  exact ⟨u,r1,M',ν',⟨u,rfl,r2⟩,p4⟩
 ·rename_i v fr1 h1' e1
  cases he
  refine hev c _ h1 _ _ _ _ _ e1 _ w M ν hf hh hi _ fun e a' w' M' ν' hx hf' p hd=>?_
  obtain ⟨u,rfl,hu⟩:=hx
  obtain ⟨Ds,d1,d2,d3⟩:=hd
  rw [List.append_nil] at d1
  show LeavesInM _ _ _ _ _ _ _ _ _
  rw [d1]
  refine zfg Ds (by simp) p d2 d3 fun w4 p4 hM4=>?_
  exact ⟨M',ν',⟨u,rfl,hu.mono hM4 (fun _ hb=>hb) (Nu.le_refl _)⟩,p4⟩
theorem zrD {w:World} {M M1:Nat→Prop} {ν:Nu} {h:List Ob} (hh:HR w M ν h) (hM:∀ b,M b→M1 b) {args args':List V} (hd:dataL args=true∨∀ b,Mine ν h b→M1 b) {us:Array Value} (hr:∀ i (hi:i<args.length),Rel w M ν args[i] (us.getD i undef)) (he:zj4 h args=some args') :
  args'.length=args.length∧∀ i (hi:i<args'.length),Rel w M1 nu0 args'[i] (us.getD i undef):=by
 obtain ⟨k1,k2⟩:=zht he
 refine ⟨k1,fun i hi=>?_⟩
 have hi':=hi
 rw [k1] at hi'
 exact zeO hh hM _ (hd.imp (fun hd=>zgm hd i hi') id) (hr i hi') (k2 i hi' hi)
def SOK (P:Program) (g:GW) (S:Nat→List V→Option V):Prop:=∀ f args v,S f args=some v→∀ (us:Array Value) w M,us.size=args.length→(∀ i (hi:i<args.length),Rel w M nu0 args[i] (us.getD i undef))→(∀ b,M b→b<w.heap.size)→Inv g w M nu0 →
 zyg P f∧Calls P f us w fun e w'=>∃ u M',e=.returned u∧Rel w' M' nu0 v u∧(∀ b,M b→M' b)∧(∀ b,M' b→M b∨w.heap.size≤b)∧(∀ b,M' b→b<w'.heap.size)∧Stp w w' (fun _=>False)
theorem zdV.none:zdV P g (fun _ _ _=>.none):=fun _ _ _ _ _ he=>by cases he
theorem zsa {C:Cx} {evn:IR→Fr→List Ob→Option Rs} (hg:g.yl=.no) (hT:∀ f F,C.T f=some F→mF P f F=true) (hS:SOK P g C.S) (hH:zdV P g C.H) (hev:∀ f F,C.T f=some F→∀ c n,mC P n c F.body=true→Snd P g n (evn F.body) (fun Q a w=>c.wpIn (FW none) 0 P Q a w)):zdV P g (zm7 C evn):=by
 intro f args h out h' he us w M ν hl hr hh hi
 have hX:∀ w M ν,g.yl.X w M ν:=fun _ _ _=>by rw [hg];trivial
 have hi':∀ ν',Inv g w M ν':=fun ν'=>⟨hi.1,hi.2.1,hX _ _ _⟩
 unfold zm7 at he
 split at he
 ·rename_i F hF
  have hm:=hT f F hF
  split at he
  ·exact ziW hm (hev f F hF) he hl hr hh hi
  ·split at he<;>try contradiction
   rename_i as has
   by_cases hd:dataL args=true
   ·obtain ⟨k1,k2⟩:=zrD hh (M1:=M) (fun _ hb=>hb) (.inl hd) hr has
    have hh0:HR w M nu0 []:=HR.nil hh.lt
    split at he<;>try contradiction
    ·rename_i v h1 e1
     split at he<;>try contradiction
     rename_i v' hv'
     rw [if_pos (by simp [hd])] at he
     cases he
     obtain ⟨hfn,hc⟩:=ziW hm (hev f F hF) e1 (us:=us) (by rw [k1];exact hl) k2 hh0 (hi' _)
     refine ⟨hfn,hc.mono fun e w' ⟨M',ν',ho,p⟩=>?_⟩
     obtain ⟨u,rfl,hu⟩:=ho
     refine ⟨fun b=>M' b∨Mine ν' h1 b,ν,⟨u,rfl,?_⟩,Pst.quiet hh (fun b hb=>.inl (p.hM b hb)) (fun b hb=>?_) (fun b hb=>?_) ⟨p.stp.os,p.stp.tape,p.stp.output,p.stp.size,fun k hk _=>p.stp.block k hk Mine.nil⟩⟩
     ·exact (zeO p.hr (M1:=fun b=>M' b∨Mine ν' h1 b) (fun b hb=>.inl hb) _ (.inr fun b hb=>.inr hb) hu hv').mono (fun _ _=>rfl) (fun _ hb=>hb) (zqc ν)
     ·rcases hb with hb|hb
      ·exact (p.hM' b hb).imp _root_.id fun h1=>h1.elim (fun h1=>absurd h1 Mine.nil) _root_.id
      ·exact (p.mine b hb).imp (fun h=>absurd h Mine.nil) id
     ·rcases hb with hb|hb
      ·exact p.hr.lt b hb
      ·exact (hb.lt p.hr).1
    ·rename_i v h1 e1
     split at he<;>try contradiction
     rename_i v' hv'
     rw [if_pos (by simp [hd])] at he
     cases he
     obtain ⟨hfn,hc⟩:=ziW hm (hev f F hF) e1 (us:=us) (by rw [k1];exact hl) k2 hh0 (hi' _)
     refine ⟨hfn,hc.mono fun e w' ⟨M',ν',ho,p⟩=>?_⟩
     obtain ⟨u,rfl,hu⟩:=ho
     refine ⟨fun b=>M' b∨Mine ν' h1 b,ν,⟨u,rfl,?_⟩,Pst.quiet hh (fun b hb=>.inl (p.hM b hb)) (fun b hb=>?_) (fun b hb=>?_) ⟨p.stp.os,p.stp.tape,p.stp.output,p.stp.size,fun k hk _=>p.stp.block k hk Mine.nil⟩⟩
     ·exact (zeO p.hr (M1:=fun b=>M' b∨Mine ν' h1 b) (fun b hb=>.inl hb) _ (.inr fun b hb=>.inr hb) hu hv').mono (fun _ _=>rfl) (fun _ hb=>hb) (zqc ν)
     ·rcases hb with hb|hb
      ·exact (p.hM' b hb).imp _root_.id fun h1=>h1.elim (fun h1=>absurd h1 Mine.nil) _root_.id
      ·exact (p.mine b hb).imp (fun h=>absurd h Mine.nil) id
     ·rcases hb with hb|hb
      ·exact p.hr.lt b hb
      ·exact (hb.lt p.hr).1
   ·have hM1:∀ b,(M b∨Mine ν h b)→b<w.heap.size:=fun b hb=>hb.elim (hh.lt b) (fun hb=>(hb.lt hh).1)
    obtain ⟨k1,k2⟩:=zrD hh (M1:=fun b=>M b∨Mine ν h b) (fun _ hb=>.inl hb) (.inr fun _ hb=>.inr hb) hr has
    have hh0:HR w (fun b=>M b∨Mine ν h b) nu0 []:=HR.nil hM1
    have hi0:Inv g w (fun b=>M b∨Mine ν h b) nu0:=⟨hi.1,fun k hk=>.inl (hi.2.1 k hk),hX _ _ _⟩
    have hd':dataL args=false:=by simpa using hd
    split at he<;>try contradiction
    ·rename_i v h1 e1
     split at he<;>try contradiction
     rename_i v' hv'
     split at he<;>try contradiction
     rename_i hfl
     cases he
     simp only [hd',Bool.false_or] at hfl
     obtain ⟨hfn,hc⟩:=ziW hm (hev f F hF) e1 (us:=us) (by rw [k1];exact hl) k2 hh0 hi0
     refine ⟨hfn,hc.mono fun e w' ⟨M',ν',ho,p⟩=>?_⟩
     obtain ⟨u,rfl,hu⟩:=ho
     have hst:Stp w w' (fun _=>False):=⟨p.stp.os,p.stp.tape,p.stp.output,p.stp.size,fun k hk _=>p.stp.block k hk Mine.nil⟩
     exact ⟨M,ν,⟨u,rfl,(zeO p.hr (M1:=fun b=>M' b∨Mine ν' h1 b) (fun b hb=>.inl hb) _ (.inr fun b hb=>.inr hb) hu hv').flat hfl⟩,Pst.quiet hh (fun b hb=>hb) (fun b hb=>.inl hb) (fun b hb=>Nat.lt_of_lt_of_le (hh.lt b hb) p.stp.size) hst⟩
    ·rename_i v h1 e1
     split at he<;>try contradiction
     rename_i v' hv'
     split at he<;>try contradiction
     rename_i hfl
     cases he
     simp only [hd',Bool.false_or] at hfl
     obtain ⟨hfn,hc⟩:=ziW hm (hev f F hF) e1 (us:=us) (by rw [k1];exact hl) k2 hh0 hi0
     refine ⟨hfn,hc.mono fun e w' ⟨M',ν',ho,p⟩=>?_⟩
     obtain ⟨u,rfl,hu⟩:=ho
     have hst:Stp w w' (fun _=>False):=⟨p.stp.os,p.stp.tape,p.stp.output,p.stp.size,fun k hk _=>p.stp.block k hk Mine.nil⟩
     exact ⟨M,ν,⟨u,rfl,(zeO p.hr (M1:=fun b=>M' b∨Mine ν' h1 b) (fun b hb=>.inl hb) _ (.inr fun b hb=>.inr hb) hu hv').flat hfl⟩,Pst.quiet hh (fun b hb=>hb) (fun b hb=>.inl hb) (fun b hb=>Nat.lt_of_lt_of_le (hh.lt b hb) p.stp.size) hst⟩
 ·split at he
  ·rename_i r eH
   cases he
   exact hH _ _ _ _ _ eH us w M ν hl hr hh hi
  split at he<;>try contradiction
  rename_i as has
  split at he<;>try contradiction
  rename_i v hv
  split at he<;>try contradiction
  rename_i hfl
  cases he
  by_cases hd:dataL args=true
  ·obtain ⟨k1,k2⟩:=zrD hh (M1:=M) (fun _ hb=>hb) (.inl hd) hr has
   obtain ⟨hfn,hc⟩:=hS _ _ _ hv us w M (by rw [k1];exact hl) k2 hh.lt (hi' _)
   refine ⟨hfn,hc.mono fun e w' ⟨u,M',hu,hr',m1,m2,m3,hst⟩=>?_⟩
   exact ⟨M',ν,⟨u,hu,hr'.mono (fun _ _=>rfl) (fun _ hb=>hb) (zqc ν)⟩,Pst.quiet hh m1 m2 m3 hst⟩
  ·have hM1:∀ b,(M b∨Mine ν h b)→b<w.heap.size:=fun b hb=>hb.elim (hh.lt b) (fun hb=>(hb.lt hh).1)
   have hd':dataL args=false:=by simpa using hd
   simp only [hd',Bool.false_or] at hfl
   obtain ⟨k1,k2⟩:=zrD hh (M1:=fun b=>M b∨Mine ν h b) (fun _ hb=>.inl hb) (.inr fun _ hb=>.inr hb) hr has
   obtain ⟨hfn,hc⟩:=hS _ _ _ hv us w (fun b=>M b∨Mine ν h b) (by rw [k1];exact hl) k2 hM1 ⟨hi.1,fun k hk=>.inl (hi.2.1 k hk),hX _ _ _⟩
   refine ⟨hfn,hc.mono fun e w' ⟨u,M',hu,hr',m1,m2,m3,hst⟩=>?_⟩
   exact ⟨M,ν,⟨u,hu,hr'.flat hfl⟩,Pst.quiet hh (fun b hb=>hb) (fun b hb=>.inl hb) (fun b hb=>Nat.lt_of_lt_of_le (hh.lt b hb) hst.size) hst⟩
theorem zvS {C:Cx} {evn:IR→Fr→List Ob→Option Rs} (hT:∀ f F,C.T f=some F→mF P f F=true) (hev:∀ f F,C.T f=some F→∀ c n,mC P n c F.body=true→Snd P g n (evn F.body) (fun Q a w=>c.wpIn (FW none) 0 P Q a w)):zdV P g (itW C evn):=by
 intro f args h out h' he us w M ν hl hr hh hi
 unfold itW at he
 split at he<;>try contradiction
 rename_i F hF
 exact ziW (hT f F hF) (hev f F hF) he hl hr hh hi
theorem zrI {C:Cx} (hg:g.yl=.no) (hT:∀ f F,C.T f=some F→mF P f F=true) (hS:SOK P g C.S) (hH:zdV P g C.H):∀ m,(∀ Y e,YOK P (g.at e) Y→(∀ ρ n,zx6 ρ P (g.at e) n (ev C m Y) m)∧CRok P (g.at e) (crN C Y m))
 | 0=>fun Y e hY=>by
  have h0:∀ Y,ev C 0 Y=fun _ _ _=>none:=fun _=>rfl
  have hg0:(g.at .no)=g:=by cases g;simp only [GW.at] at *;rw [hg]
  refine ⟨fun ρ n=>⟨fun b c _ _ fr h x fr' h' he=>by simp [ev] at he,fun b c b' c' _ _ _ _ fr h x fr' h' he=>by simp [ev] at he⟩,⟨?_,hY,fun Y' e' hY'=>zvS hT fun f F _ c n _ fr h x fr' h' he=>by simp [ev] at he⟩⟩
  show zdV P (g.at .no) _
  rw [hg0]
  exact zsa hg hT hS hH fun f F _ c n _ fr h x fr' h' he=>by simp [ev] at he
 | m+1=>fun Y e hY=>by
  have hg0:(g.at .no)=g:=by cases g;simp only [GW.at] at *;rw [hg]
  have ih:=zrI hg hT hS hH m
  obtain ⟨h1,h2⟩:=ih Y e hY
  refine ⟨fun ρ n=>⟨fun b c ho hm=>?_,fun b c b' c' ho ho' hm hm'=>?_⟩,⟨?_,hY,fun Y' e' hY'=>zvS hT fun f F _ c n hm=>?_⟩⟩
  ·exact ztJ (h1 ρ n) ho hm (znQ h2 (fun ρ=>h1 ρ n) ρ ho hm)
  ·exact zr4 (h1 ρ n) ho hm hm' (znQ h2 (fun ρ=>h1 ρ n) ρ ho' hm')
  ·show zdV P (g.at .no) _
   obtain ⟨k1,k2⟩:=ih y0 .no (YOK.y0 _ _)
   rw [hg0] at k1 k2 ⊢
   exact zsa hg hT hS hH fun f F _ c n hm=>znQ k2 (fun ρ=>k1 ρ n) none (.inl rfl) hm
  ·obtain ⟨k1,k2⟩:=ih Y' e' hY'
   exact znQ k2 (fun ρ=>k1 ρ n) none (.inl rfl) hm
theorem zsP {C:Cx} (hg:g.yl=.no) (hT:∀ f F,C.T f=some F→mF P f F=true) (hS:SOK P g C.S) (hH:zdV P g C.H) (m:Nat):zdV P g (acall C m):=by
 have:=(zrI hg hT hS hH m y0 .no (YOK.y0 _ _)).2.c
 have hg0:((g.at .no).at .no)=g:=by cases g;simp only [GW.at] at *;rw [hg]
 rw [hg0] at this
 exact this
variable {P:Program} {g:GW}
theorem zzz {C:Cx} (hT:∀ f F,C.T f=some F→mF P f F=true) (hS:SOK P g C.S) (hH:zdV P g C.H) {m f:Nat} {args:List V} {v:V} {h':List Ob} (he:acall C m f args []=some (.ret v,h')) {us:Array Value} {w:World} (hsz:us.size=args.length)
  (hr:∀ i (hi:i<args.length),Rel w (fun b=>b<w.heap.size) nu0 args[i] (us.getD i undef)) (hg:g.G w) (hB:g.B≤w.heap.size) (hy:g.yl=.no:=by rfl) :
  Calls P f us w fun e w'=>(∃ u M' ν',e=.returned u∧Rel w' M' ν' v u)∧Below w.heap.size w w':=by
 obtain ⟨_,hc⟩:=zsP (g:=g) hy hT hS hH m f args [] _ _ he us w (fun b=>b<w.heap.size) nu0 hsz hr (HR.nil fun _ hb=>hb) ⟨hg,fun k hk=>Nat.lt_of_lt_of_le hk hB,by rw [hy];trivial⟩
 refine hc.mono fun e w' ⟨M',ν',ho,p⟩=>?_
 obtain ⟨u,rfl,hu⟩:=ho
 exact ⟨⟨u,M',ν',rfl,hu⟩,p.stp.os,p.stp.tape,p.stp.output,p.stp.size,fun k hk=>p.stp.block k hk Mine.nil⟩
theorem law_true {C:Cx} (hT:∀ f F,C.T f=some F→mF P f F=true) (hS:SOK P g C.S) (hH:zdV P g C.H) {m f:Nat} {args:List V} {h':List Ob} (he:acall C m f args []=some (.ret (.bool true),h')) {us:Array Value} {w:World} (hsz:us.size=args.length)
  (hr:∀ i (hi:i<args.length),Rel w (fun b=>b<w.heap.size) nu0 args[i] (us.getD i undef)) (hg:g.G w) (hB:g.B≤w.heap.size) (hy:g.yl=.no:=by rfl) :
  Calls P f us w fun e w'=>e=.returned (.bool true)∧Below w.heap.size w w':=by
 refine (zzz hT hS hH he hsz hr hg hB hy).mono fun e w' ⟨⟨u,M',ν',he,hu⟩,hb⟩=>?_
 rw [he,hu.bool_inv]
 exact ⟨rfl,hb⟩
theorem zDB (a:ByteArray) (w:World) (M:Nat→Prop) (ν:Nu):Rel w M ν (.str a.data.toList) (.string a):=by
 have:=Rel.str (w:=w) (M:=M) (ν:=ν) (s:=a.data.toList)
 exact this
theorem zx2 {f:Nat} {us:Array Value} {w:World} {M:Nat→Prop} {v:V} {u:Value} (hlt:∀ b,M b→b<w.heap.size) (hf:zyg P f) (hv:Rel w M nu0 v u) (hc:Calls P f us w fun e w'=>e=.returned u∧w'=w) :
  zyg P f∧Calls P f us w fun e w'=>∃ u M',e=.returned u∧Rel w' M' nu0 v u∧(∀ b,M b→M' b)∧(∀ b,M' b→M b∨w.heap.size≤b)∧(∀ b,M' b→b<w'.heap.size)∧Stp w w' (fun _=>False):=
 ⟨hf,hc.mono fun e w' ⟨h1,h2⟩=>by
  subst h2
  exact ⟨u,M,h1,hv,fun _ hb=>hb,fun _ hb=>.inl hb,hlt,Stp.refl _ _⟩⟩
theorem us1 {us:Array Value} (h:us.size=1):us=#[us.getD 0 undef]:=by
 apply Array.ext
 ·simp [h]
 ·intro i h1 h2
  have:i=0:=by omega
  subst this
  simp [h1]
end Go.RR
