/- The second reading of code: each operation is read as it runs. -/
import Derived.Test.YtlligemlmccfnaaGreatDoorR1
import Derived.Laws.Tables
import Derived.Laws.MakeOwn
import Derived.Great.BuildSlice
import Derived.MapKept
set_option linter.unusedSimpArgs false
set_option linter.unusedVariables false
namespace Go.RR
open Go.RowKit
variable {P:Program} {o:Oper} {a:Act} {w:World} {M:Nat→Prop} {ν:Nu} {h:List Ob} {fr:Fr}
theorem zfj (hh:HR w M ν h) {vx:V} {ux:Value} (hv:Rel w M ν vx ux) {z:Nat} {ys:List V} (he:elems h vx=some (z,ys)) :
  ∃ a c,ux=.slice a ys.length c∧ys.length≤c∧(ys≠[]→0<z∧∃ b q,a=some ⟨b,q,none⟩∧∀ i (hi:i<ys.length),ys[i]≠.und∧(∀ zs,ys[i]≠.tup zs)∧∃ u,Rel w M ν ys[i] u∧u.cells.size=z∧∀ k,k<z→w.cell? ⟨b,q+i*z+k,none⟩=u.cells[k]?):=by
 unfold elems at he
 split at he
 ·cases he
  cases hv with
  | sl0=>exact ⟨_,_,rfl,Nat.zero_le _,fun h=>absurd rfl h⟩
  | sl rd hc hM hz hr h1 hs hm=>
   refine ⟨_,_,rfl,hc,fun _=>⟨hz,_,_,rfl,fun i hi=>?_⟩⟩
   obtain ⟨g1,g2⟩:=h1 _ (List.getElem_mem hi)
   exact ⟨g1,g2,rd i,(hr i hi).mono (fun _ _=>rfl) (fun _ hb=>hb) (zqc _),hs i hi,fun k hk=>hm i hi k hk⟩
 ·cases he
  cases hv with
  | nsl=>exact ⟨_,_,rfl,Nat.le_refl _,fun h=>absurd rfl h⟩
 ·rename_i id off len tot
  split at he<;>try contradiction
  rename_i z' xs hr
  cases he
  obtain ⟨L,hL,ht,hrow,hlen,hd,hv0,hlt,hcap,ad,rfl,had⟩:=hv.own_inv hh hr
  have hl:((xs.drop off).take len).length=len:=by simp;omega
  refine ⟨ad,L.cap-(off-L.d),by rw [hl],by rw [hl];omega,fun hne=>?_⟩
  have h0:0<len:=by
   rcases Nat.eq_zero_or_pos len with e|e
   ·subst e;simp at hne
   ·exact e
  refine ⟨by have:=hrow.sz;omega,L.b,(off-L.d)*L.sz,had (by omega),fun i hi0=>?_⟩
  have hi:i<len:=by rw [←hl];exact hi0
  obtain ⟨g1,g2,u,g3,g4,g5⟩:=hrow.el (off+i) (by omega) (by omega)
  have e:((xs.drop off).take len)[i]'hi0=xs[off+i]'(by omega):=by simp
  rw [e]
  refine ⟨g1,g2,u,g3,by rw [g4];exact hrow.sz.2,fun k hk=>?_⟩
  have:=g5 k (by rw [hrow.sz.2];exact hk)
  rw [←this]
  congr 2
  rw [hrow.sz.2]
  have:off+i-L.d=(off-L.d)+i:=by omega
  rw [this,Nat.add_mul]
 ·cases he
structure Cells (w:World) (M:Nat→Prop) (ν:Nu) (z:Nat) (ys:List V) (cs:Array Value):Prop where
 size:cs.size=ys.length*z
 el:∀ i (hi:i<ys.length),ys[i]≠.und∧(∀ zs,ys[i]≠.tup zs)∧∃ u,Rel w M ν ys[i] u∧u.cells.size=z∧∀ k,k<z→cs[i*z+k]? = u.cells[k]?
theorem Cells.one {z:Nat} {ys:List V} {cs:Array Value} (hc:Cells w M ν z ys cs):∀ x∈cs.toList,x.oneCell'=true:=by
 intro x hx
 obtain ⟨j,hj,rfl⟩:=List.getElem_of_mem hx
 have hj':j<ys.length*z:=by rw [←hc.size];simpa using hj
 have hz:0<z:=by
  rcases Nat.eq_zero_or_pos z with e|e
  ·subst e;simp at hj'
  ·exact e
 have hi:j / z<ys.length:=(Nat.div_lt_iff_lt_mul hz).2 hj'
 obtain ⟨g1,g2,u,g3,g4,g5⟩:=hc.el _ hi
 have h1:=g5 (j % z) (Nat.mod_lt _ hz)
 have e:j / z*z+j % z=j:=by rw [Nat.mul_comm];exact Nat.div_add_mod _ _
 rw [e] at h1
 have hm:j % z<u.cells.size:=by rw [g4];exact Nat.mod_lt _ hz
 have h2:cs[j]? = some cs.toList[j]:=by simp at hj;simp [hj]
 rw [h2] at h1
 have h3:u.cells[j % z]? = some u.cells[j % z]:=by simp [hm]
 rw [h3] at h1
 have:=Option.some.inj h1
 rw [this]
 exact ztW g3 g1 g2 _ (by simp)
theorem ztV (hh:HR w M ν h) {vx:V} {ux:Value} (hv:Rel w M ν vx ux) {z:Nat} {ys:List V} (he:elems h vx=some (z,ys)) :
  ∃ cs,Cells w M ν z ys cs∧(Builtin.lenOf ux).run P w=.ok ys.length w∧∀ w',w'.heap=w.heap→(Builtin.firstCells z ys.length ux).run P w'=.ok cs w':=by
 obtain ⟨ad,c,rfl,hc,hm⟩:=zfj hh hv he
 by_cases hy:ys=[]
 ·subst hy
  refine ⟨#[],⟨by simp,fun i hi=>by simp at hi⟩,by simp [Builtin.lenOf],fun w' _=>?_⟩
  cases ad with
  | none=>simp [Builtin.firstCells]
  | some ad=>
   have:=run_loadCells (P:=P) w' ad 0 (fun _=>undef) (fun j hj=>by omega)
   simp [Builtin.firstCells,this]
 ·obtain ⟨hz,b,q,rfl,hel⟩:=hm hy
  have hcell:∀ j,j<ys.length*z→∃ v,w.cell? ⟨b,q+j,none⟩=some v:=by
   intro j hj
   have hi:j / z<ys.length:=(Nat.div_lt_iff_lt_mul hz).2 hj
   obtain ⟨g1,g2,u,g3,g4,g5⟩:=hel _ hi
   have h1:=g5 (j % z) (Nat.mod_lt _ hz)
   have e:q+j / z*z+j % z=q+j:=by rw [Nat.add_assoc,Nat.mul_comm (j / z),Nat.div_add_mod]
   rw [e] at h1
   have hm:j % z<u.cells.size:=by rw [g4];exact Nat.mod_lt _ hz
   exact ⟨u.cells[j % z],by rw [h1];simp [hm]⟩
  refine ⟨(Array.range (ys.length*z)).map (fun j=>(w.cell? ⟨b,q+j,none⟩).getD undef),⟨by simp,fun i hi=>?_⟩,by simp [Builtin.lenOf],fun w' hw'=>?_⟩
  ·obtain ⟨g1,g2,u,g3,g4,g5⟩:=hel i hi
   refine ⟨g1,g2,u,g3,g4,fun k hk=>?_⟩
   rw [←g5 k hk]
   have hlt:i*z+k<ys.length*z:=by
    have:i*z+z≤ys.length*z:=by rw [←Nat.succ_mul];exact Nat.mul_le_mul_right _ (by omega)
    omega
   obtain ⟨v,hv⟩:=hcell _ hlt
   simp [hlt]
   rw [show q+i*z+k=q+(i*z+k) by omega,hv]
   simp
  ·have hc':∀ x:Addr,w'.cell? x=w.cell? x:=fun x=>World.cell?_of_block (w:=w) (by rw [hw'])
   have:=run_loadCells (P:=P) w' ⟨b,q,none⟩ (ys.length*z) (fun j=>(w.cell? ⟨b,q+j,none⟩).getD undef) (fun j hj=>by
    obtain ⟨v,hv⟩:=hcell j hj
    rw [zfb,hc',hv]
    simp)
   simp only [Builtin.firstCells,this]
   congr 1
   apply Array.ext'
   simp
theorem zw4 {s:List UInt8} {ux:Value} (hv:Rel w M ν (.str s) ux) :
  ∃ cs,Cells w M ν 1 (zfY s) cs∧(Builtin.lenOf ux).run P w=.ok (zfY s).length w∧∀ w',w'.heap=w.heap→(Builtin.firstCells 1 (zfY s).length ux).run P w'=.ok cs w':=by
 rw [hv.str_inv]
 refine ⟨(s.map fun b=>Value.int .u8 b.toNat).toArray,⟨by simp [zfY],fun i hi=>?_⟩,by simp [Builtin.lenOf,zfY,ByteArray.size],fun w' _=>?_⟩
 ·have hi':i<s.length:=by simpa [zfY] using hi
  have e:(zfY s)[i]=.int .u8 (s[i]).toNat:=by simp [zfY]
  rw [e]
  refine ⟨by simp,by simp,.int .u8 (s[i]).toNat,.int,rfl,fun k hk=>?_⟩
  have:k=0:=by omega
  subst this
  simp [hi',Value.cells]
 ·have e:(⟨s.toArray⟩:ByteArray).extract 0 (zfY s).length=⟨s.toArray⟩:=by
   apply ByteArray.ext
   simp [zfY]
  simp only [Builtin.firstCells,e,Sem.run_pure]
  congr 1
  simp
def zyZ (P:Program) (xt:TypeId):Prop:=(∃ e,P.underlying xt=some (.slice e))∨P.underlying xt=some .string
theorem zxX {t xt ty e:TypeId} {i:TypeInfo} (ht:P.underlying t=some (.slice e)) (hx:zyZ P xt) (hi:P.info? e=some i)
  {b q sLen sCap n:Nat} {ux:Value} {cs:Array Value} (hl:(Builtin.lenOf ux).run P w=.ok n w) (hf:(Builtin.firstCells i.size n ux).run P w=.ok cs w) (hroom:sLen+n≤sCap)
  (hc:∀ j,j<cs.size→(w.cell? ⟨b,q+sLen*i.size+j,none⟩).isSome=true) (hz:∀ j,j<cs.size→w.frozen? ⟨b,q+sLen*i.size+j,none⟩=false) (h1:∀ x∈cs.toList,x.oneCell'=true) :
  (Builtin.append_ #[t,xt] ty #[.slice (some ⟨b,q,none⟩) sLen sCap,ux]).run P w=.ok (.slice (some ⟨b,q,none⟩) (sLen+n) sCap) (w.setCells b (q+sLen*i.size) cs.toList):=by
 have hst:=run_storeCells_cells (P:=P) b (q+sLen*i.size) cs.toList 0 w (fun j hj=>by simpa using hc j (by simpa using hj)) (fun j hj=>by simpa using hz j (by simpa using hj)) h1
 rcases hx with ⟨e',hx⟩|hx<;>simp [Builtin.append_,run_underlying ht,run_underlying hx,zcN hi,hl,hroom,hf,zfb,hst]
theorem zyi {t xt ty e:TypeId} {i:TypeInfo} {zv:Value} (ht:P.underlying t=some (.slice e)) (hx:zyZ P xt) (hi:P.info? e=some i) (hz:i.zero=some zv)
  {s:Option Addr} {sLen sCap n:Nat} {ux:Value} {cs olds:Array Value} (hl:(Builtin.lenOf ux).run P w=.ok n w) (hf:(Builtin.firstCells i.size n ux).run P w.drew=.ok cs w.drew) (ho:(Builtin.firstCells i.size sLen (.slice s sLen sCap)).run P w.drew=.ok olds w.drew) (hroom:¬sLen+n≤sCap)
  (h63:((sLen+n:Nat):Int)≤9223372036854775807) (hfit:(sLen+n)*i.bytes≤140737488355328) :
  (Builtin.append_ #[t,xt] ty #[.slice s sLen sCap,ux]).run P w=.ok (.slice (some ⟨w.heap.size,0,none⟩) (sLen+n) (grownCap w (sLen+n) sCap e))
   (w.drew.alloc (.cells (olds++cs++Builtin.zeroCells zv.cells (grownCap w (sLen+n) sCap e-(sLen+n))) e)):=by
 have h63':¬(9223372036854775807<((sLen:Int)+(n:Int))):=by omega
 have hg:=growslice_fits (old:=sCap) (need:=sLen+n) (bytes:=i.bytes) (by omega) hfit
 have h48':¬(281474976710656<Builtin.nextslicecap (sLen+n) sCap*i.bytes):=by omega
 clear hg h63 hfit
 rcases hx with ⟨e',hx⟩|hx<;>simp [Builtin.append_,run_underlying ht,run_underlying hx,sizeOf,typeInfo,zeroValue,hi,hz,hl,hroom,h63',h48',Question.forced,hf,ho,newRow,grownCap]
variable {P:Program} {o:Oper} {a:Act} {w:World} {M:Nat→Prop} {ν:Nu} {h:List Ob} {fr:Fr}
theorem zxx {t xt ty e:TypeId} {i:TypeInfo} (ht:P.underlying t=some (.slice e)) (hx:zyZ P xt) (hi:P.info? e=some i)
  {s:Option Addr} {sLen sCap:Nat} {ux:Value} {cs:Array Value} (hl:(Builtin.lenOf ux).run P w=.ok 0 w) (hf:(Builtin.firstCells i.size 0 ux).run P w=.ok cs w) (hcs:cs=#[]) (hroom:sLen≤sCap) :
  (Builtin.append_ #[t,xt] ty #[.slice s sLen sCap,ux]).run P w=.ok (.slice s sLen sCap) w:=by
 subst hcs
 cases s<;>rcases hx with ⟨e',hx⟩|hx<;>simp [Builtin.append_,run_underlying ht,run_underlying hx,zcN hi,hl,hroom,hf,storeCells]
theorem zrR {off:Nat} {xs ys:List V} (h:off≤xs.length):(comb off xs ys).length=xs.length+ys.length:=by
 unfold comb
 split
 ·simp
 ·simp;omega
theorem zxz {off:Nat} {xs ys:List V} (h:off≤xs.length) {i:Nat} (h1:off≤i) (h2:i<xs.length) (h3:i<(comb off xs ys).length):(comb off xs ys)[i]=xs[i]:=by
 unfold comb at h3 ⊢
 by_cases e:off=0
 ·simp only [e,if_true] at h3 ⊢
  rw [List.getElem_append_left h2]
 ·simp only [e,if_false] at h3 ⊢
  rw [List.getElem_append_left (by simp;omega),List.getElem_append_right (by simp;omega)]
  simp only [List.length_replicate,List.getElem_drop]
  congr 1
  omega
theorem zx3 {off:Nat} {xs ys:List V} (h:off≤xs.length) {i:Nat} (h2:xs.length≤i) (h3:i<(comb off xs ys).length):(comb off xs ys)[i]=ys[i-xs.length]'(by rw [zrR h] at h3;omega):=by
 unfold comb at h3 ⊢
 by_cases e:off=0
 ·simp only [e,if_true] at h3 ⊢
  rw [List.getElem_append_right h2]
 ·simp only [e,if_false] at h3 ⊢
  rw [List.getElem_append_right (by simp;omega)]
  congr 1
  simp
  omega
theorem zoN {z:Array Value} {n:Nat}:(Builtin.zeroCells z n).size=n*z.size:=by simp [Builtin.zeroCells]
theorem zD9 (hh:HR w M ν h) {id off len tot:Nat} {us:Value} (hs:Rel w M ν (.own id off len tot) us) {sz:Nat} {xs:List V} (hr:zaF h id tot=some (sz,xs)) (hol:off+len=tot)
  {ux:Value} {ys:List V} {cs:Array Value} (hy:ys≠[]) (hc:Cells w M ν sz ys cs) (hl:(Builtin.lenOf ux).run P w=.ok ys.length w) (hf:∀ w',w'.heap=w.heap→(Builtin.firstCells sz ys.length ux).run P w'=.ok cs w')
  {t xt ty e:TypeId} {i:TypeInfo} {zv:Value} (ht:P.underlying t=some (.slice e)) (hx:zyZ P xt) (hi:P.info? e=some i) (hz:i.zero=some zv) (hsz:i.size=sz) (hzs:zv.cells.size=sz)
  (hb:(len+ys.length)*i.bytes≤70368744177664) (hb':len+ys.length≤70368744177664) :
  ∃ w' ν' u,(Builtin.append_ #[t,xt] ty #[us,ux]).run P w=.ok u w'∧Rel w' M ν' (.own id off (len+ys.length) (tot+ys.length)) u∧HR w' M ν' (wr h (some (id,.row sz (comb off xs ys))))∧ν.le ν'∧Stp w w' (Mine ν h) ∧
   (∀ b,Mine ν' (wr h (some (id,.row sz (comb off xs ys)))) b→Mine ν h b∨w.heap.size≤b)∧∀ i,(∀ y,some (id,Ob.row sz (comb off xs ys))≠some (i,y))→ν' i=ν i:=by
 have hread:=ztV (P:=P) hh hs (z:=sz) (ys:=(xs.drop off).take len) (by simp [elems,hr])
 obtain ⟨L,hL,ht',hrow,hlen,hd,hv0,hle,hcap,ad,rfl,had⟩:=hs.own_inv hh hr
 obtain ⟨hid,hx0,_⟩:=zhQ hh hr
 have hel:((xs.drop off).take len)=xs.drop off:=List.take_of_length_le (by simp;omega)
 rw [hel] at hread
 have hdl:(xs.drop off).length=len:=by simp;omega
 rw [hdl] at hread
 obtain ⟨olds,hco,_,hfo⟩:=hread
 have hys:0<ys.length:=by
  rcases Nat.eq_zero_or_pos ys.length with e|e
  ·exact absurd (List.length_eq_zero_iff.1 e) hy
  ·exact e
 have hszp:=hrow.sz
 have hcl:=zrR (ys:=ys) (show off≤xs.length by omega)
 subst hsz
 by_cases hroom:len+ys.length≤L.cap-(off-L.d)
 ·-- in place
  have had:=had (by omega)
  subst had
  obtain ⟨T,hT⟩:=hrow.blk
  have e1:(off-L.d)*L.sz+len*L.sz=(tot-L.d)*L.sz:=by
   rw [←Nat.add_mul]
   congr 1
   omega
  have hLs:L.sz=i.size:=hszp.2
  have hbound:∀ j,j<cs.size→(off-L.d)*L.sz+len*L.sz+j<L.cap*L.sz:=by
   intro j hj
   rw [hc.size,←hLs] at hj
   have:(tot-L.d)*L.sz+ys.length*L.sz≤L.cap*L.sz:=by
    rw [←Nat.add_mul]
    exact Nat.mul_le_mul_right _ (by omega)
   omega
  have hrun:=zxX (P:=P) (w:=w) (ty:=ty) (b:=L.b) (q:=(off-L.d)*L.sz) (sLen:=len) (sCap:=L.cap-(off-L.d)) ht hx hi hl (hf w rfl) hroom
   (fun j hj=>zlx hT (by rw [←hLs];exact hbound j hj)) (fun j hj=>hrow.fz _ (by rw [←hLs];exact hbound j hj)) hc.one
  rw [←hLs] at hrun
  have hcells:∀ j,j<cs.size→(w.setCells L.b ((off-L.d)*L.sz+len*L.sz) cs.toList).cell? ⟨L.b,(off-L.d)*L.sz+len*L.sz+j,none⟩=cs[j]?:=by
   intro j hj
   have:=World.cell?_setCells_in L.b cs.toList ((off-L.d)*L.sz+len*L.sz) w (fun j hj=>zlx hT (hbound j (by simpa using hj))) j (by simpa using hj)
   rw [this]
   simp [hj]
  have hcz:cs.size=ys.length*L.sz:=by rw [hc.size,hLs]
  have:=zxb hh hid (q:=(off-L.d)*L.sz+len*L.sz) (vs:=cs.toList) (ys:=comb off xs ys) (L':={ L with v:=off,tot:=tot+ys.length }) hx0 hL hrow rfl rfl hv0 rfl rfl (by show tot+ys.length=_;rw [hcl,hlen]) (by omega) (fun e=>by omega) (by rw [hcl];omega) (fun j hj hvj=>by
   have hvj:off≤j:=hvj
   rcases Nat.lt_or_ge j xs.length with hjx|hjx
   ·rw [zxz (by omega) hvj hjx hj]
    obtain ⟨g1,g2,u,g3,g4,g5⟩:=hrow.el j hjx (by omega)
    refine ⟨g1,g2,u,g3,g4,fun k hk=>?_⟩
    rw [World.cell?_setCells_out,g5 k hk]
    intro _ _
    left
    have:(j-L.d)*L.sz+L.sz≤(tot-L.d)*L.sz:=by
     rw [←Nat.succ_mul]
     exact Nat.mul_le_mul_right _ (by omega)
    simp only
    omega
   ·rw [zx3 (by omega) hjx hj]
    obtain ⟨g1,g2,u,g3,g4,g5⟩:=hc.el (j-xs.length) (by omega)
    refine ⟨g1,g2,u,g3,by rw [g4,hLs],fun k hk=>?_⟩
    have e2:(j-L.d)*L.sz+k=(off-L.d)*L.sz+len*L.sz+((j-xs.length)*L.sz+k):=by
     rw [e1,←Nat.add_assoc,←Nat.add_mul]
     congr 2
     omega
    have hlt:(j-xs.length)*L.sz+k<cs.size:=by
     rw [hcz]
     have:(j-xs.length)*L.sz+L.sz≤ys.length*L.sz:=by
      rw [←Nat.succ_mul]
      exact Nat.mul_le_mul_right _ (by omega)
     omega
    rw [e2,hcells _ hlt,hLs]
    exact g5 k (by rw [←hLs];exact hk))
  obtain ⟨ν',k1,k2,k3,k4,k5⟩:=this
  refine ⟨_,ν',_,hrun,.own k5 (Nat.le_refl _) rfl fun _=>⟨hd,Nat.le_refl _,by omega,by simp only;omega,_,rfl,fun _=>rfl⟩,k1,k2,k4,k3⟩
 ·-- anew
  have hrun:=zyi (P:=P) (w:=w) (ty:=ty) (s:=ad) (sLen:=len) (sCap:=L.cap-(off-L.d)) ht hx hi hz hl (hf w.drew rfl) (hfo w.drew rfl |> fun h=>by
   have e:(Builtin.firstCells i.size len (.slice ad len (L.cap-(off-L.d)))).run P w.drew=.ok olds w.drew:=h
   exact e) hroom (by omega) (by omega)
  have hge:=grownCap_ge w (len+ys.length) (L.cap-(off-L.d)) e
  generalize hG:grownCap w (len+ys.length) (L.cap-(off-L.d)) e=G at hrun hge
  have hos:olds.size=len*i.size:=by rw [hco.size,hdl]
  have hcs:=hc.size
  have hsize:(olds++cs++Builtin.zeroCells zv.cells (G-(len+ys.length))).size=G*i.size:=by
   simp only [Array.size_append,hos,hcs,zoN,hzs]
   rw [←Nat.add_mul,←Nat.add_mul]
   congr 1
   omega
  have eh:(w.drew.alloc (.cells (olds++cs++Builtin.zeroCells zv.cells (G-(len+ys.length))) e)).heap=w.heap.push (.cells (olds++cs++Builtin.zeroCells zv.cells (G-(len+ys.length))) e):=rfl
  have hold:=zoh eh
  have hnew:=zn4 eh
  have hle':ν.le (fun j=>if j=id then some ⟨w.heap.size,off,off,G,i.size,tot+ys.length,default⟩ else ν j):=fun j L1 h1=>by
   by_cases e:j=id
   ·subst e
    rw [hL] at h1
    cases h1
    exact ⟨⟨w.heap.size,off,off,G,i.size,tot+ys.length,default⟩,by simp,(by omega:L.tot≤tot+ys.length),fun (e:L.tot=tot+ys.length)=>by omega⟩
   ·exact ⟨L1,by simp [e,h1],Nat.le_refl _,fun _=>rfl⟩
  have hb2:i.size=L.sz:=hszp.2.symm
  have:=HR.upd (x:=.row i.size (comb off xs ys)) (L':=⟨w.heap.size,off,off,G,i.size,tot+ys.length,default⟩) hh hid (by rw [hx0];rfl) hL (w':=w.drew.alloc (.cells (olds++cs++Builtin.zeroCells zv.cells (G-(len+ys.length))) e)) (fun k hk _=>hold k hk) (by rw [eh];simp) (by omega:L.tot≤tot+ys.length) (fun (e:L.tot=tot+ys.length)=>by omega) (.inr (Nat.le_refl _))
   ⟨(by rw [hcl];omega:tot+ys.length=_),(by rw [hcl];omega:off≤_),Nat.le_refl _,(by rw [hcl];omega:_≤off+G),fun hb=>Nat.lt_irrefl _ (hh.lt _ hb),⟨(by omega:0<i.size),rfl⟩,⟨e,by simp only [World.shape?,hnew,hsize]⟩,fun j _=>by
    simp only [World.frozen?,hnew]
    simp,fun j hj hvj=>by
    have hvj:off≤j:=hvj
    have hM:∀ b,M b→(w.drew.alloc (.cells (olds++cs++Builtin.zeroCells zv.cells (G-(len+ys.length))) e)).heap[b]? = w.heap[b]?:=fun b hb=>hold b (hh.lt b hb)
    have hcellN:∀ q,(w.drew.alloc (.cells (olds++cs++Builtin.zeroCells zv.cells (G-(len+ys.length))) e)).cell? ⟨w.heap.size,q,none⟩=(olds++cs++Builtin.zeroCells zv.cells (G-(len+ys.length)))[q]?:=fun q=>by
     simp only [World.cell?,hnew]
     rfl
    rcases Nat.lt_or_ge j xs.length with hjx|hjx
    ·have he:=zxz (ys:=ys) (show off≤xs.length by omega) hvj hjx hj
     obtain ⟨g1,g2,u,g3,g4,g5⟩:=hco.el (j-off) (by rw [hdl];omega)
     have e3:(xs.drop off)[j-off]'(by rw [hdl];omega)=xs[j]:=by
      rw [List.getElem_drop]
      congr 1
      omega
     rw [e3] at g1 g2 g3
     rw [he]
     refine ⟨g1,g2,u,g3.mono hM (fun _ hb=>hb) hle',g4,fun k hk=>?_⟩
     have hlt:(j-off)*i.size+k<olds.size:=by
      rw [hos]
      have:(j-off)*i.size+i.size≤len*i.size:=by
       rw [←Nat.succ_mul]
       exact Nat.mul_le_mul_right _ (by omega)
      simp only at hk
      omega
     rw [hcellN,Array.getElem?_append_left (by simp;omega),Array.getElem?_append_left hlt]
     exact g5 k hk
    ·have he:=zx3 (ys:=ys) (show off≤xs.length by omega) hjx hj
     obtain ⟨g1,g2,u,g3,g4,g5⟩:=hc.el (j-xs.length) (by omega)
     rw [he]
     refine ⟨g1,g2,u,g3.mono hM (fun _ hb=>hb) hle',g4,fun k hk=>?_⟩
     simp only at hk
     have e2:(j-off)*i.size+k=olds.size+((j-xs.length)*i.size+k):=by
      rw [hos,←Nat.add_assoc,←Nat.add_mul]
      congr 2
      omega
     have hlt:(j-xs.length)*i.size+k<cs.size:=by
      rw [hcs]
      have:(j-xs.length)*i.size+i.size≤ys.length*i.size:=by
       rw [←Nat.succ_mul]
       exact Nat.mul_le_mul_right _ (by omega)
      omega
     rw [hcellN]
     simp only
     rw [e2,Array.getElem?_append_left (by simp;omega),Array.getElem?_append_right (by omega),Nat.add_sub_cancel_left]
     exact g5 k hk⟩
  refine ⟨_,_,_,hrun,.own (L:=⟨w.heap.size,off,off,G,i.size,tot+ys.length,default⟩) (by simp) (Nat.le_refl _) rfl fun _=>⟨Nat.le_refl _,Nat.le_refl _,by omega,by simp only;omega,some ⟨w.heap.size,0,none⟩,by simp,fun _=>by simp⟩,this.1,this.2.1,⟨rfl,rfl,rfl,by rw [eh];simp,fun k hk _=>hold k hk⟩,this.2.2⟩
theorem zuY {k:Nat} {xs ys:List V} (h:k+ys.length≤xs.length):(ovr k xs ys).length=xs.length:=by
 unfold ovr
 simp
 omega
theorem zEJ {k:Nat} {xs ys:List V} (h:k+ys.length≤xs.length) {i:Nat} (h1:i<k∨k+ys.length≤i) (h2:i<(ovr k xs ys).length):(ovr k xs ys)[i]=xs[i]'(by rw [zuY h] at h2;exact h2):=by
 unfold ovr at h2 ⊢
 rcases h1 with h1|h1
 ·rw [List.getElem_append_left (by simp;omega),List.getElem_append_left (by simp;omega)]
  simp
 ·rw [List.getElem_append_right (by simp;omega)]
  simp only [List.getElem_drop]
  congr 1
  simp
  omega
theorem zDP {k:Nat} {xs ys:List V} (h:k+ys.length≤xs.length) {i:Nat} (h1:k≤i) (h3:i<k+ys.length) (h2:i<(ovr k xs ys).length):(ovr k xs ys)[i]=ys[i-k]'(by omega):=by
 unfold ovr at h2 ⊢
 rw [List.getElem_append_left (by simp;omega),List.getElem_append_right (by simp;omega)]
 congr 1
 simp
 omega
theorem zBP (hh:HR w M ν h) {id off len tot:Nat} {us:Value} (hs:Rel w M ν (.own id off len tot) us) {sz:Nat} {xs:List V} (hr:zaF h id tot=some (sz,xs))
  {ux:Value} {ys:List V} {cs:Array Value} (hol:off+len+ys.length≤tot) (hy:ys≠[]) (hc:Cells w M ν sz ys cs) (hl:(Builtin.lenOf ux).run P w=.ok ys.length w) (hf:∀ w',w'.heap=w.heap→(Builtin.firstCells sz ys.length ux).run P w'=.ok cs w')
  {t xt ty e:TypeId} {i:TypeInfo} (ht:P.underlying t=some (.slice e)) (hx:zyZ P xt) (hi:P.info? e=some i) (hsz:i.size=sz) :
  ∃ w' ν' u,(Builtin.append_ #[t,xt] ty #[us,ux]).run P w=.ok u w'∧Rel w' M ν' (.own id off (len+ys.length) tot) u∧HR w' M ν' (wr h (some (id,.row sz (ovr (off+len) xs ys))))∧ν.le ν'∧Stp w w' (Mine ν h) ∧
   (∀ b,Mine ν' (wr h (some (id,.row sz (ovr (off+len) xs ys)))) b→Mine ν h b∨w.heap.size≤b)∧∀ i,(∀ y,some (id,Ob.row sz (ovr (off+len) xs ys))≠some (i,y))→ν' i=ν i:=by
 obtain ⟨L,hL,ht',hrow,hlen,hd,hv0,hle,hcap,ad,rfl,had⟩:=hs.own_inv hh hr
 obtain ⟨hid,hx0,_⟩:=zhQ hh hr
 have hys:0<ys.length:=by
  rcases Nat.eq_zero_or_pos ys.length with e|e
  ·exact absurd (List.length_eq_zero_iff.1 e) hy
  ·exact e
 have hszp:=hrow.sz
 have hdv:=hrow.dv
 subst hsz
 have hol':off+len+ys.length≤xs.length:=by omega
 have hcl:=zuY hol'
 have hroom:len+ys.length≤L.cap-(off-L.d):=by omega
 have had:=had (by omega)
 subst had
 obtain ⟨T,hT⟩:=hrow.blk
 have hLs:L.sz=i.size:=hszp.2
 have e1:(off-L.d)*L.sz+len*L.sz=(off+len-L.d)*L.sz:=by
  rw [←Nat.add_mul]
  congr 1
  omega
 have hbound:∀ j,j<cs.size→(off-L.d)*L.sz+len*L.sz+j<L.cap*L.sz:=by
  intro j hj
  rw [hc.size,←hLs] at hj
  have:(off+len-L.d)*L.sz+ys.length*L.sz≤L.cap*L.sz:=by
   rw [←Nat.add_mul]
   exact Nat.mul_le_mul_right _ (by omega)
  omega
 have hrun:=zxX (P:=P) (w:=w) (ty:=ty) (b:=L.b) (q:=(off-L.d)*L.sz) (sLen:=len) (sCap:=L.cap-(off-L.d)) ht hx hi hl (hf w rfl) hroom
  (fun j hj=>zlx hT (by rw [←hLs];exact hbound j hj)) (fun j hj=>hrow.fz _ (by rw [←hLs];exact hbound j hj)) hc.one
 rw [←hLs] at hrun
 have hcells:∀ j,j<cs.size→(w.setCells L.b ((off-L.d)*L.sz+len*L.sz) cs.toList).cell? ⟨L.b,(off-L.d)*L.sz+len*L.sz+j,none⟩=cs[j]?:=by
  intro j hj
  have:=World.cell?_setCells_in L.b cs.toList ((off-L.d)*L.sz+len*L.sz) w (fun j hj=>zlx hT (hbound j (by simpa using hj))) j (by simpa using hj)
  rw [this]
  simp [hj]
 have hcz:cs.size=ys.length*L.sz:=by rw [hc.size,hLs]
 have:=zxb hh hid (q:=(off-L.d)*L.sz+len*L.sz) (vs:=cs.toList) (ys:=ovr (off+len) xs ys) (L':=L) hx0 hL hrow rfl rfl (Nat.le_refl _) rfl rfl (by rw [hcl,hlen];exact ht') (by omega) (fun _=>rfl) (by rw [hcl];omega) (fun j hj hvj=>by
  have hjx:j<xs.length:=by rw [hcl] at hj;exact hj
  by_cases hmid:off+len≤j∧j<off+len+ys.length
  ·rw [zDP hol' hmid.1 hmid.2 hj]
   obtain ⟨g1,g2,u,g3,g4,g5⟩:=hc.el (j-(off+len)) (by omega)
   refine ⟨g1,g2,u,g3,by rw [g4,hLs],fun k hk=>?_⟩
   have e2:(j-L.d)*L.sz+k=(off-L.d)*L.sz+len*L.sz+((j-(off+len))*L.sz+k):=by
    rw [e1,←Nat.add_assoc,←Nat.add_mul]
    congr 2
    omega
   have hlt:(j-(off+len))*L.sz+k<cs.size:=by
    rw [hcz]
    have:(j-(off+len))*L.sz+L.sz≤ys.length*L.sz:=by
     rw [←Nat.succ_mul]
     exact Nat.mul_le_mul_right _ (by omega)
    omega
   rw [e2,hcells _ hlt,hLs]
   exact g5 k (by rw [←hLs];exact hk)
  ·rw [zEJ hol' (by omega) hj]
   obtain ⟨g1,g2,u,g3,g4,g5⟩:=hrow.el j hjx hvj
   refine ⟨g1,g2,u,g3,g4,fun k hk=>?_⟩
   rw [World.cell?_setCells_out,g5 k hk]
   intro _ _
   rw [e1]
   rcases (show j<off+len∨off+len+ys.length≤j by omega) with h1|h1
   ·left
    have:(j-L.d)*L.sz+L.sz≤(off+len-L.d)*L.sz:=by
     rw [←Nat.succ_mul]
     exact Nat.mul_le_mul_right _ (by omega)
    simp only
    omega
   ·right
    have:(off+len-L.d)*L.sz+ys.length*L.sz≤(j-L.d)*L.sz:=by
     rw [←Nat.add_mul]
     exact Nat.mul_le_mul_right _ (by omega)
    simp only [Array.length_toList]
    omega)
 obtain ⟨ν',k1,k2,k3,k4,k5⟩:=this
 exact ⟨_,ν',_,hrun,.own k5 (Nat.le_of_eq ht'.symm) rfl fun _=>⟨hd,hv0,by omega,by omega,_,rfl,fun _=>rfl⟩,k1,k2,k4,k3⟩
variable {P:Program} {o:Oper} {a:Act} {w:World} {M:Nat→Prop} {ν:Nu} {h:List Ob} {fr:Fr}
theorem zue (off:Nat):∀ (l:List (Value×Nat)) (cs:Array Value),(l.foldl (fun cs (p:Value×Nat)=>cs.setIfInBounds (off+p.2) p.1) cs).size=cs.size
 | [],_=>rfl
 | p::r,cs=>by simp only [List.foldl_cons];rw [zue off r];simp
theorem zxu (off:Nat):∀ (l:List Value) (n:Nat) (cs:Array Value) (k:Nat),off+n+l.length≤cs.size →
  ((l.zipIdx n).foldl (fun cs (p:Value×Nat)=>cs.setIfInBounds (off+p.2) p.1) cs)[k]? = if off+n≤k∧k<off+n+l.length then l[k-(off+n)]? else cs[k]?
 | [],n,cs,k,_=>by
  rw [if_neg (by simp only [List.length_nil];omega)]
  simp
 | v::r,n,cs,k,hl=>by
  simp only [List.zipIdx_cons,List.foldl_cons,List.length_cons] at hl ⊢
  rw [zxu off r (n+1) _ k (by simp;omega)]
  by_cases h1:off+(n+1)≤k∧k<off+(n+1)+r.length
  ·rw [if_pos h1,if_pos (by omega),show k-(off+n)=(k-(off+(n+1)))+1 by omega,List.getElem?_cons_succ]
  ·rw [if_neg h1]
   by_cases h2:k=off+n
   ·subst h2
    rw [if_pos (by omega)]
    have:off+n<cs.size:=by omega
    simp [this]
   ·rw [if_neg (by omega),Array.getElem?_setIfInBounds_ne (Ne.symm h2)]
theorem zrd (off:Nat) (u cs:Array Value):u.zipIdx.foldl (fun cs (p:Value×Nat)=>cs.setIfInBounds (off+p.2) p.1) cs=(u.toList.zipIdx 0).foldl (fun cs (p:Value×Nat)=>cs.setIfInBounds (off+p.2) p.1) cs:=by
 rw [←Array.foldl_toList,Array.toList_zipIdx]
theorem zt3 {place:Nat→Option (Nat×Nat)}:∀ {ps:List (Nat×Nat×V)} {qs:List (Nat×Value)} {xs xs':List V} {cs:Array Value},Rel w M ν (.agg xs) (.agg cs)→znD xs ps=some xs' →
  ps.length=qs.length→(∀ i (hi:i<ps.length) (hi':i<qs.length),place qs[i].1=some (ps[i].1,ps[i].2.1)∧Rel w M ν ps[i].2.2 qs[i].2∧ps[i].2.2≠.und∧∀ ys,ps[i].2.2≠.tup ys) →
  ∃ cs',Instr.fill place cs qs=some cs'∧Rel w M ν (.agg xs') (.agg cs')
 | [],[],xs,xs',cs,hr,hf,_,_=>by
  simp only [znD] at hf
  cases hf
  exact ⟨cs,rfl,hr⟩
 | [],_::_,_,_,_,_,_,hl,_=>by simp at hl
 | _::_,[],_,_,_,_,_,hl,_=>by simp at hl
 | (off,sz,v)::ps,(i,u)::qs,xs,xs',cs,hr,hf,hl,he=>by
  obtain ⟨e1,e2,e3,e4⟩:=he 0 (by simp) (by simp)
  simp only [List.getElem_cons_zero] at e1 e2 e3 e4
  simp only [znD] at hf
  split at hf<;>try contradiction
  rename_i hvs
  split at hf<;>try contradiction
  rename_i cs1 ho
  obtain ⟨c1,c2,c3⟩:=e2.cells e3 e4
  obtain ⟨d1,d2,_⟩:=zx8 ho (fun c hc=>by
   obtain ⟨j,hj,rfl⟩:=List.getElem_of_mem hc
   exact (c3 j hj).2)
  have d1:off+v.cells.length≤xs.length:=d1
  have d2:cs1=xs.take off++v.cells++xs.drop (off+v.cells.length):=d2
  have hxs:cs.size=xs.length:=by cases hr with|agg hl _ _=>exact hl
  have hr':∀ i (hi:i<xs.length),Rel w M ν xs[i] (cs.getD i undef):=by cases hr with|agg _ _ h=>exact h
  have h1:∀ x∈xs,x.one=true:=by cases hr with|agg _ h _=>exact h
  have hg:=zxu off u.cells.toList 0 cs
  have hlen:u.cells.toList.length=v.cells.length:=by simpa using c1
  have hR:Rel w M ν (.agg cs1) (.agg (u.cells.zipIdx.foldl (fun cs (p:Value×Nat)=>cs.setIfInBounds (off+p.2) p.1) cs)):=by
   rw [zrd]
   refine .agg (by rw [zue,d2];simp;omega) (fun x hx=>?_) fun j hj=>?_
   ·rw [d2] at hx
    simp only [List.mem_append] at hx
    rcases hx with (hx|hx)|hx
    ·exact h1 _ (List.mem_of_mem_take hx)
    ·obtain ⟨j,hj,rfl⟩:=List.getElem_of_mem hx
     exact (c3 j hj).2
    ·exact h1 _ (List.mem_of_mem_drop hx)
   ·have hj1:j<xs.length:=by rw [d2] at hj;simp at hj;omega
    have hgj:=hg j (by simp;omega)
    simp only [Array.getD_eq_getD_getElem?,hgj,Nat.add_zero,hlen]
    rcases Nat.lt_or_ge j off with h2|h2
    ·rw [if_neg (by omega)]
     have:cs1[j]=xs[j]:=by
      simp only [d2]
      rw [List.getElem_append_left (by simp;omega),List.getElem_append_left (by simp;omega),List.getElem_take]
     rw [this]
     simpa using hr' j hj1
    ·rcases Nat.lt_or_ge j (off+v.cells.length) with h3|h3
     ·rw [if_pos ⟨h2,h3⟩]
      have:cs1[j]=v.cells[j-off]'(by omega):=by
       simp only [d2]
       rw [List.getElem_append_left (by simp;omega),List.getElem_append_right (by simp;omega)]
       congr 1
       simp
       omega
      rw [this]
      have:=(c3 (j-off) (by omega)).1
      simpa using this
     ·rw [if_neg (by omega)]
      have:cs1[j]=xs[j]:=by
       simp only [d2]
       rw [List.getElem_append_right (by simp;omega),List.getElem_drop]
       congr 1
       simp
       omega
      rw [this]
      simpa using hr' j hj1
  obtain ⟨cs',r1,r2⟩:=zt3 (place:=place) (ps:=ps) (qs:=qs) hR hf (by simpa using hl) (fun i hi hi'=>by
   have:=he (i+1) (by simpa using hi) (by simpa using hi')
   simp only [List.getElem_cons_succ] at this
   exact this)
  refine ⟨cs',?_,r2⟩
  have n1:¬(u.cells.size≠sz∨off+u.cells.size>cs.size):=by rw [c1,hvs.1,hxs];simp;omega
  simp only [Instr.fill,e1]
  rw [if_neg (by simpa using n1)]
  exact r1
theorem zte {sz:Nat} (hz:0<sz):∀ {ps:List (Nat×V)} {qs:List (Nat×Value)} {xs xs':List V} {cs:Array Value},Cells w M ν sz xs cs→zia xs ps=some xs' →
  ps.length=qs.length→(∀ i (hi:i<ps.length) (hi':i<qs.length),qs[i].1=ps[i].1∧Rel w M ν ps[i].2 qs[i].2∧ps[i].2≠.und∧∀ ys,ps[i].2≠.tup ys) →
  ∃ cs',Instr.fill (fun i=>some (i*sz,sz)) cs qs=some cs'∧Cells w M ν sz xs' cs'∧xs'.length=xs.length
 | [],[],xs,xs',cs,hr,hf,_,_=>by
  simp only [zia] at hf
  cases hf
  exact ⟨cs,rfl,hr,rfl⟩
 | [],_::_,_,_,_,_,_,hl,_=>by simp at hl
 | _::_,[],_,_,_,_,_,hl,_=>by simp at hl
 | (i,v)::ps,(i',u)::qs,xs,xs',cs,hr,hf,hl,he=>by
  obtain ⟨e1,e2,e3,e4⟩:=he 0 (by simp) (by simp)
  simp only [List.getElem_cons_zero] at e1 e2 e3 e4
  subst e1
  simp only [zia] at hf
  split at hf<;>try contradiction
  rename_i hix
  split at hf<;>try contradiction
  rename_i hvs
  obtain ⟨c1,c2,c3⟩:=e2.cells e3 e4
  have hcsz:=hr.size
  obtain ⟨g1,g2,ux,g3,g4,g5⟩:=hr.el i' hix
  have hvz:u.cells.size=sz:=by
   obtain ⟨k1,k2,_⟩:=g3.cells g1 g2
   rw [c1,c2,hvs.1,←g4,k1,k2]
   simp [hix]
  have hin:i'*sz+sz≤cs.size:=by
   rw [hcsz,←Nat.succ_mul]
   exact Nat.mul_le_mul_right _ (by omega)
  have hg:=zxu (i'*sz) u.cells.toList 0 cs
  have hR:Cells w M ν sz (xs.set i' v) (u.cells.zipIdx.foldl (fun cs (p:Value×Nat)=>cs.setIfInBounds (i'*sz+p.2) p.1) cs):=by
   rw [zrd]
   refine ⟨by rw [zue];simp [hcsz],fun j hj=>?_⟩
   have hj1:j<xs.length:=by simpa using hj
   by_cases ej:j=i'
   ·subst ej
    simp only [List.getElem_set_self]
    refine ⟨e3,e4,u,e2,hvz,fun k hk=>?_⟩
    rw [hg _ (by simp;omega),if_pos (by simp;omega)]
    simp
   ·rw [List.getElem_set_ne (Ne.symm ej)]
    obtain ⟨q1,q2,uj,q3,q4,q5⟩:=hr.el j hj1
    refine ⟨q1,q2,uj,q3,q4,fun k hk=>?_⟩
    rw [hg _ (by simp;omega),if_neg]
    ·exact q5 k hk
    ·simp
     intro hle
     rcases Nat.lt_or_ge j i' with hji|hji
     ·have:j*sz+sz≤i'*sz:=by
       rw [←Nat.succ_mul]
       exact Nat.mul_le_mul_right _ (by omega)
      omega
     ·have:i'*sz+sz≤j*sz:=by
       rw [←Nat.succ_mul]
       exact Nat.mul_le_mul_right _ (by omega)
      omega
  obtain ⟨cs',r1,r2,r3⟩:=zte hz (ps:=ps) (qs:=qs) hR hf (by simpa using hl) (fun i hi hi'=>by
   have:=he (i+1) (by simpa using hi) (by simpa using hi')
   simp only [List.getElem_cons_succ] at this
   exact this)
  refine ⟨cs',?_,r2,by simpa using r3⟩
  have n1:¬(u.cells.size≠sz∨i'*sz+u.cells.size>cs.size):=by rw [hvz];simp;omega
  simp only [Instr.fill]
  rw [if_neg (by simpa using n1)]
  exact r1
theorem zt7 {zv:Value} {z:V} (hz:∀ w M ν,Rel w M ν z zv) (h1:z≠.und) (h2:∀ ys,z≠.tup ys) (n m sz:Nat) (hs:zv.cells.size=sz) (hp:0<sz) (hn:n≤m) :
  ∀ i (hi:i<(List.replicate n z).length),(List.replicate n z)[i]≠.und∧(∀ zs,(List.replicate n z)[i]≠.tup zs)∧∃ u,Rel w M ν (List.replicate n z)[i] u∧u.cells.size=sz∧∀ k,k<sz→((Array.range (m*sz)).map (zv.cells[· % zv.cells.size]!))[i*sz+k]? = u.cells[k]?:=by
 intro i hi
 have hi':i<n:=by simpa using hi
 simp only [List.getElem_replicate]
 refine ⟨h1,h2,zv,hz _ _ _,hs,fun k hk=>?_⟩
 have hlt:i*sz+k<m*sz:=by
  have:i*sz+sz≤m*sz:=by
   rw [←Nat.succ_mul]
   exact Nat.mul_le_mul_right _ (by omega)
  omega
 have hmod:(i*sz+k) % sz=k:=by
  rw [Nat.mul_comm,Nat.mul_add_mod,Nat.mod_eq_of_lt hk]
 subst hs
 simp [hlt,hmod,hk]
def zsc (P:Program) (t:TypeId):Option Bool:=
 match P.underlying t with
 | some (.struct _)=>some true
 | some (.array _ _)=>some true
 | some _=>some false
 | none=>none
def zrr (P:Program) (t:TypeId) (sz:Nat):Bool:=
 match P.info? t with
 | some i=>i.size==sz
 | none=>false
def byB (P:Program) (t:TypeId) (bytes:Nat):Bool:=
 match P.info? t with
 | some i=>i.bytes==bytes
 | none=>false
def zB (P:Program) (t:TypeId) (z:V):Bool:=
 match P.info? t with
 | some i=>match i.zero with
  | some v=>vv v z&&i.size==z.size&&decide (0<z.size)
  | none=>false
 | none=>false
def zsB (P:Program) (t:TypeId) (sz:Nat):Bool:=
 match P.info? t with
 | some i=>match i.zero with
  | some v=>v.cells.size==sz
  | none=>false
 | none=>false
def slB (P:Program) (t:TypeId):Option TypeId:=
 match P.underlying t with
 | some (.slice e)=>some e
 | _=>none
def zDh (P:Program) (t:TypeId):Bool:=
 match P.underlying t with
 | some .string=>true
 | _=>false
def u8B (P:Program) (t:TypeId):Bool:=
 match P.underlying t with
 | some (.int .u8)=>true
 | _=>false
def intB (P:Program) (t:TypeId) (k:IntKind):Bool:=
 match P.underlying t with
 | some (.int k')=>k'==k
 | _=>false
def nilB (P:Program) (t:TypeId) (kd:Nat) (c:Value):Bool:=
 match kd with
 | 0=>(match P.underlying t with|some (.pointer _)=>true|_=>false)&&(match c with|.pointer none=>true|_=>false)
 | 1=>(match P.underlying t with|some (.interface _)=>true|_=>false)&&(match c with|.nilIface=>true|_=>false)
 | 2=>(match P.underlying t with|some (.func _ _ _)=>true|_=>false)&&(match c with|.nilFunc=>true|_=>false)
 | 3=>(match P.underlying t with|some (.map _ _)=>true|_=>false)&&(match c with|.map none=>true|_=>false)
 | _=>false
def zuA (P:Program) (s:TypeId) (f:Nat):Option (Nat×TypeId):=
 match P.underlying s with
 | some (.struct fs)=>match fs[f]? with
  | some fl=>some (fl.offset,fl.type)
  | none=>none
 | _=>none
def places (P:Program) (t:TypeId):Option (Nat→Option (Nat×Nat)):=
 match P.underlying t with
 | some (.struct fs)=>match fs.toList.mapM (fun f=>(P.info? f.type).map fun i=>(f.offset,i.size)) with
  | some l=>some fun i=>l.toArray[i]?
  | none=>none
 | some (.array _ e)=>match P.info? e with
  | some ie=>some fun i=>some (i*ie.size,ie.size)
  | none=>none
 | _=>none
def mOo:Option Operand→Option O→Bool
 | none,none=>true
 | some x,some y=>mO x y
 | _,_=>false
def mOs:List Operand→List O→Bool
 | [],[]=>true
 | x::r,y::s=>mO x y&&mOs r s
 | _,_=>false
def mBs (pl:Nat→Option (Nat×Nat)):List (Nat×Operand)→List (Nat×Nat×O)→Bool
 | [],[]=>true
 | q::r,p::s=>(match pl q.1 with
  | some (off,sz)=>off==p.1&&sz==p.2.1
  | none=>false)&&mO q.2 p.2.2&&mBs pl r s
 | _,_=>false
def mEs:List (Nat×Operand)→List (Nat×O)→Bool
 | [],[]=>true
 | q::r,p::s=>q.1==p.1&&mO q.2 p.2&&mEs r s
 | _,_=>false
def arB (P:Program) (t:TypeId):Option (Nat×TypeId):=
 match P.underlying t with
 | some (.array n e)=>some (n,e)
 | _=>none
def zAb (P:Program) (t:TypeId):Option (TypeId×TypeId):=
 match P.underlying t with
 | some (.map k e)=>some (k,e)
 | _=>none
def zDa (P:Program) (ks:Option IntKind) (t:TypeId):Bool:=
 match P.underlying t,ks with
 | some .string,none=>true
 | some (.int q),some q'=>q'==q
 | _,_=>false
def zC1 (P:Program) (t:TypeId):Bool:=
 match P.underlying t with
 | some (.interface _)=>false
 | some _=>true
 | none=>false
def mI (P:Program) (op:Op):I→Bool
 | .mov y=>match op with
  | .move x=>mO x y
  | .assign x=>mO x y
  | _=>false
 | .pick c a b=>match op with
  | .pick c' a' b'=>mO c' c&&mO a' a&&mO b' b
  | _=>false
 | .bin q x y=>match op with
  | .binOp q' _ x' y' _=>q'==q&&mO x' x&&mO y' y
  | _=>false
 | .eq neg q x y=>match op with
  | .binOp q' t x' y' _=>q'==(if neg then .neq else .eql)&&(match q with|.bool=>true|.agg _=>true|_=>false)&&decide (q.dep≤10000)&&mQ P q t&&!(P.eqGuardType P.depth t)&&mO x' x&&mO y' y
  | _=>false
 | .nilq neg kd x=>match op with
  | .binOp q' t x' (.const c) _=>q'==(if neg then .neq else .eql)&&nilB P t kd c&&mO x' x
  | _=>false
 | .un q x=>match op with
  | .unOp q' _ x'=>q'==q&&mO x' x
  | _=>false
 | .conv k x=>match op with
  | .convert s d x'=>(P.underlying s).isSome&&intB P d k&&mO x' x
  | _=>false
 | .same x=>match op with
  | .convert s d x'=>(P.underlying s).isSome&&zDh P d&&mO x' x
  | _=>false
 | .s2b x=>match op with
  | .convert s d x'=>(P.underlying s).isSome&&(match slB P d with|some e=>u8B P e|none=>false)&&mO x' x
  | _=>false
 | .b2s x=>match op with
  | .convert s d x'=>zDh P d&&(match slB P s with|some e=>u8B P e|none=>false)&&mO x' x
  | _=>false
 | .new z=>match op with
  | .alloc e=>zB P e z
  | _=>false
 | .box x=>match op with
  | .box _ x'=>mO x' x
  | _=>false
 | .bld z ps=>match op with
  | .build t qs=>(match places P t with|some pl=>mBs pl qs.toList ps|none=>false)&&(match P.info? t with|some i=>(match i.zero with|some v=>vv v (.agg z)|none=>false)|none=>false)
  | _=>false
 | .bsl z n ps=>match op with
  | .buildSlice t len qs=>len==n&&(match slB P t with|some e=>zB P e z|none=>false)&&decide (n*z.size≤16777216)&&mEs qs.toList ps
  | _=>false
 | .ld ag sz x=>match op with
  | .load t x'=>zsc P t==some ag&&zrr P t sz&&mO x' x
  | _=>false
 | .st sz a x=>match op with
  | .store t a' x'=>zrr P t sz&&mO a' a&&mO x' x
  | _=>false
 | .nck x=>match op with
  | .nilCheck x'=>mO x' x
  | _=>false
 | .fad off x=>match op with
  | .fieldAddr s x' f=>(match zuA P s f with|some (of,t)=>of==off&&(match P.info? t with|some i=>i.size != 0|none=>false)|none=>false)&&mO x' x
  | _=>false
 | .fld ag off sz x=>match op with
  | .field s x' f=>(match zuA P s f with|some (of,t)=>of==off&&zsc P t==some ag&&zrr P t sz|none=>false)&&mO x' x
  | _=>false
 | .iad sz x i=>match op with
  | .indexAddr t x' i'=>(match slB P t with|some e=>zrr P e sz|none=>false)&&mO x' x&&mO i' i
  | _=>false
 | .ixs x i=>match op with
  | .index t x' i'=>zDh P t&&mO x' x&&mO i' i
  | _=>false
 | .sls x lo hi=>match op with
  | .slice t x' lo' hi' none=>zDh P t&&mO x' x&&mOo lo' lo&&mOo hi' hi
  | _=>false
 | .sll sz x lo hi mx=>match op with
  | .slice t x' lo' hi' mx'=>(match slB P t with|some e=>zrr P e sz|none=>false)&&mO x' x&&mOo lo' lo&&mOo hi' hi&&mOo mx' mx
  | _=>false
 | .mks bytes z l c=>match op with
  | .makeSlice t l' c'=>(match slB P t with|some e=>zB P e z&&byB P e bytes|none=>false)&&mO l' l&&mO c' c
  | _=>false
 | .mkf f x y=>match op with
  | .makeFunc f' x' y'=>f'==f&&mOs x'.toList x&&mOs y'.toList y
  | _=>false
 | .ext x i=>match op with
  | .extract x' i'=>mO x' x&&i'==i
  | _=>false
 | .len x=>match op with
  | .call { callee:=.builtin .len,args:=⟨[x']⟩,argTypes:=⟨[t]⟩ }=>(slB P t).isSome&&mO x' x
  | _=>false
 | .slen x=>match op with
  | .call { callee:=.builtin .len,args:=⟨[x']⟩,argTypes:=⟨[t]⟩ }=>zDh P t&&mO x' x
  | _=>false
 | .app sz bytes s x=>match op with
  | .call { callee:=.builtin .append,args:=⟨[s',x']⟩,argTypes:=⟨[t,xt]⟩ }=>(match slB P t with|some e=>zrr P e sz&&zsB P e sz&&byB P e bytes|none=>false)&&decide (0<sz)&&((slB P xt).isSome||zDh P xt)&&mO s' s&&mO x' x
  | _=>false
 | .mxn mx xs=>match op with
  | .call { callee:=.builtin b,args:=as,argTypes:=_ }=>b==(if mx then .max else .min)&&mOs as.toList xs
  | _=>false
 | .mki t x=>match op with
  | .makeInterface t' x'=>t'==t&&P.concrete t&&mO x' x
  | _=>false
 | .op j xs=>match j with
  | .ixa n sz ag=>match op with
   | .index t x i=>(match arB P t with|some (n',e)=>n'==n&&zrr P e sz&&zsc P e==some ag|none=>false)&&mOs [x,i] xs
   | _=>false
  | .iaa n sz=>match op with
   | .indexAddr t x i=>(match arB P t with|some (n',e)=>n'==n&&zrr P e sz|none=>false)&&mOs [x,i] xs
   | _=>false
  | .mkm=>match op with
   | .makeMap _ none=>mOs [] xs
   | _=>false
  | .lku ks z ok=>match op with
   | .lookup t m k ok'=>ok'==ok&&(match zAb P t with|some (kt,et)=>zDa P ks kt&&zB P et z|none=>false)&&mOs [m,k] xs
   | _=>false
  | .mpu ks=>match op with
   | .mapUpdate t m k v=>(match zAb P t with|some (kt,_)=>zDa P ks kt|none=>false)&&mOs [m,k,v] xs
   | .insert t m k v=>(match zAb P t with|some (kt,_)=>zDa P ks kt|none=>false)&&mOs [m,k,v] xs
   | _=>false
  | .mpe ks z=>match op with
   | .mapEntry t m k=>(match zAb P t with|some (kt,et)=>zDa P ks kt&&zB P et z|none=>false)&&mOs [m,k] xs
   | _=>false
  | .ens=>match op with
   | .entryStore _ m s v=>mOs [m,s,v] xs
   | _=>false
  | .mln=>match op with
   | .call { callee:=.builtin .len,args:=⟨[x]⟩,argTypes:=⟨[t]⟩ }=>(zAb P t).isSome&&mOs [x] xs
   | _=>false
  | .mdl ks=>match op with
   | .call { callee:=.builtin .delete,args:=⟨[m,k]⟩,argTypes:=⟨[t,_]⟩ }=>(match zAb P t with|some (kt,_)=>zDa P ks kt|none=>false)&&mOs [m,k] xs
   | _=>false
  | .mcl=>match op with
   | .call { callee:=.builtin .clear,args:=⟨[m]⟩,argTypes:=⟨[t]⟩ }=>(zAb P t).isSome&&mOs [m] xs
   | _=>false
  | .asr t z ok=>match op with
   | .typeAssert x _ t' ok'=>t'==t&&ok'==ok&&zC1 P t&&zB P t z&&mOs [x] xs
   | _=>false
 | .call _ _|.callv _ _|.pan _|.bsf _ _ _|.fz _|.fzd _ _ _|.cx _ _=>false
variable {P:Program} {o:Oper} {a:Act} {w:World} {M:Nat→Prop} {ν:Nu} {h:List Ob} {fr:Fr}
theorem zfE {t:TypeId} {b:Bool} (e:zsc P t=some b):(isAgg t).run P w=.ok b w:=by
 unfold zsc at e
 split at e<;>first|contradiction|(cases e;rename_i e;simp [isAgg,run_underlying e])
theorem zgq {t:TypeId} {sz:Nat} (e:zrr P t sz=true):∃ i,P.info? t=some i∧i.size=sz:=by
 unfold zrr at e
 split at e<;>try contradiction
 rename_i i hi
 exact ⟨i,hi,beq_iff_eq.1 e⟩
theorem zz9 {t:TypeId} {sz:Nat} (e:byB P t sz=true):∃ i,P.info? t=some i∧i.bytes=sz:=by
 unfold byB at e
 split at e<;>try contradiction
 rename_i i hi
 exact ⟨i,hi,beq_iff_eq.1 e⟩
theorem zd1 {t e:TypeId} (h:slB P t=some e):P.underlying t=some (.slice e):=by
 unfold slB at h
 split at h<;>try contradiction
 rename_i e' he
 cases h
 exact he
theorem zkR {t:TypeId} (h:zDh P t=true):P.underlying t=some .string:=by
 unfold zDh at h
 split at h<;>try contradiction
 assumption
theorem zuk {t:TypeId} (h:u8B P t=true):P.underlying t=some (.int .u8):=by
 unfold u8B at h
 split at h<;>try contradiction
 assumption
theorem zBU {t:TypeId} {k:IntKind} (h:intB P t k=true):P.underlying t=some (.int k):=by
 unfold intB at h
 split at h<;>try contradiction
 rename_i k' e
 rw [e,beq_iff_eq.1 h]
theorem zDN {v:Value} {z:V} (h:vv v z=true):z≠.und∧∀ ys,z≠.tup ys:=by
 constructor
 ·rintro rfl
  simp [vv,vx] at h
 ·rintro ys rfl
  simp [vv,vx] at h
theorem zws {t:TypeId} {z:V} (h:zB P t z=true):∃ i v,P.info? t=some i∧i.zero=some v∧i.size=z.size∧0<z.size∧v.cells.size=z.size∧z≠.und∧(∀ ys,z≠.tup ys)∧∀ w M ν,Rel w M ν z v:=by
 unfold zB at h
 split at h<;>try contradiction
 rename_i i hi
 split at h<;>try contradiction
 rename_i v hv
 simp only [Bool.and_eq_true,decide_eq_true_eq] at h
 obtain ⟨⟨h1,h2⟩,h3⟩:=h
 obtain ⟨g1,g2⟩:=zDN h1
 have hr:∀ w M ν,Rel w M ν z v:=fun w M ν=>zAq h1
 obtain ⟨c1,c2,_⟩:=(hr default (fun _=>False) nu0).cells g1 g2
 exact ⟨i,v,hi,hv,beq_iff_eq.1 h2,h3,by rw [c1,c2],g1,g2,hr⟩
theorem zic (hf:FrR w M ν fr a.tmps):∀ {xs:List Operand} {ys:List O},mOs xs ys=true→xs.length=ys.length∧∀ i (hi:i<ys.length),Rel w M ν (ys[i].ev fr) ((xs.map a.eval).getD i undef)
 | [],[],_=>⟨rfl,fun i hi=>by simp at hi⟩
 | x::r,y::s,h=>by
  simp only [mOs,Bool.and_eq_true] at h
  obtain ⟨h1,h2⟩:=zic hf h.2
  refine ⟨by simp [h1],fun i hi=>?_⟩
  cases i with
  | zero=>simpa using zaM hf h.1
  | succ i=>simpa using h2 i (by simpa using hi)
 | [],_::_,h=>by simp [mOs] at h
 | _::_,[],h=>by simp [mOs] at h
variable {P:Program}
def Sound (P:Program) (i:I):Prop:=∀ {o:Oper} {a:Act} {w:World} {M:Nat→Prop} {ν:Nu} {h:List Ob} {fr:Fr} {nid:Nat} {v:V} {wv:Option (Nat×Ob)},
 mI P o.op i=true→FrR w M ν fr a.tmps→HR w M ν h→ν nid=none→nid≤h.length→(∀ hi:nid<h.length,live h[nid]=false)→op1 nid fr h i=some (v,wv)→OpOK P o a w M ν h v wv
theorem s_mov {x:O}:Sound P (.mov x):=by
 intro o a w M ν h fr nid v wv hm hf hh hn hle hd he
 simp only [op1,Option.some.injEq,Prod.mk.injEq] at he
 obtain ⟨rfl,rfl⟩:=he
 simp only [mI] at hm
 split at hm<;>try contradiction
 ·rename_i y e
  exact .pure hh (by simp [execOp,e]) (zaM hf hm)
 ·rename_i y e
  exact .pure hh (by simp [execOp,e]) (zaM hf hm)
theorem s_pick {c x y:O}:Sound P (.pick c x y):=by
 intro o a w M ν h fr nid v wv hm hf hh hn hle hd he
 simp only [mI] at hm
 split at hm<;>try contradiction
 rename_i c' x' y' e
 simp only [Bool.and_eq_true] at hm
 have hc:=zaM hf hm.1.1
 have hx:=zaM hf hm.1.2
 have hy:=zaM hf hm.2
 simp only [op1] at he
 split at he<;>try contradiction
 rename_i t et
 rw [et] at hc
 simp only [Option.some.injEq,Prod.mk.injEq] at he
 obtain ⟨rfl,rfl⟩:=he
 refine .pure hh (u:=if t=true then a.eval x' else a.eval y') (by simp [execOp,e,hc.bool_inv,asBool]) ?_
 cases t
 ·exact hy
 ·exact hx
theorem s_bin {q:BinOp} {x y:O}:Sound P (.bin q x y):=by
 intro o a w M ν h fr nid v wv hm hf hh hn hle hd he
 simp only [mI] at hm
 split at hm<;>try contradiction
 rename_i q' t x' y' yt e
 simp only [Bool.and_eq_true,beq_iff_eq] at hm
 obtain ⟨⟨rfl,hx⟩,hy⟩:=hm
 simp only [op1,Option.map_eq_some_iff,Prod.mk.injEq] at he
 obtain ⟨v',hb,rfl,rfl⟩:=he
 obtain ⟨u,hr,hv⟩:=zzO (P:=P) (t:=t) (x:=x') (y:=y') (zaM hf hx) (zaM hf hy) hb
 exact .pure hh (u:=u) (by
  simp only [execOp,e]
  simp only [Sem.run_bind] at hr ⊢
  rw [hr]
  simp) hv
theorem s_un {q:UnOp} {x:O}:Sound P (.un q x):=by
 intro o a w M ν h fr nid v wv hm hf hh hn hle hd he
 simp only [mI] at hm
 split at hm<;>try contradiction
 rename_i q' t x' e
 simp only [Bool.and_eq_true,beq_iff_eq] at hm
 obtain ⟨rfl,hx⟩:=hm
 obtain ⟨u,hr,hv,rfl⟩:=zCD (P:=P) (fr:=fr) (h:=h) (zaM hf hx) rfl (v:=v) (wv:=wv) he
 exact .pure hh (u:=u) (by simp [execOp,e,hr]) hv
theorem s_conv {k:IntKind} {x:O}:Sound P (.conv k x):=by
 intro o a w M ν h fr nid v wv hm hf hh hn hle hd he
 simp only [mI] at hm
 split at hm<;>try contradiction
 rename_i s d x' e
 simp only [Bool.and_eq_true] at hm
 obtain ⟨⟨h1,h2⟩,hx⟩:=hm
 have hx:=zaM hf hx
 simp only [op1] at he
 split at he<;>try contradiction
 rename_i k' n ex
 rw [ex] at hx
 cases he
 obtain ⟨sd,hs⟩:=Option.isSome_iff_exists.1 h1
 refine .pure hh (u:=.int k (k.wrap n)) ?_ .int
 simp only [execOp,e,hx.int_inv]
 cases sd<;>simp [convert,run_underlying hs,run_underlying (zBU h2),Conv.intToInt]
theorem s_same {x:O}:Sound P (.same x):=by
 intro o a w M ν h fr nid v wv hm hf hh hn hle hd he
 simp only [mI] at hm
 split at hm<;>try contradiction
 rename_i s d x' e
 simp only [Bool.and_eq_true] at hm
 obtain ⟨⟨h1,h2⟩,hx⟩:=hm
 have hx:=zaM hf hx
 simp only [op1] at he
 split at he<;>try contradiction
 rename_i l ex
 rw [ex] at hx
 cases he
 obtain ⟨sd,hs⟩:=Option.isSome_iff_exists.1 h1
 refine .pure hh (u:=a.eval x') ?_ hx
 simp only [execOp,e,hx.str_inv]
 cases sd<;>simp [convert,run_underlying hs,run_underlying (zkR h2)]
theorem s_mkf {f:Fn} {x y:List O}:Sound P (.mkf f x y):=by
 intro o a w M ν h fr nid v wv hm hf hh hn hle hd he
 simp only [mI] at hm
 split at hm<;>try contradiction
 rename_i f' x' y' e
 simp only [Bool.and_eq_true,beq_iff_eq] at hm
 obtain ⟨⟨rfl,hx⟩,hy⟩:=hm
 cases he
 obtain ⟨x1,x2⟩:=zic hf hx
 obtain ⟨y1,y2⟩:=zic hf hy
 refine .pure hh (u:=.func f' (x'.map a.eval) (y'.map a.eval)) (by simp [execOp,e,Instr.makeFunc]) (.fn (by simpa using x1) (fun i hi=>?_) (by simpa using y1) fun i hi=>?_)
 ·have:=x2 i (by simpa using hi)
  simpa using this
 ·have:=y2 i (by simpa using hi)
  simpa using this
theorem s_ext {x:O} {k:Nat}:Sound P (.ext x k):=by
 intro o a w M ν h fr nid v wv hm hf hh hn hle hd he
 simp only [mI] at hm
 split at hm<;>try contradiction
 rename_i x' k' e
 simp only [Bool.and_eq_true,beq_iff_eq] at hm
 obtain ⟨hx,rfl⟩:=hm
 have hx:=zaM hf hx
 simp only [op1] at he
 split at he<;>try contradiction
 rename_i xs ex
 rw [ex] at hx
 split at he<;>try contradiction
 rename_i v' hv
 cases he
 obtain ⟨hk,rfl⟩:=List.getElem?_eq_some_iff.1 hv
 generalize hu:a.eval x'=u at hx
 cases hx with
 | tup hl hr=>
  rename_i vs
  refine .pure hh (u:=vs[k']'(by omega)) ?_ ?_
  ·have:k'<vs.size:=by omega
   simp [execOp,e,hu,Instr.extract,this]
  ·have:=hr k' hk
   have h2:k'<vs.size:=by omega
   simpa [h2] using this
theorem s_mki {t:Nat} {x:O}:Sound P (.mki t x):=by
 intro o a w M ν h fr nid v wv hm hf hh hn hle hd he
 simp only [mI] at hm
 split at hm<;>try contradiction
 rename_i t' x' e
 simp only [Bool.and_eq_true,beq_iff_eq] at hm
 obtain ⟨⟨rfl,h1⟩,hx⟩:=hm
 have hx:=zaM hf hx
 simp only [op1] at he
 split at he<;>try contradiction
 cases he
 exact .pure hh (u:=.iface t' (a.eval x')) (by simp [execOp,e,run_makeInterface w t' _ h1]) (.ifc hx)
theorem s_eq {neg:Bool} {q:Q} {x y:O}:Sound P (.eq neg q x y):=by
 intro o a w M ν h fr nid v wv hm hf hh hn hle hd he
 simp only [mI] at hm
 split at hm<;>try contradiction
 rename_i q' t x' y' yt e
 simp only [Bool.and_eq_true,beq_iff_eq,decide_eq_true_eq,Bool.not_eq_true'] at hm
 obtain ⟨⟨⟨⟨⟨⟨rfl,hq⟩,hdp⟩,hmq⟩,hg⟩,hx⟩,hy⟩:=hm
 simp only [op1,Option.map_eq_some_iff,Prod.mk.injEq] at he
 obtain ⟨b,hb,rfl,rfl⟩:=he
 have hx:=zaM hf hx
 have hy:=zaM hf hy
 have he:=zsJ (P:=P) 10000 hdp hmq hx hy hb
 refine .pure hh (u:=.bool (if neg then !b else b)) ?_ .bool
 cases q<;>first|(simp at hq;done)|skip
 ·obtain ⟨p,r,e1,e2,rfl⟩:=zxU hb
  rw [e1] at hx
  rw [e2] at hy
  rw [hx.bool_inv,hy.bool_inv] at he
  cases neg<;>simp [execOp,e,hx.bool_inv,hy.bool_inv,eqGuard,binOp,Op.equal,Op.maxDepth,he]
 ·obtain ⟨p,r,e1,e2,_⟩:=zAp hb
  rw [e1] at hx
  rw [e2] at hy
  obtain ⟨c1,k1,_⟩:=hx.agg_inv
  obtain ⟨c2,k2,_⟩:=hy.agg_inv
  rw [k1,k2] at he
  cases neg<;>simp [execOp,e,k1,k2,run_eqGuard_agg w _ t x' y' c1 c2 hg,binOp,Op.equal,Op.maxDepth,he]
theorem zlc {w:World} {t:TypeId} {u c:Value} {x y:Operand} {b neg:Bool} (hg:∀ op,(eqGuard op t x y u c).run P w=.ok () w) (he:∀ d,(Op.equalIn (d+1) t u c).run P w=.ok b w)
  (h1:binOp .eql t u c=(do pure (.bool (←Op.equal t u c)))) (h2:binOp .neq t u c=(do pure (.bool (!(←Op.equal t u c))))) :
  (do eqGuard (if neg then .neq else .eql) t x y u c;binOp (if neg then .neq else .eql) t u c:Sem Value).run P w=.ok (.bool (if neg then !b else b)) w:=by
 have he:(Op.equal t u c).run P w=.ok b w:=he 9999
 cases neg
 ·simp only [Bool.false_eq_true,if_false,Sem.run_bind,hg,Result.andThen_ok,h1,he,Sem.run_pure]
 ·simp only [if_true,Sem.run_bind,hg,Result.andThen_ok,h2,he,Sem.run_pure]
theorem s_nilq {neg:Bool} {kd:Nat} {x:O}:Sound P (.nilq neg kd x):=by
 intro o a w M ν h fr nid v wv hm hf hh hn hle hd he
 simp only [mI] at hm
 split at hm<;>try contradiction
 rename_i q' t x' c yt e
 simp only [Bool.and_eq_true,beq_iff_eq] at hm
 obtain ⟨⟨rfl,hc⟩,hx⟩:=hm
 have hx:=zaM hf hx
 simp only [op1,Option.map_eq_some_iff,Prod.mk.injEq] at he
 obtain ⟨b,hb,rfl,rfl⟩:=he
 have key:((do eqGuard (if neg then .neq else .eql) t x' (.const c) (a.eval x') c;binOp (if neg then .neq else .eql) t (a.eval x') c:Sem Value).run P w=.ok (.bool (if neg then !b else b)) w)→OpOK P o a w M ν h (.bool (if neg then !b else b)) none:=fun hk=>.pure hh (u:=.bool (if neg then !b else b)) (by
   have hyc:a.eval (.const c)=c:=rfl
   simp only [execOp,e,hyc]
   simp only [Sem.run_bind] at hk ⊢
   rw [hk]
   simp) .bool
 apply key
 clear key
 generalize hu:a.eval x'=u at hx
 generalize hy:x.ev fr=y at hx hb
 unfold znc at hb
 split at hb<;>try contradiction
 all_goals
  simp only [nilB,Bool.and_eq_true] at hc
  obtain ⟨ht,hcc⟩:=hc
  split at ht<;>try contradiction
  rename_i d ht'
  split at hcc<;>try contradiction
 ·cases hb;cases hx
  exact zlc (fun op=>by cases op<;>rfl) (fun d=>by simp [Op.equalIn,run_underlying ht']) rfl rfl
 ·cases hb;cases hx
  exact zlc (fun op=>by cases op<;>rfl) (fun d=>by simp [Op.equalIn,run_underlying ht']) rfl rfl
 ·split at hb<;>try contradiction
  rename_i hr
  cases hb
  obtain ⟨L,_,_,_,_,_,_,_,rfl⟩:=hx.ptr_inv hh hr
  exact zlc (fun op=>by cases op<;>rfl) (fun d=>by simp [Op.equalIn,run_underlying ht']) rfl rfl
 ·cases hb;cases hx
  exact zlc (fun op=>by cases op<;>simp [eqGuard]) (fun d=>by simp [Op.equalIn,run_underlying ht']) rfl rfl
 ·cases hb;cases hx
  exact zlc (fun op=>by cases op<;>rfl) (fun d=>by simp [Op.equalIn,run_underlying ht']) rfl rfl
 ·cases hb;cases hx
  exact zlc (fun op=>by cases op<;>rfl) (fun d=>by simp [Op.equalIn,run_underlying ht']) rfl rfl
 ·cases hb;cases hx
  exact zlc (fun op=>by cases op<;>rfl) (fun d=>by simp [Op.equalIn,run_underlying ht']) rfl rfl
 ·cases hb;cases hx
  exact zlc (fun op=>by cases op<;>rfl) (fun d=>by simp [Op.equalIn,run_underlying ht']) rfl rfl
 ·split at hb<;>try contradiction
  rename_i es hr
  cases hb
  obtain ⟨hi,he'⟩:=List.getElem?_eq_some_iff.1 hr
  obtain ⟨L,h1,h2⟩:=hh.ob _ hi (by rw [he'];rfl)
  rw [he'] at h2
  cases hx with
  | mp hv _ hO=>
   rw [h1] at hv
   cases hv
   rw [hO h2.tot,Lc.ref,if_pos h2.cap]
   exact zlc (fun op=>by cases op<;>rfl) (fun d=>by simp [Op.equalIn,run_underlying ht']) rfl rfl
theorem s_nck {x:O}:Sound P (.nck x):=by
 intro o a w M ν h fr nid v wv hm hf hh hn hle hd he
 simp only [mI] at hm
 split at hm<;>try contradiction
 rename_i x' e
 have hx:=zaM hf hm
 generalize hu:a.eval x'=u at hx
 simp only [op1] at he
 split at he<;>try contradiction
 ·rename_i ex
  rw [ex] at hx
  cases he
  refine .pure hh (u:=u) ?_ hx
  cases hx
  simp [execOp,e,hu]
 ·rename_i ex
  rw [ex] at hx
  split at he<;>try contradiction
  rename_i hr
  cases he
  refine .pure hh (u:=u) ?_ hx
  obtain ⟨L,_,_,_,_,_,_,_,rfl⟩:=hx.ptr_inv hh hr
  simp [execOp,e,hu]
 ·rename_i ex
  rw [ex] at hx
  cases he
  refine .pure hh (u:=u) ?_ hx
  cases hx
  simp [execOp,e,hu]
theorem s_ld {ag:Bool} {sz:Nat} {x:O}:Sound P (.ld ag sz x):=by
 intro o a w M ν h fr nid v wv hm hf hh hn hle hd he
 simp only [mI] at hm
 split at hm<;>try contradiction
 rename_i t x' e
 simp only [Bool.and_eq_true,beq_iff_eq] at hm
 obtain ⟨⟨h1,h2⟩,hx⟩:=hm
 obtain ⟨i,hi,hs⟩:=zgq h2
 have hx:=zaM hf hx
 generalize hu:a.eval x'=u at hx
 simp only [op1] at he
 split at he<;>try contradiction
 ·rename_i y k ex
  rw [ex] at hx
  simp only [Option.map_eq_some_iff,Prod.mk.injEq] at he
  obtain ⟨v',hp,rfl,rfl⟩:=he
  cases hx with
  | pin hM hr g hm=>
   obtain ⟨u',r1,r2⟩:=zn7 (P:=P) (hr.mono (fun _ _=>rfl) (fun _ hb=>hb) (zqc ν)) g.1 g.2 hm (zfE h1) hi hs hp
   exact .pure hh (u:=u') (by simp [execOp,e,hu,Instr.loadAt,Instr.sureAddr,r1]) r2
 ·rename_i id ix k tot ex
  rw [ex] at hx
  split at he<;>try contradiction
  rename_i z xs hr
  split at he<;>try contradiction
  rename_i y hy
  simp only [Option.map_eq_some_iff,Prod.mk.injEq] at he
  obtain ⟨v',hp,rfl,rfl⟩:=he
  obtain ⟨L,hL,ht,hrow,hlen,hd,hv0,hlt,rfl⟩:=hx.ptr_inv hh hr
  obtain ⟨hix,rfl⟩:=List.getElem?_eq_some_iff.1 hy
  obtain ⟨g1,g2,uy,g3,g4,g5⟩:=hrow.el ix hix hv0
  obtain ⟨u',r1,r2⟩:=zn7 (P:=P) (b:=L.b) (q:=(ix-L.d)*L.sz) g3 g1 g2 (fun j hj=>g5 j (by omega)) (zfE h1) hi hs hp
  exact .pure hh (u:=u') (by simp [execOp,e,hu,Instr.loadAt,Instr.sureAddr,r1]) r2
theorem s_st {sz:Nat} {x y:O}:Sound P (.st sz x y):=by
 intro o a w M ν h fr nid v wv hm hf hh hn hle hd he
 simp only [mI] at hm
 split at hm<;>try contradiction
 rename_i t x' y' e
 simp only [Bool.and_eq_true] at hm
 obtain ⟨⟨h2,hx⟩,hy⟩:=hm
 obtain ⟨i,hi,hs⟩:=zgq h2
 have hx:=zaM hf hx
 have hy:=zaM hf hy
 simp only [op1] at he
 split at he<;>try contradiction
 rename_i id ix k tot ex hne1 hne2
 rw [ex] at hx
 split at he<;>try contradiction
 rename_i z xs hr
 split at he<;>try contradiction
 rename_i el hel
 split at he<;>try contradiction
 rename_i hsz
 split at he<;>try contradiction
 rename_i el' ho
 cases he
 obtain ⟨w',ν',r1,r2,r3,r4,r5⟩:=zxo (P:=P) (t:=t) hh hx hr hel hy (fun e=>hne2 e) (fun ys e=>hne1 _ e) ho hi (by rw [hs,hsz])
 exact ⟨w',ν',undef,.inr ⟨by simp [execOp,e,r1],rfl⟩,.und,r2,r3,r5,r4⟩
theorem s_fad {off:Nat} {x:O}:Sound P (.fad off x):=by
 intro o a w M ν h fr nid v wv hm hf hh hn hle hd he
 simp only [mI] at hm
 split at hm<;>try contradiction
 rename_i s x' f e
 simp only [Bool.and_eq_true] at hm
 obtain ⟨h1,hx⟩:=hm
 split at h1<;>try contradiction
 rename_i of t hfo
 simp only [Bool.and_eq_true,beq_iff_eq] at h1
 obtain ⟨rfl,h1⟩:=h1
 split at h1<;>try contradiction
 rename_i i hi
 unfold zuA at hfo
 split at hfo<;>try contradiction
 rename_i fs hs
 split at hfo<;>try contradiction
 rename_i fl hfl
 cases hfo
 have hz:¬i.size=0:=by simpa using h1
 have hx:=zaM hf hx
 generalize hu:a.eval x'=u at hx
 have run:∀ (b q:Nat),u=.pointer (some ⟨b,q,none⟩)→(execOp a.eval o).run P w=.ok (.value (.pointer (some ⟨b,q+fl.offset,none⟩))) w:=by
  rintro b q rfl
  have:(⟨b,q,none⟩:Addr).add fl.offset=⟨b,q+fl.offset,none⟩:=zfb
  simp [execOp,e,hu,Instr.fieldAt,run_underlying hs,hfl,Instr.sureAddr,fieldPlace,zcN hi,hz,this]
 simp only [op1] at he
 split at he<;>try contradiction
 ·rename_i y k ex
  rw [ex] at hx
  cases he
  cases hx with
  | pin hM hr g hm=>exact .pure hh (run _ _ rfl) (by rw [Nat.add_assoc];exact .pin hM hr g hm)
 ·rename_i id ix k tot ex
  rw [ex] at hx
  split at he<;>try contradiction
  rename_i z hr
  cases he
  obtain ⟨L,hL,ht,hrow,hlen,hd,hv0,hlt,rfl⟩:=hx.ptr_inv hh hr
  exact .pure hh (run _ _ rfl) (.ptr hL (Nat.le_of_eq ht.symm) rfl fun _=>⟨hd,hv0,hlt,by rw [Nat.add_assoc]⟩)
theorem s_fld {ag:Bool} {off sz:Nat} {x:O}:Sound P (.fld ag off sz x):=by
 intro o a w M ν h fr nid v wv hm hf hh hn hle hd he
 simp only [mI] at hm
 split at hm<;>try contradiction
 rename_i s x' f e
 simp only [Bool.and_eq_true] at hm
 obtain ⟨h1,hx⟩:=hm
 split at h1<;>try contradiction
 rename_i of t hfo
 simp only [Bool.and_eq_true,beq_iff_eq] at h1
 obtain ⟨⟨rfl,h1⟩,h2⟩:=h1
 obtain ⟨i,hi,hsz⟩:=zgq h2
 unfold zuA at hfo
 split at hfo<;>try contradiction
 rename_i fs hs
 split at hfo<;>try contradiction
 rename_i fl hfl
 cases hfo
 have hx:=zaM hf hx
 simp only [op1] at he
 split at he<;>try contradiction
 rename_i xs ex
 rw [ex] at hx
 simp only [Option.map_eq_some_iff,Prod.mk.injEq] at he
 obtain ⟨v',hp,rfl,rfl⟩:=he
 obtain ⟨vs,hu,_⟩:=hx.agg_inv
 have hp':=zrN hx (by simp) (by simp) (ag:=ag) (k:=fl.offset) (sz:=sz) (v':=v') hp
 rw [hu] at hp'
 cases ag with
 | true=>
  obtain ⟨hle,hr⟩:=hp'.1 rfl
  refine .pure hh ?_ hr
  simp [execOp,e,hu,Instr.field,run_underlying hs,hfl,asAgg,Go.part,zfE h1,zcN hi,hsz,Value.cells]
 | false=>
  obtain ⟨c,hc,hr⟩:=hp'.2 rfl
  refine .pure hh (u:=c) ?_ hr
  simp only [Value.cells] at hc
  simp [execOp,e,hu,Instr.field,run_underlying hs,hfl,asAgg,Go.part,zfE h1,hc]
theorem s_iad {sz:Nat} {x y:O}:Sound P (.iad sz x y):=by
 intro o a w M ν h fr nid v wv hm hf hh hn hle hd he
 simp only [mI] at hm
 split at hm<;>try contradiction
 rename_i t x' y' e
 simp only [Bool.and_eq_true] at hm
 obtain ⟨⟨h1,hx⟩,hy⟩:=hm
 split at h1<;>try contradiction
 rename_i et het
 obtain ⟨i,hi,hsz⟩:=zgq h1
 have hx:=zaM hf hx
 have hy:=zaM hf hy
 generalize hu:a.eval x'=u at hx
 have run:∀ (b q n c:Nat) (k:IntKind) (j:Int),u=.slice (some ⟨b,q,none⟩) n c→a.eval y'=.int k j→0≤j→j<n→(execOp a.eval o).run P w=.ok (.value (.pointer (some ⟨b,q+j.toNat*sz,none⟩))) w:=by
  rintro b q n c k j rfl hj h0 hlt
  have h2:0≤j∧j<(n:Int):=⟨h0,hlt⟩
  simp [execOp,e,hu,hj,Instr.indexAt,asIntOf,run_underlying (zd1 het),h2,zcN hi,hsz,zfb]
 simp only [op1] at he
 split at he<;>try contradiction
 ·rename_i z xs k n ex ey
  rw [ex] at hx
  rw [ey] at hy
  split at he<;>try contradiction
  rename_i hz
  subst hz
  simp only [Option.map_eq_some_iff,Prod.mk.injEq] at he
  obtain ⟨v',hp,rfl,rfl⟩:=he
  unfold at? at hp
  split at hp<;>try contradiction
  rename_i h0
  obtain ⟨hnx,rfl⟩:=List.getElem?_eq_some_iff.1 hp
  cases hx with
  | sl0=>simp at hnx
  | sl rd hc hM hz hr g hs hm=>
   obtain ⟨g1,g2⟩:=g _ (List.getElem_mem hnx)
   exact .pure hh (run _ _ _ _ _ _ rfl hy.int_inv h0 (by omega)) (.pin (k:=0) hM (hr _ hnx) ⟨g1,g2⟩ (fun j hj=>hm _ hnx j (by rw [hs _ hnx] at hj;exact hj)))
 ·rename_i id off len tot k n ex ey
  rw [ex] at hx
  rw [ey] at hy
  split at he<;>try contradiction
  rename_i hlt
  split at he<;>try contradiction
  rename_i z xs hr
  split at he<;>try contradiction
  rename_i hz
  subst hz
  cases he
  obtain ⟨L,hL,ht,hrow,hlen,hd,hv0,hle2,hcap,ad,rfl,had⟩:=hx.own_inv hh hr
  have had:=had (by omega)
  subst had
  refine .pure hh (run _ _ _ _ _ _ rfl hy.int_inv hlt.1 hlt.2) (.ptr hL (Nat.le_of_eq ht.symm) rfl fun _=>⟨by omega,by omega,by omega,?_⟩)
  have hLs:L.sz=z:=hrow.sz.2
  have:(off-L.d)*L.sz+n.toNat*z=(off+n.toNat-L.d)*L.sz+0:=by
   rw [←hLs,Nat.add_zero,←Nat.add_mul]
   congr 1
   omega
  rw [this]
variable {P:Program}
theorem s_new {z:V}:Sound P (.new z):=by
 intro o a w M ν h fr nid v wv hm hf hh hn hle hd he
 simp only [mI] at hm
 split at hm<;>try contradiction
 rename_i t e
 obtain ⟨i,u,hi,hz,hs,h0,hc,g1,g2,hr⟩:=zws hm
 cases he
 have eh:(w.alloc (.cells u.cells t)).heap=w.heap.push (.cells u.cells t):=rfl
 obtain ⟨ν',k1,k2,k3,k4⟩:=zqK hh hn hle hd eh (xs:=[z]) (sz:=z.size) (cap:=1) (by rw [hc];omega) (fun o _=>by simp) h0 (by simp) (fun j hj=>by
  have:j=0:=by simpa using hj
  subst this
  exact ⟨g1,g2,u,hr _ _ _,hc,fun k hk=>by simp⟩)
 refine ⟨_,ν',.pointer (some ⟨w.heap.size,0,none⟩),.inl ?_,.ptr k4 (Nat.le_refl _) rfl fun _=>⟨Nat.zero_le _,Nat.zero_le _,Nat.one_pos,by simp⟩,k1,k2,ziF eh rfl rfl rfl _,k3⟩
 simp [execOp,e,Instr.alloc,zeroValue,run_typeInfo w hi,hz,newVar,newRow]
theorem s_box {x:O}:Sound P (.box x):=by
 intro o a w M ν h fr nid v wv hm hf hh hn hle hd he
 simp only [mI] at hm
 split at hm<;>try contradiction
 rename_i t x' e
 have hx:=zaM hf hm
 simp only [op1] at he
 split at he<;>try contradiction
 rename_i q1 q2 q3
 cases he
 generalize hy:x.ev fr=y at hx q1 q2 q3
 generalize hu:a.eval x'=u at hx
 have g1:y≠.und:=fun e=>q2 e
 have g2:∀ ys,y≠.tup ys:=fun ys e=>q1 _ e
 obtain ⟨c1,c2,_⟩:=hx.cells g1 g2
 have h0:0<y.size:=by
  rcases Nat.eq_zero_or_pos y.size with e0|e0
  ·exfalso
   cases y<;>simp_all [V.size]
  ·exact e0
 have eh:(w.alloc (.cells u.cells t)).heap=w.heap.push (.cells u.cells t):=rfl
 obtain ⟨ν',k1,k2,k3,k4⟩:=zqK hh hn hle hd eh (xs:=[y]) (sz:=y.size) (cap:=1) (by rw [c1,c2];omega) (fun o _=>by simp) h0 (by simp) (fun j hj=>by
  have:j=0:=by simpa using hj
  subst this
  exact ⟨g1,g2,u,hx,by rw [c1,c2],fun k hk=>by simp⟩)
 refine ⟨_,ν',.pointer (some ⟨w.heap.size,0,none⟩),.inl ?_,.ptr k4 (Nat.le_refl _) rfl fun _=>⟨Nat.zero_le _,Nat.zero_le _,Nat.one_pos,by simp⟩,k1,k2,ziF eh rfl rfl rfl _,k3⟩
 simp [execOp,e,hu,Instr.box,newVar,newRow]
theorem zA0 {a:Act} {w:World} {M:Nat→Prop} {ν:Nu} {fr:Fr} (hf:FrR w M ν fr a.tmps) {pl:Nat→Option (Nat×Nat)}:∀ {qs:List (Nat×Operand)} {ps:List (Nat×Nat×O)},mBs pl qs ps=true→qs.length=ps.length ∧
  ∀ i (hi:i<ps.length) (hi':i<qs.length),pl qs[i].1=some (ps[i].1,ps[i].2.1)∧Rel w M ν (ps[i].2.2.ev fr) (a.eval qs[i].2)
 | [],[],_=>⟨rfl,fun i hi=>by simp at hi⟩
 | [],_::_,h=>by simp [mBs] at h
 | _::_,[],h=>by simp [mBs] at h
 | q::qs,p::ps,h=>by
  simp only [mBs,Bool.and_eq_true] at h
  obtain ⟨⟨h1,h2⟩,h3⟩:=h
  obtain ⟨k1,k2⟩:=zA0 hf h3
  refine ⟨by simp [k1],fun i hi hi'=>?_⟩
  cases i with
  | zero=>
   simp only [List.getElem_cons_zero]
   refine ⟨?_,zaM hf h2⟩
   split at h1<;>try contradiction
   rename_i off sz e
   simp only [Bool.and_eq_true,beq_iff_eq] at h1
   rw [e,h1.1,h1.2]
  | succ i=>
   simp only [List.getElem_cons_succ]
   exact k2 i (by simpa using hi) (by simpa using hi')
theorem zAX {a:Act} {w:World} {M:Nat→Prop} {ν:Nu} {fr:Fr} (hf:FrR w M ν fr a.tmps):∀ {qs:List (Nat×Operand)} {ps:List (Nat×O)},mEs qs ps=true→qs.length=ps.length ∧
  ∀ i (hi:i<ps.length) (hi':i<qs.length),qs[i].1=ps[i].1∧Rel w M ν (ps[i].2.ev fr) (a.eval qs[i].2)
 | [],[],_=>⟨rfl,fun i hi=>by simp at hi⟩
 | [],_::_,h=>by simp [mEs] at h
 | _::_,[],h=>by simp [mEs] at h
 | q::qs,p::ps,h=>by
  simp only [mEs,Bool.and_eq_true,beq_iff_eq] at h
  obtain ⟨⟨h1,h2⟩,h3⟩:=h
  obtain ⟨k1,k2⟩:=zAX hf h3
  refine ⟨by simp [k1],fun i hi hi'=>?_⟩
  cases i with
  | zero=>exact ⟨h1,zaM hf h2⟩
  | succ i=>
   simp only [List.getElem_cons_succ]
   exact k2 i (by simpa using hi) (by simpa using hi')
theorem zud:∀ {ps:List (Nat×Nat×V)} {xs xs':List V},znD xs ps=some xs'→∀ p∈ps,p.2.2≠.und∧∀ ys,p.2.2≠.tup ys
 | [],_,_,_=>by simp
 | (off,sz,v)::r,xs,xs',h=>by
  simp only [znD] at h
  split at h<;>try contradiction
  rename_i hg
  split at h<;>try contradiction
  intro p hp
  rcases List.mem_cons.1 hp with rfl|hp
  ·exact ⟨fun e=>by
    have:=hg.2.1
    simp only at e
    rw [e] at this
    simp [V.isUnd] at this,fun ys e=>by
    have:=hg.2.2
    simp only at e
    rw [e] at this
    simp [V.isTup] at this⟩
  ·exact zud h p hp
theorem s_bld {z:List V} {ps:List (Nat×Nat×O)}:Sound P (.bld z ps):=by
 intro o a w M ν h fr nid v wv hm hf hh hn hle hd he
 simp only [mI] at hm
 split at hm<;>try contradiction
 rename_i t qs e
 simp only [Bool.and_eq_true] at hm
 obtain ⟨h1,h2⟩:=hm
 split at h1<;>try contradiction
 rename_i pl hpl
 split at h2<;>try contradiction
 rename_i it hit
 split at h2<;>try contradiction
 rename_i zv hzv
 obtain ⟨k1,k2⟩:=zA0 hf h1
 simp only [op1,Option.map_eq_some_iff,Prod.mk.injEq] at he
 obtain ⟨cs,hfl,rfl,rfl⟩:=he
 have hzr:=zAq (w:=w) (M:=M) (ν:=ν) h2
 obtain ⟨c0,rfl,_⟩:=hzr.agg_inv
 obtain ⟨cs',r1,r2⟩:=zt3 (place:=pl) (qs:=(qs.toList.map fun q=>(q.1,a.eval q.2))) hzr hfl (by simp [k1]) (fun i hi hi'=>by
  have h1:i<ps.length:=by simpa using hi
  have h2:i<qs.toList.length:=by simpa using hi'
  obtain ⟨m1,m2⟩:=k2 i h1 h2
  obtain ⟨m3,m4⟩:=zud hfl (ps.map fun p=>(p.1,p.2.1,p.2.2.ev fr))[i] (List.getElem_mem hi)
  simp only [List.getElem_map] at m3 m4 ⊢
  exact ⟨m1,m2,m3,m4⟩)
 refine .pure hh (u:=.agg cs') ?_ r2
 have hb:P.built t ((qs.map fun (p:Nat×Operand)=>(p.1,a.eval p.2)).toList)=some cs':=by
  unfold Program.built
  unfold places at hpl
  split at hpl<;>try contradiction
  ·rename_i fs hu
   split at hpl<;>try contradiction
   rename_i l hl
   cases hpl
   simp only [hit,hu,hzv,hl]
   rw [←r1]
   simp [Value.cells]
  ·rename_i n e' hu
   split at hpl<;>try contradiction
   rename_i ie hie
   cases hpl
   simp only [hit,hu,hzv,hie]
   rw [←r1]
   simp [Value.cells]
 have:=run_build w t _ _ hb
 simp [execOp,e,this]
theorem ztY:∀ {ps:List (Nat×V)} {xs xs':List V},zia xs ps=some xs'→∀ p∈ps,p.2≠.und∧∀ ys,p.2≠.tup ys
 | [],_,_,_=>by simp
 | (i,v)::r,xs,xs',h=>by
  simp only [zia] at h
  split at h<;>try contradiction
  split at h<;>try contradiction
  rename_i hg
  intro p hp
  rcases List.mem_cons.1 hp with rfl|hp
  ·exact ⟨fun e=>by
    have:=hg.2.1
    simp only at e
    rw [e] at this
    simp [V.isUnd] at this,fun ys e=>by
    have:=hg.2.2
    simp only at e
    rw [e] at this
    simp [V.isTup] at this⟩
  ·exact ztY h p hp
theorem zzG {o:Oper} {a:Act} {w:World} {M:Nat→Prop} {ν:Nu} {fr:Fr} {z:V} {n:Nat} {ps:List (Nat×O)} (hm:mI P o.op (.bsl z n ps)=true) (hf:FrR w M ν fr a.tmps) {xs:List V} (hfl:zia (List.replicate n z) (ps.map fun p=>(p.1,p.2.ev fr))=some xs) :
  ∃ et cs',(execOp a.eval o).run P w=.ok (.value (.slice (some ⟨w.heap.size,0,none⟩) n n)) (w.alloc (.cells cs' et))∧Cells w M ν z.size xs cs'∧xs.length=n∧0<z.size:=by
 simp only [mI] at hm
 split at hm<;>try contradiction
 rename_i t len qs e
 simp only [Bool.and_eq_true,beq_iff_eq,decide_eq_true_eq] at hm
 obtain ⟨⟨⟨rfl,h1⟩,h2⟩,h3⟩:=hm
 split at h1<;>try contradiction
 rename_i et het
 obtain ⟨i,u,hi,hz,hs,h0,hc,g1,g2,hr⟩:=zws h1
 obtain ⟨k1,k2⟩:=zAX hf h3
 have hC0:Cells w M ν z.size (List.replicate len z) (madeCells u.cells (len*z.size)):=⟨by simp [madeCells],fun j hj=>by
  have:=zt7 (w:=w) (M:=M) (ν:=ν) hr g1 g2 len len z.size hc h0 (Nat.le_refl _) j hj
  exact this⟩
 obtain ⟨cs',r1,r2,r3⟩:=zte h0 (qs:=(qs.toList.map fun q=>(q.1,a.eval q.2))) hC0 hfl (by simp [k1]) (fun i hi hi'=>by
  have h1:i<ps.length:=by simpa using hi
  have h2:i<qs.toList.length:=by simpa using hi'
  obtain ⟨m1,m2⟩:=k2 i h1 h2
  obtain ⟨m3,m4⟩:=ztY hfl (ps.map fun p=>(p.1,p.2.ev fr))[i] (List.getElem_mem hi)
  simp only [List.getElem_map] at m3 m4 ⊢
  exact ⟨m1,m2,m3,m4⟩)
 have hlen:xs.length=len:=by rw [r3];simp
 refine ⟨et,cs',?_,r2,hlen,h0⟩
 have hsmall:¬len*i.size>2 ^ 24:=by rw [hs];omega
 have hsz:∀ w:World,(sizeOf et).run P w=.ok z.size w:=fun w=>by rw [←hs];exact zcN hi
 have hzz:∀ w:World,(zeroValue et).run P w=.ok u w:=fun w=>by simp [zeroValue,run_typeInfo w hi,hz]
 rw [hs] at hsmall
 by_cases hp:len*z.size=0
 ·have hl0:len=0:=by
   rcases Nat.mul_eq_zero.1 hp with h|h
   ·exact h
   ·omega
  subst hl0
  have e1:∀ f:Nat→Value,Array.map f (Array.range 0)=#[]:=fun f=>Array.eq_empty_of_size_eq_zero (by simp)
  rw [show madeCells u.cells (0*z.size)=#[] from Array.eq_empty_of_size_eq_zero (by simp [madeCells])] at r1
  simp [e1,execOp,e,Instr.buildSlice,run_underlying (zd1 het),hsz,newRow,r1]
 ·simp only [madeCells] at r1
  have r1':Instr.fill (fun i=>some (i*z.size,z.size)) ((Array.range (len*z.size)).map (u.cells[· % u.cells.size]!)) ((qs.map fun (p:Nat×Operand)=>(p.1,a.eval p.2)).toList)=some cs':=by
   rw [←r1]
   simp
  have hrun:=run_buildSlice (P:=P) w t et len (qs.map fun (p:Nat×Operand)=>(p.1,a.eval p.2)) cs' i u (zd1 het) hi hz (by rw [hs];exact hsmall) (by rw [hs];exact hp) (by rw [hs];exact r1')
  simp [execOp,e,hrun]
theorem s_bsl {z:V} {n:Nat} {ps:List (Nat×O)}:Sound P (.bsl z n ps):=by
 intro o a w M ν h fr nid v wv hm hf hh hn hle hd he
 simp only [op1,Option.map_eq_some_iff,Prod.mk.injEq] at he
 obtain ⟨xs,hfl,rfl,rfl⟩:=he
 obtain ⟨et,cs',hrun,r2,hlen,h0⟩:=zzG hm hf hfl
 have eh:(w.alloc (.cells cs' et)).heap=w.heap.push (.cells cs' et):=rfl
 obtain ⟨ν',q1,q2,q3,q4⟩:=zqK hh hn hle hd eh (xs:=xs) (sz:=z.size) (cap:=n) (by rw [r2.size,hlen]) (fun o _=>by simp) h0 (by omega) r2.el
 exact ⟨_,ν',.slice (some ⟨w.heap.size,0,none⟩) n n,.inl hrun,.own q4 (by simp only;omega) rfl fun _=>⟨Nat.zero_le _,Nat.zero_le _,by omega,by simp only;omega,some ⟨w.heap.size,0,none⟩,by simp,fun _=>by simp⟩,q1,q2,ziF eh rfl rfl rfl _,q3⟩
theorem s_mks {bytes:Nat} {z:V} {x y:O}:Sound P (.mks bytes z x y):=by
 intro o a w M ν h fr nid v wv hm hf hh hn hle hd he
 simp only [mI] at hm
 split at hm<;>try contradiction
 rename_i t x' y' e
 simp only [Bool.and_eq_true] at hm
 obtain ⟨⟨h1,hx⟩,hy⟩:=hm
 split at h1<;>try contradiction
 rename_i et het
 simp only [Bool.and_eq_true] at h1
 obtain ⟨i,u,hi,hz,hs,h0,hc,g1,g2,hr⟩:=zws h1.1
 obtain ⟨i',hi',hb⟩:=zz9 h1.2
 rw [hi] at hi'
 cases hi'
 have hx:=zaM hf hx
 have hy:=zaM hf hy
 simp only [op1] at he
 split at he<;>try contradiction
 rename_i k n k' m ex ey
 rw [ex] at hx
 rw [ey] at hy
 split at he<;>try contradiction
 rename_i hb1
 cases he
 obtain ⟨b1,b2,b3,b4⟩:=hb1
 have hrun:=run_make (P:=P) w t et i u (zd1 het) hi hz k k' n m b1 b2 (by rw [hb,Int.mul_comm];omega) (by omega)
 rw [hs] at hrun
 have eh:(w.alloc (.cells (madeCells u.cells (m.toNat*z.size)) et)).heap=w.heap.push (.cells (madeCells u.cells (m.toNat*z.size)) et):=rfl
 obtain ⟨ν',q1,q2,q3,q4⟩:=zqK hh hn hle hd eh (xs:=List.replicate n.toNat z) (sz:=z.size) (cap:=m.toNat) (by simp [madeCells]) (fun o _=>by simp) h0 (by simp;omega)
  (zt7 (w:=w) (M:=M) (ν:=ν) hr g1 g2 n.toNat m.toNat z.size hc h0 (by omega))
 refine ⟨_,ν',_,.inl (by simp [execOp,e,hx.int_inv,hy.int_inv,hrun];rfl),.own q4 (by simp) rfl fun _=>⟨Nat.zero_le _,Nat.zero_le _,by simp,by simp;omega,some ⟨w.heap.size,0,none⟩,by simp,fun _=>by simp⟩,q1,q2,ziF eh rfl rfl rfl _,q3⟩
variable {P:Program}
theorem s_s2b {x:O}:Sound P (.s2b x):=by
 intro o a w M ν h fr nid v wv hm hf hh hn hle hd he
 simp only [mI] at hm
 split at hm<;>try contradiction
 rename_i s d x' e
 simp only [Bool.and_eq_true] at hm
 obtain ⟨⟨h1,h2⟩,hx⟩:=hm
 split at h2<;>try contradiction
 rename_i et het
 obtain ⟨sd,hs⟩:=Option.isSome_iff_exists.1 h1
 have hx:=zaM hf hx
 simp only [op1] at he
 split at he<;>try contradiction
 rename_i l ex
 rw [ex] at hx
 cases he
 have hrun:=Lib.run_convert_string_bytes (P:=P) w s d et (⟨l.toArray⟩:ByteArray) hs (zd1 het) (zuk h2)
 have hz0:(⟨l.toArray⟩:ByteArray).size=l.length:=by simp [ByteArray.size]
 rw [hz0] at hrun
 have hge:l.length≤grownCap w l.length 0 et:=grownCap_ge w l.length 0 et
 generalize hG:grownCap w l.length 0 et=G at hrun hge
 have hcs:(Lib.bytesCells w et (⟨l.toArray⟩:ByteArray))=(l.map fun b=>Value.int .u8 b.toNat).toArray++Array.replicate (G-l.length) (.int .u8 0):=by
  simp [Lib.bytesCells,hz0,hG]
 have hsz:(Lib.bytesCells w et (⟨l.toArray⟩:ByteArray)).size=G:=by rw [hcs];simp;omega
 have eh:(Lib.bytesWorld w et (⟨l.toArray⟩:ByteArray)).heap=w.heap.push (.cells (Lib.bytesCells w et (⟨l.toArray⟩:ByteArray)) et (G,G+1)):=by
  apply Array.ext_getElem?
  intro k
  rcases Nat.lt_trichotomy k w.heap.size with hk|hk|hk
  ·rw [Lib.bytesWorld_at_old _ _ _ _ hk,Array.getElem?_push,if_neg (by omega)]
  ·subst hk
   rw [Lib.bytesWorld_at_new,hsz]
   simp
  ·rw [Array.getElem?_eq_none (by rw [Lib.bytesWorld_size];omega),Array.getElem?_eq_none (by simp;omega)]
 obtain ⟨ν',q1,q2,q3,q4⟩:=zqK hh hn hle hd eh (xs:=zfY l) (sz:=1) (cap:=G) (by rw [hsz];omega) (fun o ho=>by simp only;rw [hsz] at ho;omega) Nat.one_pos (by simpa [zfY] using hge) (fun j hj=>by
  have hj':j<l.length:=by simpa [zfY] using hj
  have e1:(zfY l)[j]=.int .u8 (l[j]).toNat:=by simp [zfY]
  rw [e1]
  refine ⟨by simp,by simp,.int .u8 (l[j]).toNat,.int,rfl,fun k hk=>?_⟩
  have:k=0:=by omega
  subst this
  rw [hcs,Array.getElem?_append_left (by simp;omega)]
  simp [hj',Value.cells])
 refine ⟨_,ν',.slice (some ⟨w.heap.size,0,none⟩) l.length G,.inl ?_,.own q4 (by simp [zfY]) rfl fun _=>⟨Nat.zero_le _,Nat.zero_le _,by omega,by simp only;omega,some ⟨w.heap.size,0,none⟩,by simp,fun _=>by simp⟩,q1,q2,ziF eh rfl rfl rfl _,q3⟩
 simp [execOp,e,hx.str_inv,hrun]
theorem zxR:∀ {xs:List V} {s:List UInt8},zDr xs=some s→xs.length=s.length∧∀ i (hi:i<xs.length) (hi':i<s.length),∃ n:Int,xs[i]=.int .u8 n∧s[i]=UInt8.ofNat n.toNat
 | [],s,h=>by
  simp only [zDr] at h
  cases h
  exact ⟨rfl,fun i hi=>by simp at hi⟩
 | x::r,s,h=>by
  unfold zDr at h
  split at h<;>try contradiction
  split at h<;>try contradiction
  rename_i n r' e _ s' hs
  cases e
  cases h
  obtain ⟨k1,k2⟩:=zxR hs
  refine ⟨by simp [k1],fun i hi hi'=>?_⟩
  cases i with
  | zero=>exact ⟨n,rfl,rfl⟩
  | succ i=>exact k2 i (by simpa using hi) (by simpa using hi')
theorem zAj {w:World} (f:Nat→Value) (body:Nat→ByteArray→Sem (ForInStep ByteArray)) (hb:∀ a y n,f a=.int .u8 n→body a y=pure (ForInStep.yield (y.push (UInt8.ofNat n.toNat)))):∀ (l:List Nat) (s:List UInt8) (acc:ByteArray),l.length=s.length→(∀ i (hi:i<l.length) (hi':i<s.length),∃ n:Int,f l[i]=.int .u8 n∧s[i]=UInt8.ofNat n.toNat) →
  (forIn (m:=Sem) l acc body).run P w=.ok ⟨acc.data++s.toArray⟩ w
 | [],s,acc,hl,_=>by
  have:s=[]:=List.length_eq_zero_iff.1 hl.symm
  subst this
  simp
 | c::l,[],acc,hl,_=>by simp at hl
 | c::l,b::s,acc,hl,he=>by
  obtain ⟨n,e1,e2⟩:=he 0 (by simp) (by simp)
  simp only [List.getElem_cons_zero] at e1 e2
  subst e2
  have:=zAj (w:=w) f body hb l s (acc.push (UInt8.ofNat n.toNat)) (by simpa using hl) (fun i hi hi'=>by
   have:=he (i+1) (by simpa using hi) (by simpa using hi')
   simp only [List.getElem_cons_succ] at this
   exact this)
  simp only [List.forIn_cons,hb _ _ _ e1,Sem.run_bind,Sem.run_pure,Result.andThen_ok,this]
  congr 2
  simp [ByteArray.push]
theorem s_b2s {x:O}:Sound P (.b2s x):=by
 intro o a w M ν h fr nid v wv hm hf hh hn hle hd he
 simp only [mI] at hm
 split at hm<;>try contradiction
 rename_i s d x' e
 simp only [Bool.and_eq_true] at hm
 obtain ⟨⟨h1,h2⟩,hx⟩:=hm
 split at h2<;>try contradiction
 rename_i et het
 have hx:=zaM hf hx
 simp only [op1] at he
 split at he<;>try contradiction
 rename_i z xs hel
 simp only [Option.map_eq_some_iff,Prod.mk.injEq] at he
 obtain ⟨l,hl,rfl,rfl⟩:=he
 refine .pure hh (u:=.string ⟨l.toArray⟩) ?_ .str
 obtain ⟨k1,k2⟩:=zxR hl
 generalize hu:a.eval x'=u at hx
 obtain ⟨ad,c,rfl,hc,hm⟩:=zfj hh hx hel
 by_cases hxs:xs=[]
 ·subst hxs
  have:l=[]:=List.length_eq_zero_iff.1 k1.symm
  subst this
  cases ad with
  | none=>simp [execOp,e,hu,convert,run_underlying (zd1 het),run_underlying (zkR h1),run_underlying (zuk h2),Conv.bytesToString];rfl
  | some ad=>
   have:=run_loadCells (P:=P) w ad 0 (fun _=>undef) (fun j hj=>by omega)
   simp [execOp,e,hu,convert,run_underlying (zd1 het),run_underlying (zkR h1),run_underlying (zuk h2),Conv.bytesToString,this]
   rfl
 ·obtain ⟨hz,b,q,rfl,hel2⟩:=hm hxs
  have hz1:z=1:=by
   have h0:0<xs.length:=by
    cases xs with
    | nil=>exact absurd rfl hxs
    | cons=>simp
   obtain ⟨g1,g2,u,g3,g4,g5⟩:=hel2 0 h0
   obtain ⟨n,e1,_⟩:=k2 0 h0 (by omega)
   rw [e1] at g3
   rw [g3.int_inv] at g4
   simpa [Value.cells] using g4.symm
  subst hz1
  have hcell:∀ j (hj:j<xs.length),∃ n:Int,xs[j]=.int .u8 n∧l[j]'(by omega)=UInt8.ofNat n.toNat∧w.cell? ⟨b,q+j,none⟩=some (.int .u8 n):=by
   intro j hj
   obtain ⟨g1,g2,u,g3,g4,g5⟩:=hel2 j hj
   obtain ⟨n,e1,e2⟩:=k2 j hj (by omega)
   rw [e1] at g3
   rw [g3.int_inv] at g5
   refine ⟨n,e1,e2,?_⟩
   have:=g5 0 (by omega)
   simpa [Value.cells] using this
  have hload:=run_loadCells (P:=P) w ⟨b,q,none⟩ xs.length (fun j=>(w.cell? ⟨b,q+j,none⟩).getD undef) (fun j hj=>by
   obtain ⟨n,_,_,h3⟩:=hcell j hj
   rw [zfb,h3]
   rfl)
  have hrun:=fun body hb=>zAj (P:=P) (w:=w) (fun j=>(w.cell? ⟨b,q+j,none⟩).getD undef) body hb (List.range xs.length) l ByteArray.empty (by simp [k1]) (fun i hi hi'=>by
   have hi2:i<xs.length:=by simpa using hi
   obtain ⟨n,_,h2,h3⟩:=hcell i hi2
   exact ⟨n,by simp [h3],h2⟩)
  have e0:(ByteArray.empty.data++l.toArray)=l.toArray:=by simp
  rw [e0] at hrun
  simp [execOp,e,hu,convert,run_underlying (zd1 het),run_underlying (zkR h1),run_underlying (zuk h2),Conv.bytesToString,hload]
  rw [hrun _ (fun a y n e=>by simp only [e])]
  simp
theorem s_ixs {x y:O}:Sound P (.ixs x y):=by
 intro o a w M ν h fr nid v wv hm hf hh hn hle hd he
 simp only [mI] at hm
 split at hm<;>try contradiction
 rename_i t x' y' e
 simp only [Bool.and_eq_true] at hm
 obtain ⟨⟨h1,hx⟩,hy⟩:=hm
 have hx:=zaM hf hx
 have hy:=zaM hf hy
 simp only [op1] at he
 split at he<;>try contradiction
 rename_i s k n ex ey
 rw [ex] at hx
 rw [ey] at hy
 split at he<;>try contradiction
 rename_i h0
 split at he<;>try contradiction
 rename_i b hb
 cases he
 refine .pure hh (u:=.int .u8 b.toNat) ?_ .int
 have hg:(⟨s.toArray⟩:ByteArray)[n.toNat]? = some b:=by
  obtain ⟨hlt,rfl⟩:=List.getElem?_eq_some_iff.1 hb
  have hlt2:n.toNat<(⟨s.toArray⟩:ByteArray).size:=by simpa [ByteArray.size] using hlt
  rw [getElem?_pos (⟨s.toArray⟩:ByteArray) n.toNat hlt2]
  rfl
 simp [execOp,e,hx.str_inv,hy.int_inv,Instr.index,asIntOf,run_underlying (zkR h1),h0,hg]
theorem s_slen {x:O}:Sound P (.slen x):=by
 intro o a w M ν h fr nid v wv hm hf hh hn hle hd he
 simp only [mI] at hm
 split at hm<;>try contradiction
 rename_i x' t e
 simp only [Bool.and_eq_true] at hm
 have hx:=zaM hf hm.2
 simp only [op1] at he
 split at he<;>try contradiction
 rename_i s ex
 rw [ex] at hx
 cases he
 refine .pure hh (u:=.int .i64 s.length) ?_ .int
 have hu:=hx.str_inv
 have hz0:(⟨s.toArray⟩:ByteArray).size=s.length:=by simp [ByteArray.size]
 generalize (⟨s.toArray⟩:ByteArray)=b at hu hz0
 simp [execOp,e,resolve,invoke,builtin,hu,Builtin.len_,run_underlying (zkR hm.1),goInt,hz0]
theorem s_len {x:O}:Sound P (.len x):=by
 intro o a w M ν h fr nid v wv hm hf hh hn hle hd he
 simp only [mI] at hm
 split at hm<;>try contradiction
 rename_i x' t e
 simp only [Bool.and_eq_true] at hm
 have hx:=zaM hf hm.2
 obtain ⟨et,het⟩:=Option.isSome_iff_exists.1 hm.1
 generalize hu:a.eval x'=u at hx
 have run:∀ ad n c,u=.slice ad n c→(execOp a.eval o).run P w=.ok (.value (.int .i64 n)) w:=by
  rintro ad n c rfl
  simp [execOp,e,resolve,invoke,builtin,hu,Builtin.len_,run_underlying (zd1 het),goInt]
 simp only [op1] at he
 split at he<;>try contradiction
 ·rename_i z xs ex
  rw [ex] at hx
  cases he
  obtain ⟨ad,c,rfl,_⟩:=zfj hh hx (z:=z) (ys:=xs) rfl
  exact .pure hh (run _ _ _ rfl) .int
 ·rename_i z ex
  rw [ex] at hx
  cases he
  obtain ⟨ad,c,rfl,_⟩:=zfj hh hx (z:=z) (ys:=[]) rfl
  exact .pure hh (run _ _ _ rfl) .int
 ·rename_i id off len tot ex
  rw [ex] at hx
  split at he<;>try contradiction
  rename_i zx hr
  cases he
  obtain ⟨L,_,_,_,_,_,_,_,_,ad,rfl,_⟩:=hx.own_inv (z:=zx.1) (xs:=zx.2) hh hr
  exact .pure hh (run _ _ _ rfl) .int
theorem s_app {sz bytes:Nat} {x y:O}:Sound P (.app sz bytes x y):=by
 intro o a w M ν h fr nid v wv hm hf hh hn hle hd he
 simp only [mI] at hm
 split at hm<;>try contradiction
 rename_i x' y' t xt e
 simp only [Bool.and_eq_true,Bool.or_eq_true,decide_eq_true_eq] at hm
 obtain ⟨⟨⟨⟨h1,hzp⟩,h2⟩,hx⟩,hy⟩:=hm
 split at h1<;>try contradiction
 rename_i et het
 simp only [Bool.and_eq_true] at h1
 obtain ⟨⟨h1,h3⟩,h4⟩:=h1
 obtain ⟨i,hi,hsz⟩:=zgq h1
 obtain ⟨i',hi',hby⟩:=zz9 h4
 rw [hi] at hi'
 cases hi'
 unfold zsB at h3
 rw [hi] at h3
 simp only at h3
 split at h3<;>try contradiction
 rename_i zv hz
 have hzs:=beq_iff_eq.1 h3
 have hst:zyZ P xt:=by
  rcases h2 with h2|h2
  ·obtain ⟨e',he'⟩:=Option.isSome_iff_exists.1 h2
   exact .inl ⟨e',zd1 he'⟩
  ·exact .inr (zkR h2)
 have hx:=zaM hf hx
 have hy:=zaM hf hy
 have hrun:∀ u w',(Builtin.append_ #[t,xt] o.type #[a.eval x',a.eval y']).run P w=.ok u w'→(execOp a.eval o).run P w=.ok (.value u) w':=by
  intro u w' hr
  simp [execOp,e,resolve,invoke,builtin,hr]
 simp only [op1] at he
 split at he<;>try contradiction
 rename_i z ys hys
 split at he<;>try contradiction
 rename_i hzz
 subst hzz
 have hread:∃ cs,Cells w M ν z ys cs∧(Builtin.lenOf (a.eval y')).run P w=.ok ys.length w∧∀ w',w'.heap=w.heap→(Builtin.firstCells z ys.length (a.eval y')).run P w'=.ok cs w':=by
  unfold src at hys
  split at hys
  ·rename_i b eb
   cases hys
   rw [eb] at hy
   exact zw4 hy
  ·exact ztV hh hy hys
 obtain ⟨cs,hc,hl,hfc⟩:=hread
 have hcs0:ys=[]→cs=#[]:=fun e=>by
  subst e
  exact Array.eq_empty_of_size_eq_zero (by rw [hc.size];simp)
 split at he<;>try contradiction
 ·rename_i yz ex
  rw [ex] at hx
  generalize hu:a.eval x'=u at hx hrun
  cases hx with
  | nsl=>
   rename_i ad
   split at he
   ·rename_i hy0
    cases he
    have:=zxx (P:=P) (w:=w) (ty:=o.type) (s:=ad) (sLen:=0) (sCap:=0) (zd1 het) hst hi (by rw [hl,hy0];rfl) (by rw [hsz];have:=hfc w rfl;rw [hy0] at this;exact this) (hcs0 hy0) (Nat.le_refl _)
    exact .pure hh (hrun _ _ this) .nsl
   ·rename_i hy0
    split at he<;>try contradiction
    rename_i hb
    cases he
    have hpos:0<ys.length:=by
     cases ys with
     | nil=>exact absurd rfl hy0
     | cons=>simp
    have ho:(Builtin.firstCells i.size 0 (.slice ad 0 0)).run P w.drew=.ok #[] w.drew:=by
     cases ad with
     | none=>simp [Builtin.firstCells]
     | some ad=>
      have:=run_loadCells (P:=P) w.drew ad 0 (fun _=>undef) (fun j hj=>by omega)
      simp [Builtin.firstCells,this]
    have hrun2:=zyi (P:=P) (w:=w) (ty:=o.type) (s:=ad) (sLen:=0) (sCap:=0) (zd1 het) hst hi hz hl (by rw [hsz];exact hfc w.drew rfl) ho (by omega) (by omega) (by rw [hby,Nat.zero_add];omega)
    rw [Nat.zero_add] at hrun2
    have hge:=grownCap_ge w ys.length 0 et
    generalize hG:grownCap w ys.length 0 et=G at hrun2 hge
    have eh:(w.drew.alloc (.cells (#[]++cs++Builtin.zeroCells zv.cells (G-ys.length)) et)).heap=w.heap.push (.cells (#[]++cs++Builtin.zeroCells zv.cells (G-ys.length)) et):=rfl
    have hsize:(#[]++cs++Builtin.zeroCells zv.cells (G-ys.length)).size=G*z:=by
     simp only [Array.size_append,hc.size,zoN,hzs]
     simp only [List.size_toArray,List.length_nil,Nat.zero_add]
     rw [←Nat.add_mul]
     congr 1
     omega
    obtain ⟨ν',q1,q2,q3,q4⟩:=zqK hh hn hle hd eh (xs:=ys) (sz:=z) (cap:=G) hsize (fun o _=>by simp) hzp hge (fun j hj=>by
     obtain ⟨g1,g2,u,g3,g4,g5⟩:=hc.el j hj
     refine ⟨g1,g2,u,g3,g4,fun k hk=>?_⟩
     have hlt:j*z+k<cs.size:=by
      rw [hc.size]
      have:j*z+z≤ys.length*z:=by
       rw [←Nat.succ_mul]
       exact Nat.mul_le_mul_right _ (by omega)
      omega
     rw [Array.getElem?_append_left (by simp;omega)]
     simp only [Array.empty_append]
     exact g5 k hk)
    exact ⟨_,ν',_,.inl (hrun _ _ hrun2),.own q4 (Nat.le_refl _) rfl fun _=>⟨Nat.zero_le _,Nat.zero_le _,by omega,by simp only;omega,some ⟨w.heap.size,0,none⟩,by simp,fun _=>by simp⟩,q1,q2,⟨rfl,rfl,rfl,by rw [eh];simp,fun k hk _=>zoh eh k hk⟩,q3⟩
 ·rename_i id off len tot ex
  rw [ex] at hx
  split at he<;>try contradiction
  rename_i yz xs hr
  split at he
  ·rename_i hy0
   cases he
   obtain ⟨L,hL,ht,hrow,hlen,hd,hv0,hle2,hcap,ad,hu,had⟩:=hx.own_inv hh hr
   have:=zxx (P:=P) (w:=w) (ty:=o.type) (s:=ad) (sLen:=len) (sCap:=L.cap-(off-L.d)) (zd1 het) hst hi (by rw [hl,hy0];rfl) (by rw [hsz];have:=hfc w rfl;rw [hy0] at this;exact this) (hcs0 hy0) (by omega)
   rw [←hu] at this
   exact .pure hh (hrun _ _ this) hx
  ·rename_i hy0
   split at he
   ·rename_i hb
    cases he
    obtain ⟨rfl,hol,hb1,hb2⟩:=hb
    obtain ⟨w',ν',u,r1,r2,r3,r4,r5,r6⟩:=zD9 (P:=P) (ty:=o.type) hh hx hr hol hy0 hc hl hfc (zd1 het) hst hi hz hsz hzs (by rw [hby];exact hb1) hb2
    exact ⟨w',ν',u,.inl (hrun _ _ r1),r2,r3,r4,r5,r6⟩
   split at he<;>try contradiction
   rename_i hb
   cases he
   obtain ⟨rfl,hol⟩:=hb
   obtain ⟨w',ν',u,r1,r2,r3,r4,r5,r6⟩:=zBP (P:=P) (ty:=o.type) hh hx hr hol hy0 hc hl hfc (zd1 het) hst hi hsz
   exact ⟨w',ν',u,.inl (hrun _ _ r1),r2,r3,r4,r5,r6⟩
end Go.RR
namespace Go.RR
open Go.RowKit Go.MapKept
variable {P:Program}
theorem zA2 {t:TypeId} {n:Nat} {e:TypeId} (h:arB P t=some (n,e)):P.underlying t=some (.array n e):=by
 unfold arB at h
 split at h<;>try contradiction
 rename_i hu
 cases h
 exact hu
theorem zc9 {t k e:TypeId} (h:zAb P t=some (k,e)):P.underlying t=some (.map k e):=by
 unfold zAb at h
 split at h<;>try contradiction
 rename_i hu
 cases h
 exact hu
def KD (ks:Option IntKind) (d:TypeDesc):Prop:=(ks=none∧d=.string)∨∃ q,ks=some q∧d=.int q
theorem zrK {ks:Option IntKind} {t:TypeId} (h:zDa P ks t=true):∃ d,P.underlying t=some d∧KD ks d:=by
 unfold zDa at h
 split at h<;>try contradiction
 ·rename_i hu
  exact ⟨_,hu,.inl ⟨rfl,rfl⟩⟩
 ·rename_i q q' hu
  rw [beq_iff_eq.1 h]
  exact ⟨_,hu,.inr ⟨_,rfl,rfl⟩⟩
section
variable {w:World} {M:Nat→Prop} {ν:Nu} {h:List Ob}
theorem zof (hh:HR w M ν h) {v:V} {u:Value} (hv:Rel w M ν v u) (e:zgc h v=some none):u=.map none:=by
 unfold zgc at e
 split at e<;>try contradiction
 ·cases hv;rfl
 ·split at e<;>simp at e
theorem zfw (hh:HR w M ν h) {v:V} {u:Value} (hv:Rel w M ν v u) {id:Nat} {es:List (V×V×Nat)} {c:Nat} (e:zgc h v=some (some (id,es,c))) :
  v=.mp id∧∃ hi:id<h.length,h[id]=.map es c∧∃ L,ν id=some L∧HMap w M ν L es c∧u=.map (some L.b):=by
 unfold zgc at e
 split at e<;>try contradiction
 ·cases e
 rename_i id'
 split at e<;>try contradiction
 rename_i es' c' hx
 simp only [Option.some.injEq,Prod.mk.injEq] at e
 obtain ⟨rfl,rfl,rfl⟩:=e
 obtain ⟨hi,hx⟩:=List.getElem?_eq_some_iff.1 hx
 obtain ⟨L,h1,h2⟩:=hh.ob _ hi (by rw [hx];rfl)
 rw [hx] at h2
 refine ⟨rfl,hi,hx,L,h1,h2,?_⟩
 cases hv with
 | mp hv _ hm=>
  rw [h1] at hv
  cases hv
  rw [hm h2.tot,Lc.ref,if_pos h2.cap]
theorem zlH {ks:Option IntKind} {d:TypeDesc} (hd:KD ks d) {k:V} (hk:ziO ks k=true) {u:Value} (hr:Rel w M ν k u):IsKey d u:=by
 rcases hd with ⟨rfl,rfl⟩|⟨q,rfl,rfl⟩
 ·cases k<;>simp only [ziO,Bool.false_eq_true] at hk
  cases hr
  simp [IsKey]
 ·cases k<;>simp only [ziO,Bool.false_eq_true,beq_iff_eq] at hk
  cases hr
  simp [IsKey,hk]
theorem zwt {ks:Option IntKind} {d:TypeDesc} (hd:KD ks d) {k k':V} (hk:ziO ks k=true) {u u':Value} (hr:Rel w M ν k u) (hr':Rel w M ν k' u') {b:Bool} (e:ztr k k'=some b) :
  Instr.sameNow d u u'=some b∧(b=true→u'=u):=by
 have hk':ziO ks k'=true:=by
  unfold ztr at e
  split at e<;>try contradiction
  ·split at e<;>try contradiction
   rename_i hq
   rcases hd with ⟨rfl,rfl⟩|⟨q,rfl,rfl⟩
   ·simp [ziO] at hk
   ·simp only [ziO,beq_iff_eq] at hk ⊢
    rw [←hq];exact hk
  ·rcases hd with ⟨rfl,rfl⟩|⟨q,rfl,rfl⟩
   ·rfl
   ·simp [ziO] at hk
 obtain ⟨r,h1,h2⟩:=sameNow_of_keys (zlH hd hk hr) (zlH hd hk' hr')
 have h3:b=true↔u=u':=by
  unfold ztr at e
  split at e<;>try contradiction
  ·rename_i q a q' a'
   split at e<;>try contradiction
   rename_i hq
   subst hq
   cases e
   rw [hr.int_inv,hr'.int_inv]
   simp
  ·rename_i a a'
   cases e
   rw [hr.str_inv,hr'.str_inv]
   simp
 have h4:r=b:=by
  cases r<;>cases b<;>simp_all
 rw [h1,h4]
 exact ⟨rfl,fun h=>(h3.1 h).symm⟩
theorem zgn {ks:Option IntKind} {d:TypeDesc} (hd:KD ks d) {k:V} (hk:ziO ks k=true) {u:Value} (hr:Rel w M ν k u) :
  ∀ (es:List (V×V×Nat)) (ent:List MapEntry) (n:Nat) (r:Option (Nat×V)),ent.length=es.length→(∀ i (hi:i<es.length) (hi':i<ent.length),Rel w M ν es[i].1 ent[i].key)→mfind k es n=some r →
  (r=none→Instr.findNow d u ent n=some none)∧∀ i v,r=some (i,v)→n≤i∧∃ (hi:i-n<ent.length) (hi':i-n<es.length),Instr.findNow d u ent n=some (some (i,ent[i-n].val))∧es[i-n].2.1=v∧ent[i-n].key=u
 | [],[],n,r,_,_,e=>by
  simp only [mfind] at e
  cases e
  exact ⟨fun _=>rfl,fun i v h=>by cases h⟩
 | [],_::_,_,_,hl,_,_=>by simp at hl
 | _::_,[],_,_,hl,_,_=>by simp at hl
 | e0::es,x::ent,n,r,hl,hrel,e=>by
  have h0:=hrel 0 (by simp) (by simp)
  simp only [List.getElem_cons_zero] at h0
  simp only [mfind] at e
  split at e<;>try contradiction
  ·rename_i hq
   cases e
   obtain ⟨q1,q2⟩:=zwt hd hk hr h0 hq
   refine ⟨(fun h=>by cases h),fun i v h=>?_⟩
   cases h
   refine ⟨Nat.le_refl _,by simp,by simp,?_,by simp,by simpa using q2 rfl⟩
   simp [Instr.findNow,q1]
  ·rename_i hq
   obtain ⟨q1,q2⟩:=zwt hd hk hr h0 hq
   obtain ⟨r1,r2⟩:=zgn hd hk hr es ent (n+1) r (by simpa using hl) (fun i hi hi'=>by
    have:=hrel (i+1) (by simpa using hi) (by simpa using hi')
    simpa using this) e
   refine ⟨fun h=>by simp [Instr.findNow,q1,r1 h],fun i v h=>?_⟩
   obtain ⟨p0,p1,p2,p3,p4,p5⟩:=r2 i v h
   have e1:i-n=(i-(n+1))+1:=by omega
   refine ⟨by omega,by simp;omega,by simp;omega,?_,?_,?_⟩
   ·simp only [Instr.findNow,q1,p3]
    simp [e1]
   ·simp only [e1,List.getElem_cons_succ];exact p4
   ·simp only [e1,List.getElem_cons_succ];exact p5
theorem znI (hh:HR w M ν h) {id:Nat} (hid:id<h.length) {es es':List (V×V×Nat)} {c c':Nat} {L:Lc} (e:h[id]=.map es c) (hL:ν id=some L) (hm:HMap w M ν L es c) {ent':Array MapEntry} (hl:ent'.size=es'.length)
  (hr:∀ i (hi:i<es'.length),∃ e,ent'[i]? = some e∧Rel w M ν es'[i].1 e.key∧Rel w M ν es'[i].2.1 e.val∧e.born=es'[i].2.2) :
  ∃ ν',HR { w with heap:=w.heap.setIfInBounds L.b (.map ent' c') } M ν' (wr h (some (id,.map es' c')))∧ν.le ν'∧((∀ b,Mine ν' (wr h (some (id,.map es' c'))) b→Mine ν h b∨w.heap.size≤b)∧∀ i,(∀ y,some (id,Ob.map es' c')≠some (i,y))→ν' i=ν i)∧Stp w { w with heap:=w.heap.setIfInBounds L.b (.map ent' c') } (Mine ν h):=by
 have hlv:live h[id]=true:=by rw [e];rfl
 have hold:∀ k,k≠L.b→({ w with heap:=w.heap.setIfInBounds L.b (.map ent' c') }:World).heap[k]? = w.heap[k]?:=fun k hk=>by
  simp only
  rw [Array.getElem?_setIfInBounds_ne (Ne.symm hk)]
 have hsz:({ w with heap:=w.heap.setIfInBounds L.b (.map ent' c') }:World).heap.size=w.heap.size:=by simp
 have hMb:∀ b,M b→b≠L.b:=fun b hb e=>hm.mine (e▸hb)
 have hlt:L.b<w.heap.size:=by
  obtain ⟨ent,h1,_⟩:=hm.blk
  exact (Array.getElem?_eq_some_iff.1 h1).1
 have hle':ν.le (fun i=>if i=id then some L else ν i):=fun i L1 h1=>by
  by_cases e:i=id
  ·subst e
   rw [hL] at h1
   cases h1
   exact ⟨L,by simp,Nat.le_refl _,fun _=>rfl⟩
  ·exact ⟨L1,by simp [e,h1],Nat.le_refl _,fun _=>rfl⟩
 have:=HR.upd (x:=.map es' c') hh hid hlv hL (w':={ w with heap:=w.heap.setIfInBounds L.b (.map ent' c') }) (L':=L) (fun k _ hk=>hold k hk) (Nat.le_of_eq hsz.symm) (Nat.le_refl _) (fun _=>rfl) (.inl rfl)
  ⟨hm.tot,hm.cap,hm.mine,ent',by simp [hlt],hl,fun i hi=>by
   obtain ⟨x,h1,h2,h3,h4⟩:=hr i hi
   exact ⟨x,h1,h2.mono (fun b hb=>hold b (hMb b hb)) (fun _ hb=>hb) hle',h3.mono (fun b hb=>hold b (hMb b hb)) (fun _ hb=>hb) hle',h4⟩⟩
 refine ⟨_,this.1,this.2.1,this.2.2,rfl,rfl,rfl,Nat.le_of_eq hsz.symm,fun k _ hk=>hold k fun e=>hk ⟨id,hid,hlv,L,hL,e.symm⟩⟩
end
theorem zqh {ks:Option IntKind} {d:TypeDesc} (hd:KD ks d) {w:World} {M:Nat→Prop} {ν:Nu} {k:V} (hk:ziO ks k=true) {u:Value} (hr:Rel w M ν k u) (n:Nat):Instr.sameBits n u u=true:=by
 rcases hd with ⟨rfl,rfl⟩|⟨q,rfl,rfl⟩
 ·cases k<;>simp only [ziO,Bool.false_eq_true] at hk
  cases hr
  cases n<;>simp [Instr.sameBits,bytes_beq]
 ·cases k<;>simp only [ziO,Bool.false_eq_true] at hk
  cases hr
  cases n<;>simp [Instr.sameBits]
theorem ops1 {w:World} {M:Nat→Prop} {ν:Nu} {fr:Fr} {a:Act} (hf:FrR w M ν fr a.tmps) {x:Operand} {xs:List O} {v:V} (h:mOs [x] xs=true) (e:xs.map (O.ev fr)=[v]):Rel w M ν v (a.eval x):=by
 obtain ⟨h1,h2⟩:=zic hf h
 match xs,h1 with
 | [y],_=>
  have:=h2 0 (by simp)
  simp only [List.map_cons,List.map_nil,List.cons.injEq,and_true] at e
  simpa [e] using this
theorem ops2 {w:World} {M:Nat→Prop} {ν:Nu} {fr:Fr} {a:Act} (hf:FrR w M ν fr a.tmps) {x y:Operand} {xs:List O} {v1 v2:V} (h:mOs [x,y] xs=true) (e:xs.map (O.ev fr)=[v1,v2]):Rel w M ν v1 (a.eval x)∧Rel w M ν v2 (a.eval y):=by
 obtain ⟨h1,h2⟩:=zic hf h
 match xs,h1 with
 | [y1,y2],_=>
  have k1:=h2 0 (by simp)
  have k2:=h2 1 (by simp)
  simp only [List.map_cons,List.map_nil,List.cons.injEq,and_true] at e
  obtain ⟨e1,e2⟩:=e
  exact ⟨by simpa [e1] using k1,by simpa [e2] using k2⟩
theorem ops3 {w:World} {M:Nat→Prop} {ν:Nu} {fr:Fr} {a:Act} (hf:FrR w M ν fr a.tmps) {x y z:Operand} {xs:List O} {v1 v2 v3:V} (h:mOs [x,y,z] xs=true) (e:xs.map (O.ev fr)=[v1,v2,v3]):Rel w M ν v1 (a.eval x)∧Rel w M ν v2 (a.eval y)∧Rel w M ν v3 (a.eval z):=by
 obtain ⟨h1,h2⟩:=zic hf h
 match xs,h1 with
 | [y1,y2,y3],_=>
  have k1:=h2 0 (by simp)
  have k2:=h2 1 (by simp)
  have k3:=h2 2 (by simp)
  simp only [List.map_cons,List.map_nil,List.cons.injEq,and_true] at e
  obtain ⟨e1,e2,e3⟩:=e
  exact ⟨by simpa [e1] using k1,by simpa [e2] using k2,by simpa [e3] using k3⟩
theorem tup2 {w:World} {M:Nat→Prop} {ν:Nu} {v1 v2:V} {u1 u2:Value} (h1:Rel w M ν v1 u1) (h2:Rel w M ν v2 u2):Rel w M ν (.tup [v1,v2]) (.tuple #[u1,u2]):=
 .tup rfl fun i hi=>by
  rcases (show i=0∨i=1 by simp at hi;omega) with rfl|rfl
  ·exact h1
  ·exact h2
theorem tup0 {w:World} {M:Nat→Prop} {ν:Nu}:Rel w M ν (.tup []) (.tuple #[]):=.tup rfl fun i hi=>by simp at hi
theorem zu6 {w:World} {M:Nat→Prop} {ν:Nu} {v:V} {u:Value} {b ok:Bool} (h:Rel w M ν v u):Rel w M ν (lkr v b ok) (if ok then .tuple #[u,.bool b] else u):=by
 unfold lkr
 cases ok
 ·exact h
 ·exact tup2 h .bool
theorem zuh {t:TypeId} {z:V} (h:zB P t z=true):∃ u,(∀ w,(zeroValue t).run P w=.ok u w)∧∀ w M ν,Rel w M ν z u:=by
 obtain ⟨i,u,hi,hz,_,_,_,_,_,hr⟩:=zws h
 exact ⟨u,fun w=>by simp [zeroValue,run_typeInfo w hi,hz],hr⟩
theorem s_op {j:J} {xs:List O}:Sound P (.op j xs):=by
 intro o a w M ν h fr nid v wv hm hf hh hn hle hd he
 simp only [op1] at he
 generalize hvs:xs.map (O.ev fr)=vs at he
 cases j with
 | ixa n sz ag=>
  simp only [mI] at hm
  split at hm<;>try contradiction
  rename_i t x i e
  simp only [Bool.and_eq_true] at hm
  obtain ⟨h1,hx⟩:=hm
  split at h1<;>try contradiction
  rename_i n' el har
  simp only [Bool.and_eq_true,beq_iff_eq] at h1
  obtain ⟨⟨rfl,h2⟩,h3⟩:=h1
  simp only [opJ] at he
  split at he<;>try contradiction
  rename_i cs q k
  obtain ⟨r1,r2⟩:=ops2 hf hx hvs
  split at he<;>try contradiction
  rename_i hk
  simp only [Option.map_eq_some_iff,Prod.mk.injEq] at he
  obtain ⟨v',hp,rfl,rfl⟩:=he
  obtain ⟨ti,hti,hsz⟩:=zgq h2
  obtain ⟨vs',hu,hl,ho,hrel⟩:=r1.agg_inv
  obtain ⟨p1,p2⟩:=zrN r1 (by simp) (by simp) hp
  rw [hu] at p1 p2
  have hkn:0≤k∧k<(n':Int):=hk
  have hrun:∀ u,(Go.part el vs' (k.toNat*sz)).run P w=.ok u w→(execOp a.eval o).run P w=.ok (.value u) w:=fun u hu'=>by
   simp [execOp,e,Instr.index,hu,r2.int_inv,asIntOf,run_underlying (zA2 har),hkn,zcN hti,hsz,hu']
  cases ag with
  | true=>
   obtain ⟨q1,q2⟩:=p1 rfl
   refine .pure hh (u:=.agg (vs'.extract (k.toNat*sz) (k.toNat*sz+sz))) (hrun _ ?_) q2
   simp only [Value.cells] at q1
   simp [Go.part,zfE h3,zcN hti,hsz,q1]
  | false=>
   obtain ⟨c,q1,q2⟩:=p2 rfl
   refine .pure hh (u:=c) (hrun _ ?_) q2
   simp only [Value.cells] at q1
   simp [Go.part,zfE h3,q1]
 | iaa n sz=>
  simp only [mI] at hm
  split at hm<;>try contradiction
  rename_i t x i e
  simp only [Bool.and_eq_true] at hm
  obtain ⟨h1,hx⟩:=hm
  split at h1<;>try contradiction
  rename_i n' el har
  simp only [Bool.and_eq_true,beq_iff_eq] at h1
  obtain ⟨rfl,h2⟩:=h1
  obtain ⟨ti,hti,hsz⟩:=zgq h2
  simp only [opJ] at he
  have run:∀ (b q:Nat) (k:IntKind) (j:Int),a.eval x=.pointer (some ⟨b,q,none⟩)→a.eval i=.int k j→0≤j∧j<(n':Int)→(execOp a.eval o).run P w=.ok (.value (.pointer (some ⟨b,q+j.toNat*sz,none⟩))) w:=by
   intro b q k j hu hj hlt
   simp [execOp,e,hu,hj,Instr.indexAt,Instr.sureAddr,asIntOf,run_underlying (zA2 har),hlt,zcN hti,hsz,zfb]
  split at he<;>try contradiction
  ·rename_i y k q j
   obtain ⟨r1,r2⟩:=ops2 hf hx hvs
   split at he<;>try contradiction
   rename_i hlt
   cases he
   generalize hu:a.eval x=u at r1
   cases r1 with
   | pin hM hr g hm=>exact .pure hh (run _ _ _ _ hu r2.int_inv hlt) (by rw [Nat.add_assoc];exact .pin hM hr g hm)
  ·rename_i id ix k tot q j
   obtain ⟨r1,r2⟩:=ops2 hf hx hvs
   split at he<;>try contradiction
   rename_i hlt
   split at he<;>try contradiction
   rename_i z hr
   cases he
   obtain ⟨L,hL,ht,hrow,hlen,hd',hv0,hlt',hu⟩:=r1.ptr_inv hh hr
   exact .pure hh (run _ _ _ _ hu r2.int_inv hlt) (.ptr hL (Nat.le_of_eq ht.symm) rfl fun _=>⟨hd',hv0,hlt',by rw [Nat.add_assoc]⟩)
 | mkm=>
  simp only [mI] at hm
  split at hm<;>try contradiction
  rename_i t e
  simp only [opJ] at he
  split at he<;>try contradiction
  cases he
  have hold:∀ k,k<w.heap.size→(w.alloc (.map #[] 0)).heap[k]? = w.heap[k]?:=zoh rfl
  have hnew:(w.alloc (.map #[] 0)).heap[w.heap.size]? = some (.map #[] 0):=zn4 rfl
  have:=HR.add (x:=.map [] 0) (L:=⟨w.heap.size,0,0,0,0,0,default⟩) hh hn hle hd (w':=w.alloc (.map #[] 0)) hold (by show w.heap.size≤(w.heap.push _).size;simp) (Nat.le_refl _) ⟨rfl,rfl,fun hb=>Nat.lt_irrefl _ (hh.lt _ hb),#[],hnew,rfl,fun i hi=>by simp at hi⟩
  refine ⟨w.alloc (.map #[] 0),_,.map (some w.heap.size),.inl ?_,.mp (L:=⟨w.heap.size,0,0,0,0,0,default⟩) (by simp) rfl (fun _=>rfl),this.1,this.2.1,ziF (w:=w) (w1:=w.alloc (.map #[] 0)) (x:=.map #[] 0) rfl rfl rfl rfl _,this.2.2⟩
  simp [execOp,e,run_makeMap]
 | lku ks z ok=>
  simp only [mI] at hm
  split at hm<;>try contradiction
  rename_i t m k ok' e
  simp only [Bool.and_eq_true,beq_iff_eq] at hm
  obtain ⟨⟨rfl,h1⟩,hx⟩:=hm
  split at h1<;>try contradiction
  rename_i kt et hmt
  simp only [Bool.and_eq_true] at h1
  obtain ⟨d,hd1,hd2⟩:=zrK h1.1
  obtain ⟨zu,hz1,hz2⟩:=zuh h1.2
  simp only [opJ] at he
  split at he<;>try contradiction
  rename_i vm vk
  obtain ⟨r1,r2⟩:=ops2 hf hx hvs
  split at he<;>try contradiction
  rename_i hk
  have hik:=zlH hd2 hk r2
  split at he<;>try contradiction
  ·rename_i hmo
   cases he
   have hu:=zof hh r1 hmo
   refine .pure hh (u:=if ok' then .tuple #[zu,.bool false] else zu) ?_ (zu6 (hz2 _ _ _))
   have hck:=Go.MapKept.run_checkKey (P:=P) (w:=w) hd1 hik (#[]:Array MapEntry).isEmpty 9999
   simp only [Array.isEmpty_empty] at hck
   have hfk:=Go.MapKept.run_findKey (P:=P) (w:=w) (l:=[]) (k:=a.eval k) hd1 (show Instr.findNow d (a.eval k) [] 0=some none from rfl)
   simp [execOp,e,hu,Instr.lookup,run_underlying (zc9 hmt),hck,hfk,hz1]
  ·rename_i id es c hmo
   obtain ⟨rfl,hid,hx',L,hL,hmp,hu⟩:=zfw hh r1 hmo
   obtain ⟨ent,hb,hl,hel⟩:=hmp.blk
   have hgo:=Go.MapKept.run_getObj_map (P:=P) hb
   have hck:=Go.MapKept.run_checkKey (P:=P) (w:=w) hd1 hik ent.isEmpty 9999
   have hrel:∀ i (hi:i<es.length) (hi':i<ent.toList.length),Rel w M ν es[i].1 ent.toList[i].key:=fun i hi hi'=>by
    obtain ⟨x,p1,p2,_⟩:=hel i hi
    have:ent.toList[i]=x:=by
     have h':i<ent.size:=by simpa using hi'
     rw [Array.getElem?_eq_getElem h'] at p1
     simpa using p1
    rw [this];exact p2
   split at he<;>try contradiction
   ·rename_i i v' hfi
    cases he
    obtain ⟨_,k2⟩:=zgn hd2 hk r2 es ent.toList 0 _ (by simpa using hl) hrel hfi
    obtain ⟨_,hi,hi',p3,p4,p5⟩:=k2 i v' rfl
    simp only [Nat.sub_zero] at hi hi' p3 p4 p5
    have hfk:=Go.MapKept.run_findKey (P:=P) (w:=w) hd1 p3
    obtain ⟨x,q1,q2,q3,_⟩:=hel i hi'
    have hxx:ent.toList[i]=x:=by
     have h':i<ent.size:=by simpa using hi
     rw [Array.getElem?_eq_getElem h'] at q1
     simpa using q1
    rw [hxx] at hfk
    rw [p4] at q3
    refine .pure hh (u:=if ok' then .tuple #[x.val,.bool true] else x.val) ?_ (zu6 q3)
    simp [execOp,e,hu,Instr.lookup,run_underlying (zc9 hmt),hgo,hck,hfk]
   ·rename_i hfi
    cases he
    obtain ⟨k1,_⟩:=zgn hd2 hk r2 es ent.toList 0 _ (by simpa using hl) hrel hfi
    have hfk:=Go.MapKept.run_findKey (P:=P) (w:=w) hd1 (k1 rfl)
    refine .pure hh (u:=if ok' then .tuple #[zu,.bool false] else zu) ?_ (zu6 (hz2 _ _ _))
    simp [execOp,e,hu,Instr.lookup,run_underlying (zc9 hmt),hgo,hck,hfk,hz1]
 | mpu ks=>
  have key:∀ (t:TypeId) (m k x:Operand),(∀ w',(Instr.mapUpdate t (a.eval m) (a.eval k) (a.eval x)).run P w=.ok () w'→(execOp a.eval o).run P w=.ok .skip w')→((match zAb P t with|some (kt,_)=>zDa P ks kt|none=>false)&&mOs [m,k,x] xs)=true→OpOK P o a w M ν h v wv:=by
   intro t m k x hrun hm
   simp only [Bool.and_eq_true] at hm
   obtain ⟨h1,hx⟩:=hm
   split at h1<;>try contradiction
   rename_i kt et hmt
   obtain ⟨d,hd1,hd2⟩:=zrK h1
   simp only [opJ] at he
   split at he<;>try contradiction
   rename_i vm vk vx
   obtain ⟨r1,r2,r3⟩:=ops3 hf hx hvs
   split at he<;>try contradiction
   rename_i hk
   simp only [Bool.and_eq_true] at hk
   obtain ⟨⟨hk,_⟩,_⟩:=hk
   have hik:=zlH hd2 hk r2
   split at he<;>try contradiction
   rename_i id es c hmo
   obtain ⟨rfl,hid,hx',L,hL,hmp,hu⟩:=zfw hh r1 hmo
   obtain ⟨ent,hb,hl,hel⟩:=hmp.blk
   have hgo:=Go.MapKept.run_getObj_map (P:=P) hb
   have hck:=Go.MapKept.run_checkKey (P:=P) (w:=w) hd1 hik false 9999
   have hrel:∀ i (hi:i<es.length) (hi':i<ent.toList.length),Rel w M ν es[i].1 ent.toList[i].key:=fun i hi hi'=>by
    obtain ⟨x,p1,p2,_⟩:=hel i hi
    have:ent.toList[i]=x:=by
     have h':i<ent.size:=by simpa using hi'
     rw [Array.getElem?_eq_getElem h'] at p1
     simpa using p1
    rw [this];exact p2
   split at he<;>try contradiction
   ·rename_i i v' hfi
    cases he
    obtain ⟨_,k2⟩:=zgn hd2 hk r2 es ent.toList 0 _ (by simpa using hl) hrel hfi
    obtain ⟨_,hi,hi',p3,p4,p5⟩:=k2 i v' rfl
    simp only [Nat.sub_zero] at hi hi' p3 p4 p5
    have hfk:=Go.MapKept.run_findKey (P:=P) (w:=w) hd1 p3
    have hi2:i<ent.size:=by simpa using hi
    have hsb:=zqh hd2 hk r2 10000
    have hso:=Go.MapKept.run_setObj_map (P:=P) (.map (ent.modify i fun e=>{ e with key:=a.eval k,val:=a.eval x }) c) hb
    obtain ⟨ν',q1,q2,q3,q4⟩:=znI (c':=c) (es':=es.set i (vk,vx,zlJ es i)) (ent':=ent.modify i fun e=>{ e with key:=a.eval k,val:=a.eval x }) hh hid hx' hL hmp (by simp [hl]) (fun j hj=>by
     have hj':j<es.length:=by simpa using hj
     obtain ⟨y,s1,s2,s3,s4⟩:=hel j hj'
     rw [Array.getElem?_modify,s1]
     by_cases ej:i=j
     ·subst ej
      refine ⟨_,by simp;rfl,by simpa using r2,by simpa using r3,?_⟩
      simp [s4,zlJ,hj']
     ·refine ⟨y,by simp [ej],?_,?_,?_⟩
      ·rw [List.getElem_set_ne ej];exact s2
      ·rw [List.getElem_set_ne ej];exact s3
      ·rw [List.getElem_set_ne ej];exact s4)
    refine ⟨_,ν',undef,.inr ⟨hrun _ ?_,rfl⟩,.und,q1,q2,q4,q3⟩
    have hkk:((Option.map (fun (x:MapEntry)=>x.key) ent[i]?).getD (a.eval k))=a.eval k:=by
     rw [Array.getElem?_eq_getElem hi2]
     simpa using p5
    simp [hu,Instr.mapUpdate,run_underlying (zc9 hmt),hgo,hck,hfk,Instr.keyThatStays,hkk,hsb,hso]
   ·rename_i hfi
    cases he
    obtain ⟨k1,_⟩:=zgn hd2 hk r2 es ent.toList 0 _ (by simpa using hl) hrel hfi
    have hfk:=Go.MapKept.run_findKey (P:=P) (w:=w) hd1 (k1 rfl)
    have hso:=Go.MapKept.run_setObj_map (P:=P) (.map (ent.push { key:=a.eval k,val:=a.eval x,born:=c }) (c+1)) hb
    obtain ⟨ν',q1,q2,q3,q4⟩:=znI (c':=c+1) (es':=es++[(vk,vx,c)]) (ent':=ent.push { key:=a.eval k,val:=a.eval x,born:=c }) hh hid hx' hL hmp (by simp [hl]) (fun j hj=>by
     rcases Nat.lt_or_ge j es.length with hj'|hj'
     ·obtain ⟨y,s1,s2,s3,s4⟩:=hel j hj'
      have:j<ent.size:=by omega
      refine ⟨y,by rw [Array.getElem?_push_lt this,←Array.getElem?_eq_getElem this];exact s1,?_,?_,?_⟩
      ·rw [List.getElem_append_left hj'];exact s2
      ·rw [List.getElem_append_left hj'];exact s3
      ·rw [List.getElem_append_left hj'];exact s4
     ·have:j=es.length:=by simp at hj;omega
      subst this
      refine ⟨{ key:=a.eval k,val:=a.eval x,born:=c },by rw [←hl];simp,by simpa using r2,by simpa using r3,by simp⟩)
    refine ⟨_,ν',undef,.inr ⟨hrun _ ?_,rfl⟩,.und,q1,q2,q4,q3⟩
    simp [hu,Instr.mapUpdate,run_underlying (zc9 hmt),hgo,hck,hfk,hso]
  simp only [mI] at hm
  split at hm<;>try contradiction
  ·rename_i t m k x e
   exact key t m k x (fun w' hr=>by simp [execOp,e,hr]) hm
  ·rename_i t m k x e
   exact key t m k x (fun w' hr=>by simp [execOp,e,hr]) hm
 | mpe ks z=>
  simp only [mI] at hm
  split at hm<;>try contradiction
  rename_i t m k e
  simp only [Bool.and_eq_true] at hm
  obtain ⟨h1,hx⟩:=hm
  split at h1<;>try contradiction
  rename_i kt et hmt
  simp only [Bool.and_eq_true] at h1
  obtain ⟨d,hd1,hd2⟩:=zrK h1.1
  obtain ⟨zu,hz1,hz2⟩:=zuh h1.2
  simp only [opJ] at he
  split at he<;>try contradiction
  rename_i vm vk
  obtain ⟨r1,r2⟩:=ops2 hf hx hvs
  split at he<;>try contradiction
  rename_i hk
  have hik:=zlH hd2 hk r2
  split at he<;>try contradiction
  rename_i id es c hmo
  obtain ⟨rfl,hid,hx',L,hL,hmp,hu⟩:=zfw hh r1 hmo
  obtain ⟨ent,hb,hl,hel⟩:=hmp.blk
  have hgo:=Go.MapKept.run_getObj_map (P:=P) hb
  have hck:=Go.MapKept.run_checkKey (P:=P) (w:=w) hd1 hik false 9999
  have hrel:∀ i (hi:i<es.length) (hi':i<ent.toList.length),Rel w M ν es[i].1 ent.toList[i].key:=fun i hi hi'=>by
   obtain ⟨x,p1,p2,_⟩:=hel i hi
   have:ent.toList[i]=x:=by
    have h':i<ent.size:=by simpa using hi'
    rw [Array.getElem?_eq_getElem h'] at p1
    simpa using p1
   rw [this];exact p2
  split at he<;>try contradiction
  ·rename_i i v' hfi
   cases he
   obtain ⟨_,k2⟩:=zgn hd2 hk r2 es ent.toList 0 _ (by simpa using hl) hrel hfi
   obtain ⟨_,hi,hi',p3,p4,p5⟩:=k2 i v' rfl
   simp only [Nat.sub_zero] at hi hi' p3 p4 p5
   have hfk:=Go.MapKept.run_findKey (P:=P) (w:=w) hd1 p3
   have hi2:i<ent.size:=by simpa using hi
   have hsb:=zqh hd2 hk r2 10000
   have hso:=Go.MapKept.run_setObj_map (P:=P) (.map (ent.modify i fun e=>{ e with key:=a.eval k }) c) hb
   obtain ⟨y0,s1,s2,s3,s4⟩:=hel i hi'
   have hy0:ent[i]=y0:=by rw [Array.getElem?_eq_getElem hi2] at s1;exact Option.some.inj s1
   rw [p4] at s3
   obtain ⟨ν',q1,q2,q3,q4⟩:=znI (c':=c) (es':=es.set i (vk,v',zlJ es i)) (ent':=ent.modify i fun e=>{ e with key:=a.eval k }) hh hid hx' hL hmp (by simp [hl]) (fun j hj=>by
    have hj':j<es.length:=by simpa using hj
    obtain ⟨y,s1',s2',s3',s4'⟩:=hel j hj'
    rw [Array.getElem?_modify,s1']
    by_cases ej:i=j
    ·subst ej
     rw [s1] at s1'
     cases s1'
     refine ⟨_,by simp;rfl,by simpa using r2,by simpa using s3,?_⟩
     simp [s4,zlJ,hj']
    ·refine ⟨y,by simp [ej],?_,?_,?_⟩
     ·rw [List.getElem_set_ne ej];exact s2'
     ·rw [List.getElem_set_ne ej];exact s3'
     ·rw [List.getElem_set_ne ej];exact s4')
   have hbo:zlJ es i=y0.born:=by simp [zlJ,hi',s4]
   have hM:∀ b,M b→({ w with heap:=w.heap.setIfInBounds L.b (.map (ent.modify i fun e=>{ e with key:=a.eval k }) c) }:World).heap[b]? = w.heap[b]?:=fun b hb'=>by
    simp only
    rw [Array.getElem?_setIfInBounds_ne (fun e'=>hmp.mine (by rw [e'];exact hb'))]
   refine ⟨_,ν',.tuple #[y0.val,goInt y0.born],.inl ?_,tup2 (s3.mono hM (fun _ hb'=>hb') q2) (by rw [hbo];exact .int),q1,q2,q4,q3⟩
   have hkk:((Option.map (fun (x:MapEntry)=>x.key) ent[i]?).getD (a.eval k))=a.eval k:=by
    rw [Array.getElem?_eq_getElem hi2]
    simpa using p5
   have hbb:((Option.map (fun (x:MapEntry)=>x.born) ent[i]?).getD 0)=y0.born:=by
    rw [Array.getElem?_eq_getElem hi2,hy0];rfl
   have hvv:ent.toList[i].val=y0.val:=by rw [←hy0];simp
   have hyk:y0.key=a.eval k:=by rw [←hy0];simpa using p5
   simp [execOp,e,hu,Instr.mapEntry,run_underlying (zc9 hmt),hgo,hck,hfk,Instr.keyThatStays,hkk,hsb,hso,hbb,hvv,hy0,hi2,hyk]
  ·rename_i hfi
   cases he
   obtain ⟨k1,_⟩:=zgn hd2 hk r2 es ent.toList 0 _ (by simpa using hl) hrel hfi
   have hfk:=Go.MapKept.run_findKey (P:=P) (w:=w) hd1 (k1 rfl)
   have hso:=Go.MapKept.run_setObj_map (P:=P) (.map (ent.push { key:=a.eval k,val:=zu,born:=c }) (c+1)) hb
   obtain ⟨ν',q1,q2,q3,q4⟩:=znI (c':=c+1) (es':=es++[(vk,z,c)]) (ent':=ent.push { key:=a.eval k,val:=zu,born:=c }) hh hid hx' hL hmp (by simp [hl]) (fun j hj=>by
    rcases Nat.lt_or_ge j es.length with hj'|hj'
    ·obtain ⟨y,s1,s2,s3,s4⟩:=hel j hj'
     have:j<ent.size:=by omega
     refine ⟨y,by rw [Array.getElem?_push_lt this,←Array.getElem?_eq_getElem this];exact s1,?_,?_,?_⟩
     ·rw [List.getElem_append_left hj'];exact s2
     ·rw [List.getElem_append_left hj'];exact s3
     ·rw [List.getElem_append_left hj'];exact s4
    ·have:j=es.length:=by simp at hj;omega
     subst this
     refine ⟨{ key:=a.eval k,val:=zu,born:=c },by rw [←hl];simp,by simpa using r2,by simpa using hz2 _ _ _,by simp⟩)
   refine ⟨_,ν',.tuple #[zu,goInt c],.inl ?_,tup2 (hz2 _ _ _) .int,q1,q2,q4,q3⟩
   simp [execOp,e,hu,Instr.mapEntry,run_underlying (zc9 hmt),hgo,hck,hfk,hz1,hso]
 | ens=>
  simp only [mI] at hm
  split at hm<;>try contradiction
  rename_i t m s x e
  simp only [opJ] at he
  split at he<;>try contradiction
  rename_i vm q st vx
  obtain ⟨r1,r2,r3⟩:=ops3 hf hm hvs
  split at he<;>try contradiction
  split at he<;>try contradiction
  rename_i id es c hmo
  obtain ⟨rfl,hid,hx',L,hL,hmp,hu⟩:=zfw hh r1 hmo
  obtain ⟨ent,hb,hl,hel⟩:=hmp.blk
  have hgo:=Go.MapKept.run_getObj_map (P:=P) hb
  split at he<;>try contradiction
  rename_i i hfi
  split at he<;>try contradiction
  rename_i e0 he0
  cases he
  obtain ⟨hi',he0'⟩:=List.getElem?_eq_some_iff.1 he0
  have hi2:i<ent.size:=by omega
  have hbo:∀ j (hj:j<es.length) (hj':j<ent.size),ent[j].born=es[j].2.2:=fun j hj hj'=>by
   obtain ⟨y,s1,_,_,s4⟩:=hel j hj
   rw [Array.getElem?_eq_getElem hj'] at s1
   rw [Option.some.inj s1];exact s4
  have hfind:ent.findIdx? (fun e=>(e.born:Int)==st)=some i:=by
   obtain ⟨hlt,h1,h2⟩:=List.findIdx?_eq_some_iff_getElem.1 hfi
   rw [Array.findIdx?_eq_some_iff_getElem]
   refine ⟨hi2,?_,fun j hji=>?_⟩
   ·rw [hbo i hi' hi2];exact h1
   ·have:=h2 j hji
    rw [hbo j (by omega) (by omega)];exact this
  have hso:=Go.MapKept.run_setObj_map (P:=P) (.map (ent.modify i fun e=>{ e with val:=a.eval x }) c) hb
  obtain ⟨ν',q1,q2,q3,q4⟩:=znI (c':=c) (es':=es.set i (e0.1,vx,e0.2.2)) (ent':=ent.modify i fun e=>{ e with val:=a.eval x }) hh hid hx' hL hmp (by simp [hl]) (fun j hj=>by
   have hj':j<es.length:=by simpa using hj
   obtain ⟨y,s1,s2,s3,s4⟩:=hel j hj'
   rw [Array.getElem?_modify,s1]
   by_cases ej:i=j
   ·subst ej
    rw [he0'] at s2 s4
    refine ⟨_,by simp;rfl,by simpa using s2,by simpa using r3,by simpa using s4⟩
   ·refine ⟨y,by simp [ej],?_,?_,?_⟩
    ·rw [List.getElem_set_ne ej];exact s2
    ·rw [List.getElem_set_ne ej];exact s3
    ·rw [List.getElem_set_ne ej];exact s4)
  refine ⟨_,ν',undef,.inr ⟨?_,rfl⟩,.und,q1,q2,q4,q3⟩
  simp [execOp,e,hu,r2.int_inv,Instr.entryStore,asInt,asIntOf,hgo,hfind,hso]
 | mln=>
  simp only [mI] at hm
  split at hm<;>try contradiction
  rename_i x t e
  simp only [Bool.and_eq_true] at hm
  obtain ⟨h1,hx⟩:=hm
  obtain ⟨⟨kt,et⟩,hmt⟩:=Option.isSome_iff_exists.1 h1
  simp only [opJ] at he
  split at he<;>try contradiction
  rename_i vm
  have r1:=ops1 hf hx hvs
  split at he<;>try contradiction
  ·rename_i hmo
   cases he
   have hu:=zof hh r1 hmo
   refine .pure hh (u:=.int .i64 0) ?_ .int
   simp [execOp,e,resolve,invoke,builtin,Builtin.len_,hu,run_underlying (zc9 hmt),goInt]
  ·rename_i id es c hmo
   cases he
   obtain ⟨rfl,hid,hx',L,hL,hmp,hu⟩:=zfw hh r1 hmo
   obtain ⟨ent,hb,hl,hel⟩:=hmp.blk
   have hgo:=Go.MapKept.run_getObj_map (P:=P) hb
   refine .pure hh (u:=.int .i64 es.length) ?_ .int
   simp [execOp,e,resolve,invoke,builtin,Builtin.len_,hu,run_underlying (zc9 hmt),goInt,hgo,hl]
 | mdl ks=>
  simp only [mI] at hm
  split at hm<;>try contradiction
  rename_i m k t t2 e
  simp only [Bool.and_eq_true] at hm
  obtain ⟨h1,hx⟩:=hm
  split at h1<;>try contradiction
  rename_i kt et hmt
  obtain ⟨d,hd1,hd2⟩:=zrK h1
  simp only [opJ] at he
  split at he<;>try contradiction
  rename_i vm vk
  obtain ⟨r1,r2⟩:=ops2 hf hx hvs
  split at he<;>try contradiction
  rename_i hk
  have hik:=zlH hd2 hk r2
  split at he<;>try contradiction
  ·rename_i hmo
   cases he
   have hu:=zof hh r1 hmo
   have hck:=Go.MapKept.run_checkKey (P:=P) (w:=w) hd1 hik true 9999
   refine .pure hh (u:=.tuple #[]) ?_ tup0
   simp [execOp,e,resolve,invoke,builtin,Builtin.delete_,hu,run_underlying (zc9 hmt),hck]
  ·rename_i id es c hmo
   obtain ⟨rfl,hid,hx',L,hL,hmp,hu⟩:=zfw hh r1 hmo
   obtain ⟨ent,hb,hl,hel⟩:=hmp.blk
   have hgo:=Go.MapKept.run_getObj_map (P:=P) hb
   have hck:=Go.MapKept.run_checkKey (P:=P) (w:=w) hd1 hik ent.isEmpty 9999
   have hrel:∀ i (hi:i<es.length) (hi':i<ent.toList.length),Rel w M ν es[i].1 ent.toList[i].key:=fun i hi hi'=>by
    obtain ⟨x,p1,p2,_⟩:=hel i hi
    have:ent.toList[i]=x:=by
     have h':i<ent.size:=by simpa using hi'
     rw [Array.getElem?_eq_getElem h'] at p1
     simpa using p1
    rw [this];exact p2
   split at he<;>try contradiction
   ·rename_i i v' hfi
    cases he
    obtain ⟨_,k2⟩:=zgn hd2 hk r2 es ent.toList 0 _ (by simpa using hl) hrel hfi
    obtain ⟨_,hi,hi',p3,p4,p5⟩:=k2 i v' rfl
    simp only [Nat.sub_zero] at hi hi' p3 p4 p5
    have hfk:=Go.MapKept.run_findKey (P:=P) (w:=w) hd1 p3
    have hi2:i<ent.size:=by simpa using hi
    have hso:=Go.MapKept.run_setObj_map (P:=P) (.map (ent.eraseIdxIfInBounds i) c) hb
    have hers:ent.eraseIdxIfInBounds i=(ent.toList.eraseIdx i).toArray:=by
     unfold Array.eraseIdxIfInBounds
     rw [dif_pos hi2]
     apply Array.ext'
     simp
    obtain ⟨ν',q1,q2,q3,q4⟩:=znI (c':=c) (es':=es.eraseIdx i) (ent':=ent.eraseIdxIfInBounds i) hh hid hx' hL hmp (by rw [hers];simp [List.length_eraseIdx,hi',hi2,hl]) (fun j hj=>by
     rw [hers]
     simp only [List.getElem?_toArray,List.getElem?_eraseIdx,List.getElem_eraseIdx]
     have hjl:j<es.length-1:=by simpa [List.length_eraseIdx,hi'] using hj
     by_cases ej:j<i
     ·obtain ⟨y,s1,s2,s3,s4⟩:=hel j (by omega)
      exact ⟨y,by simp [ej,s1],by simpa [ej] using s2,by simpa [ej] using s3,by simpa [ej] using s4⟩
     ·obtain ⟨y,s1,s2,s3,s4⟩:=hel (j+1) (by omega)
      exact ⟨y,by simp [ej,s1],by simpa [ej] using s2,by simpa [ej] using s3,by simpa [ej] using s4⟩)
    refine ⟨_,ν',.tuple #[],.inl ?_,tup0,q1,q2,q4,q3⟩
    simp [execOp,e,resolve,invoke,builtin,Builtin.delete_,hu,run_underlying (zc9 hmt),hck,hgo,hfk,hso]
   ·rename_i hfi
    cases he
    obtain ⟨k1,_⟩:=zgn hd2 hk r2 es ent.toList 0 _ (by simpa using hl) hrel hfi
    have hfk:=Go.MapKept.run_findKey (P:=P) (w:=w) hd1 (k1 rfl)
    have hso:=Go.MapKept.run_setObj_map (P:=P) (.map ent c) hb
    obtain ⟨ν',q1,q2,q3,q4⟩:=znI (c':=c) (es':=es) (ent':=ent) hh hid hx' hL hmp hl hel
    refine ⟨_,ν',.tuple #[],.inl ?_,tup0,q1,q2,q4,q3⟩
    simp [execOp,e,resolve,invoke,builtin,Builtin.delete_,hu,run_underlying (zc9 hmt),hck,hgo,hfk,hso]
 | mcl=>
  simp only [mI] at hm
  split at hm<;>try contradiction
  rename_i x t e
  simp only [Bool.and_eq_true] at hm
  obtain ⟨h1,hx⟩:=hm
  obtain ⟨⟨kt,et⟩,hmt⟩:=Option.isSome_iff_exists.1 h1
  simp only [opJ] at he
  split at he<;>try contradiction
  rename_i vm
  have r1:=ops1 hf hx hvs
  split at he<;>try contradiction
  ·rename_i hmo
   cases he
   have hu:=zof hh r1 hmo
   refine .pure hh (u:=.tuple #[]) ?_ tup0
   simp [execOp,e,resolve,invoke,builtin,Builtin.clear_,hu,run_underlying (zc9 hmt)]
  ·rename_i id es c hmo
   cases he
   obtain ⟨rfl,hid,hx',L,hL,hmp,hu⟩:=zfw hh r1 hmo
   obtain ⟨ent,hb,hl,hel⟩:=hmp.blk
   have hgo:=Go.MapKept.run_getObj_map (P:=P) hb
   have hso:=Go.MapKept.run_setObj_map (P:=P) (.map #[] c) hb
   obtain ⟨ν',q1,q2,q3,q4⟩:=znI (c':=c) (es':=[]) (ent':=#[]) hh hid hx' hL hmp rfl (fun i hi=>by simp at hi)
   refine ⟨_,ν',.tuple #[],.inl ?_,tup0,q1,q2,q4,q3⟩
   simp [execOp,e,resolve,invoke,builtin,Builtin.clear_,hu,run_underlying (zc9 hmt),hgo,hso]
 | asr t z ok=>
  simp only [mI] at hm
  split at hm<;>try contradiction
  rename_i x xt t' ok' e
  simp only [Bool.and_eq_true,beq_iff_eq] at hm
  obtain ⟨⟨⟨⟨rfl,rfl⟩,hni⟩,hz⟩,hx⟩:=hm
  obtain ⟨zu,hz1,hz2⟩:=zuh hz
  obtain ⟨dd,hdd,hnd⟩:∃ d,P.underlying t'=some d∧∀ ms,d≠.interface ms:=by
   unfold zC1 at hni
   split at hni<;>try contradiction
   rename_i d hne hu
   exact ⟨d,hu,fun ms e=>hne ms e⟩
  simp only [opJ] at he
  split at he<;>try contradiction
  ·have r1:=ops1 hf hx hvs
   split at he<;>try contradiction
   rename_i hok
   cases he
   subst hok
   generalize hu:a.eval x=u at r1
   cases r1
   refine .pure hh (u:=.tuple #[zu,.bool false]) ?_ (tup2 (hz2 _ _ _) .bool)
   cases dd<;>first|exact absurd rfl (hnd _)|simp [execOp,e,hu,Instr.typeAssert,run_underlying hdd,hz1]
  ·rename_i t2 v2
   have r1:=ops1 hf hx hvs
   generalize hu:a.eval x=u at r1
   cases r1 with
   | ifc r2=>
    split at he<;>try contradiction
    ·rename_i ht
     subst ht
     cases he
     refine .pure hh (u:=if ok' then .tuple #[_,.bool true] else _) ?_ (zu6 r2)
     cases dd<;>first|exact absurd rfl (hnd _)|simp [execOp,e,hu,Instr.typeAssert,run_underlying hdd]
    ·rename_i ht
     split at he<;>try contradiction
     rename_i hok
     cases he
     subst hok
     refine .pure hh (u:=.tuple #[zu,.bool false]) ?_ (tup2 (hz2 _ _ _) .bool)
     cases dd<;>first|exact absurd rfl (hnd _)|simp [execOp,e,hu,Instr.typeAssert,run_underlying hdd,hz1,ht]
end Go.RR
namespace Go.RR
open Go.RowKit
variable {P:Program}
def OI (lo':Option Value) (lo:Option Int):Prop:=(lo'=none∧lo=none)∨∃ k n,lo'=some (.int k n)∧lo=some n
theorem znB {a:Act} {w:World} {M:Nat→Prop} {ν:Nu} {fr:Fr} (hf:FrR w M ν fr a.tmps) {x:Option Operand} {y:Option O} (h:mOo x y=true) {l:Option Int} (hl:oint (y.map (O.ev fr))=some l):OI (x.map a.eval) l:=by
 cases x with
 | none=>
  cases y with
  | none=>cases hl;exact .inl ⟨rfl,rfl⟩
  | some y=>cases h
 | some x=>
  cases y with
  | none=>cases h
  | some y=>
   have hr:=zaM hf (show mO x y=true from h)
   simp only [Option.map_some] at hl ⊢
   generalize y.ev fr=v at hl hr
   cases v<;>simp [oint] at hl
   rename_i k n
   subst hl
   exact .inr ⟨k,n,by rw [hr.int_inv],rfl⟩
theorem zgO {len:Nat} {lo hi:Option Int} {b:Nat×Nat} (h:bounds len lo hi=some b):0≤lo.getD 0∧lo.getD 0≤hi.getD len∧hi.getD len≤len∧b=((lo.getD 0).toNat,(hi.getD len).toNat):=by
 unfold bounds at h
 simp only at h
 split at h<;>try contradiction
 rename_i hb
 cases h
 exact ⟨hb.1,hb.2.1,hb.2.2,rfl⟩
theorem zvu {w:World} {isS:Bool} {len cap:Nat} (hc:len≤cap) {lo' hi':Option Value} {lo hi:Option Int} (h1:OI lo' lo) (h2:OI hi' hi) {b:Nat×Nat} (h:bounds len lo hi=some b) :
  (Instr.sliceBounds isS len cap lo' hi' none).run P w=.ok (b.1,b.2,cap) w∧b.1≤b.2∧b.2≤len:=by
 obtain ⟨g1,g2,g3,rfl⟩:=zgO h
 refine ⟨?_,by simp only;omega,by simp only;omega⟩
 rcases h1 with ⟨rfl,rfl⟩|⟨k1,n1,rfl,rfl⟩<;>rcases h2 with ⟨rfl,rfl⟩|⟨k2,n2,rfl,rfl⟩<;>simp only [Option.getD_some,Option.getD_none] at g1 g2 g3 ⊢
 ·simp [Instr.sliceBounds]
 ·have:0≤n2∧n2≤(cap:Int):=by omega
  simp [Instr.sliceBounds,Instr.sliceBound,asIntOf,this]
 ·have:0≤n1∧n1≤(len:Int):=by omega
  simp [Instr.sliceBounds,Instr.sliceBound,asIntOf,this]
 ·have e1:0≤n2∧n2≤(cap:Int):=by omega
  have e2:0≤n1∧n1≤((n2.toNat:Nat):Int):=by omega
  simp only [Instr.sliceBounds,Instr.sliceBound,asIntOf,Sem.run_bind,Sem.run_pure,Result.andThen_ok,if_pos e1,if_pos e2,Option.isSome_none,Bool.false_eq_true,if_false]
theorem zwS {w:World} {len cap:Nat} (hc:len≤cap) {lo':Option Value} {lo:Option Int} (h1:OI lo' lo) {k2 k3:IntKind} {r m:Int} (g1:0≤lo.getD 0) (g2:lo.getD 0≤r) (g3:r≤m) (g4:m≤len) :
  (Instr.sliceBounds true len cap lo' (some (.int k2 r)) (some (.int k3 m))).run P w=.ok ((lo.getD 0).toNat,r.toNat,m.toNat) w:=by
 have e3:0≤m∧m≤(cap:Int):=by omega
 have e2:0≤r∧r≤((m.toNat:Nat):Int):=by omega
 rcases h1 with ⟨rfl,rfl⟩|⟨k1,n1,rfl,rfl⟩<;>simp only [Option.getD_some,Option.getD_none] at g1 g2 g3 ⊢
 ·simp only [Instr.sliceBounds,Instr.sliceBound,asIntOf,Sem.run_bind,Sem.run_pure,Result.andThen_ok,if_pos e2,if_pos e3]
  rfl
 ·have e1:0≤n1∧n1≤((r.toNat:Nat):Int):=by omega
  simp only [Instr.sliceBounds,Instr.sliceBound,asIntOf,Sem.run_bind,Sem.run_pure,Result.andThen_ok,if_pos e1,if_pos e2,if_pos e3]
theorem s_sls {x:O} {lo hi:Option O}:Sound P (.sls x lo hi):=by
 intro o a w M ν h fr nid v wv hm hf hh hn hle hd he
 simp only [mI] at hm
 split at hm<;>try contradiction
 rename_i t x' lo' hi' e
 simp only [Bool.and_eq_true] at hm
 obtain ⟨⟨⟨h1,hx⟩,hlo⟩,hhi⟩:=hm
 have hx:=zaM hf hx
 simp only [op1] at he
 split at he<;>try contradiction
 rename_i s l r ex el er
 rw [ex] at hx
 simp only [Option.map_eq_some_iff,Prod.mk.injEq] at he
 obtain ⟨b,hb,rfl,rfl⟩:=he
 refine .pure hh (u:=.string ⟨((s.take b.2).drop b.1).toArray⟩) ?_ .str
 obtain ⟨hr,g1,g2⟩:=zvu (P:=P) (w:=w) (isS:=false) (Nat.le_refl _) (znB hf hlo el) (znB hf hhi er) hb
 have hu:=hx.str_inv
 have hz0:(⟨s.toArray⟩:ByteArray).size=s.length:=by simp [ByteArray.size]
 have hex:(⟨s.toArray⟩:ByteArray).extract b.1 b.2=⟨((s.take b.2).drop b.1).toArray⟩:=by
  apply ByteArray.ext
  simp [List.drop_take]
 generalize (⟨s.toArray⟩:ByteArray)=B at hu hz0 hex
 simp [execOp,e,hu,Instr.sliceAt,run_underlying (zkR h1),Instr.slice,hz0,hr,hex]
theorem s_sll {sz:Nat} {x:O} {lo hi mx:Option O}:Sound P (.sll sz x lo hi mx):=by
 intro o a w M ν h fr nid v wv hm hf hh hn hle hd he
 simp only [mI] at hm
 split at hm<;>try contradiction
 rename_i t x' lo' hi' mx' e
 simp only [Bool.and_eq_true] at hm
 obtain ⟨⟨⟨⟨h1,hx⟩,hlo⟩,hhi⟩,hmx⟩:=hm
 split at h1<;>try contradiction
 rename_i et het
 obtain ⟨i,hi0,hsz⟩:=zgq h1
 have hx:=zaM hf hx
 generalize hu:a.eval x'=u at hx
 have run:∀ ad n c l hh m,u=.slice ad n c→(Instr.sliceBounds true n c (lo'.map a.eval) (hi'.map a.eval) (mx'.map a.eval)).run P w=.ok (l,hh,m) w →
   (execOp a.eval o).run P w=.ok (.value (.slice (if m=l then ad else ad.map (·.add (l*sz))) (hh-l) (m-l))) w:=by
  rintro ad n c l hh m rfl hr
  simp [execOp,e,hu,Instr.sliceAt,run_underlying (zd1 het),Instr.slice,hr,zcN hi0,hsz]
 simp only [op1] at he
 split at he<;>try contradiction
 ·rename_i l r el er em
  have hl:=znB hf hlo el
  have hr:=znB hf hhi er
  have hm0:mx'.map a.eval=none:=by
   rcases znB hf hmx em with ⟨h,_⟩|⟨_,_,_,h⟩
   ·exact h
   ·cases h
  rw [hm0] at run
  split at he<;>try contradiction
  ·rename_i z xs ex
   rw [ex] at hx
   split at he<;>try contradiction
   rename_i hz
   subst hz
   simp only [Option.map_eq_some_iff,Prod.mk.injEq] at he
   obtain ⟨b,hb,rfl,rfl⟩:=he
   cases hx with
   | sl0=>
    rename_i ad c
    obtain ⟨k1,k2,k3⟩:=zvu (P:=P) (w:=w) (isS:=true) (len:=0) (cap:=c) (Nat.zero_le _) hl hr (by simpa using hb)
    have hb2:b.2=0:=by omega
    have:=run _ _ _ _ _ _ rfl k1
    refine .pure hh this ?_
    have e1:b.2-b.1=0:=by omega
    rw [e1]
    simp only [List.take_nil,List.drop_nil]
    exact .sl0
   | sl rd hc hM hz hrl g hs hm=>
    obtain ⟨k1,k2,k3⟩:=zvu (P:=P) (w:=w) (isS:=true) hc hl hr hb
    have:=run _ _ _ _ _ _ rfl k1
    refine .pure hh this ?_
    have hlen:((xs.take b.2).drop b.1).length=b.2-b.1:=by simp;omega
    by_cases hnil:(xs.take b.2).drop b.1=[]
    ·rw [hnil]
     have:b.2-b.1=0:=by rw [←hlen,hnil];rfl
     rw [this]
     exact .sl0
    ·have hpos:b.1<b.2:=by
      have:0<((xs.take b.2).drop b.1).length:=List.length_pos_iff.2 hnil
      omega
     rename_i bb q c
     have hne:¬(c=b.1):=by omega
     rw [if_neg hne]
     have e0:(some (⟨bb,q,none⟩:Addr)).map (·.add (b.1*z))=some ⟨bb,q+b.1*z,none⟩:=by simp [zfb]
     rw [e0,←hlen]
     refine .sl (fun i=>rd (b.1+i)) (by omega) hM hz (fun i hi=>?_) (fun x hx=>g x (List.mem_of_mem_take (List.mem_of_mem_drop hx))) (fun i hi=>hs _ (by omega)) (fun i hi k hk=>?_)
     ·have e1:((xs.take b.2).drop b.1)[i]=xs[b.1+i]'(by omega):=by simp
      rw [e1]
      exact hrl _ _
     ·have:=hm (b.1+i) (by omega) k hk
      rw [←this]
      congr 2
      rw [Nat.add_mul]
      omega
  ·rename_i z ex
   rw [ex] at hx
   simp only [Option.map_eq_some_iff,Prod.mk.injEq] at he
   obtain ⟨b,hb,rfl,rfl⟩:=he
   cases hx with
   | nsl=>
    obtain ⟨k1,k2,k3⟩:=zvu (P:=P) (w:=w) (isS:=true) (len:=0) (cap:=0) (Nat.zero_le _) hl hr (by simpa using hb)
    have:=run _ _ _ _ _ _ rfl k1
    refine .pure hh this ?_
    have e1:b.2-b.1=0:=by omega
    have e2:0-b.1=0:=by omega
    rw [e1,e2]
    exact .nsl
  ·rename_i id off len tot ex
   rw [ex] at hx
   split at he<;>try contradiction
   rename_i z xs hrow0
   split at he<;>try contradiction
   rename_i hz
   subst hz
   simp only [Option.map_eq_some_iff,Prod.mk.injEq] at he
   obtain ⟨b,hb,rfl,rfl⟩:=he
   obtain ⟨L,hL,ht,hrow,hlen,hd,hv0,hle2,hcap,ad,rfl,had⟩:=hx.own_inv hh hrow0
   obtain ⟨k1,k2,k3⟩:=zvu (P:=P) (w:=w) (isS:=true) (len:=len) (cap:=L.cap-(off-L.d)) (by omega) hl hr hb
   have:=run _ _ _ _ _ _ rfl k1
   refine .pure hh this (.own hL (Nat.le_of_eq ht.symm) rfl fun _=>⟨by omega,by omega,by omega,hcap,(if L.cap-(off-L.d)=b.1 then ad else ad.map (·.add (b.1*z))),?_,fun hlt=>?_⟩)
   ·congr 1
    omega
   ·have hne:¬(L.cap-(off-L.d)=b.1):=by omega
    rw [if_neg hne,had (by omega)]
    have hLs:L.sz=z:=hrow.sz.2
    simp only [Option.map_some,zfb,Option.some.injEq,Addr.mk.injEq,and_true,true_and]
    rw [←hLs,←Nat.add_mul]
    congr 1
    omega
 ·rename_i l r m el er em
  have hl:=znB hf hlo el
  have hr:∃ k,hi'.map a.eval=some (.int k r):=by
   rcases znB hf hhi er with ⟨_,h⟩|⟨k,n,h1,h⟩
   ·cases h
   ·cases h;exact ⟨k,h1⟩
  have hm0:∃ k,mx'.map a.eval=some (.int k m):=by
   rcases znB hf hmx em with ⟨_,h⟩|⟨k,n,h1,h⟩
   ·cases h
   ·cases h;exact ⟨k,h1⟩
  obtain ⟨k2,hr⟩:=hr
  obtain ⟨k3,hm0⟩:=hm0
  rw [hr,hm0] at run
  split at he<;>try contradiction
  ·rename_i z xs ex
   rw [ex] at hx
   split at he<;>try contradiction
   rename_i hz
   subst hz
   split at he<;>try contradiction
   rename_i b c hb hc
   split at he<;>try contradiction
   rename_i hrm
   obtain ⟨g1,g2,g3,rfl⟩:=zgO hb
   obtain ⟨_,_,g4,rfl⟩:=zgO hc
   simp only [Option.getD_some] at g2 g3 g4 he
   obtain ⟨ad,cc,rfl,hcap,hmem⟩:=zfj hh hx (z:=z) (ys:=xs) rfl
   have:=run _ _ _ _ _ _ rfl (zwS (P:=P) (w:=w) hcap hl (k2:=k2) (k3:=k3) g1 g2 hrm g4)
   split at he
   ·rename_i hml
    cases he
    refine .pure hh this ?_
    rw [if_pos hml]
    have e1:r.toNat-(l.getD 0).toNat=0:=by omega
    have e2:m.toNat-(l.getD 0).toNat=0:=by omega
    rw [e1,e2]
    exact .nsl
   ·rename_i hml
    cases he
    refine .pure hh this ?_
    rw [if_neg hml]
    have hlen:((xs.take r.toNat).drop (l.getD 0).toNat).length=r.toNat-(l.getD 0).toNat:=by simp;omega
    by_cases hnil:(xs.take r.toNat).drop (l.getD 0).toNat=[]
    ·rw [hnil]
     have:r.toNat-(l.getD 0).toNat=0:=by rw [←hlen,hnil];rfl
     rw [this]
     exact .sl0
    ·cases hx with
     | sl0=>simp at hnil
     | sl rd hc hM hz hrl g hs hm=>
      rename_i bb q
      have hpos:0<((xs.take r.toNat).drop (l.getD 0).toNat).length:=List.length_pos_iff.2 hnil
      have e0:(some (⟨bb,q,none⟩:Addr)).map (·.add ((l.getD 0).toNat*z))=some ⟨bb,q+(l.getD 0).toNat*z,none⟩:=by simp [zfb]
      rw [e0,←hlen]
      refine .sl (fun i=>rd ((l.getD 0).toNat+i)) (by omega) hM hz (fun i hi=>?_) (fun x hx=>g x (List.mem_of_mem_take (List.mem_of_mem_drop hx))) (fun i hi=>hs _ (by omega)) (fun i hi k hk=>?_)
      ·have e1:((xs.take r.toNat).drop (l.getD 0).toNat)[i]=xs[(l.getD 0).toNat+i]'(by omega):=by simp
       rw [e1]
       exact hrl _ _
      ·have:=hm ((l.getD 0).toNat+i) (by omega) k hk
       rw [←this]
       congr 2
       rw [Nat.add_mul]
       omega
  ·rename_i z ex
   rw [ex] at hx
   split at he<;>try contradiction
   rename_i b c hb hc
   split at he<;>try contradiction
   rename_i hrm
   obtain ⟨g1,g2,g3,rfl⟩:=zgO hb
   obtain ⟨_,_,g4,rfl⟩:=zgO hc
   simp only [Option.getD_some] at g2 g3 g4 he
   cases he
   cases hx with
   | nsl=>
    have:=run _ _ _ _ _ _ rfl (zwS (P:=P) (w:=w) (len:=0) (cap:=0) (Nat.le_refl _) hl (k2:=k2) (k3:=k3) g1 g2 hrm (by omega))
    refine .pure hh this ?_
    have e1:r.toNat-(l.getD 0).toNat=0:=by omega
    have e2:m.toNat-(l.getD 0).toNat=0:=by omega
    rw [e1,e2]
    exact .nsl
  ·rename_i id off len tot ex
   rw [ex] at hx
   split at he<;>try contradiction
   rename_i z xs hrow0
   split at he<;>try contradiction
   rename_i hz
   subst hz
   split at he<;>try contradiction
   rename_i b c hb hc
   split at he<;>try contradiction
   rename_i hrm
   obtain ⟨hrm,hml⟩:=hrm
   obtain ⟨g1,g2,g3,rfl⟩:=zgO hb
   obtain ⟨_,_,g4,rfl⟩:=zgO hc
   simp only [Option.getD_some] at g2 g3 g4 he hml
   cases he
   obtain ⟨L,hL,ht,hrow,hlen,hd,hv0,hle2,hcap,ad,rfl,had⟩:=hx.own_inv hh hrow0
   have:=run _ _ _ _ _ _ rfl (zwS (P:=P) (w:=w) (len:=len) (cap:=L.cap-(off-L.d)) (by omega) hl (k2:=k2) (k3:=k3) g1 g2 hrm g4)
   refine .pure hh this ?_
   rw [if_pos hml]
   have e1:r.toNat-(l.getD 0).toNat=0:=by omega
   have e2:m.toNat-(l.getD 0).toNat=0:=by omega
   rw [e1,e2]
   exact .nsl
theorem zAu {w:World} {M:Nat→Prop} {ν:Nu} (mx:Bool):∀ (r:List V) (x:V) (us:List Value) (u:Value) (v:V),Rel w M ν x u→r.length=us.length→(∀ i (hi:i<r.length),Rel w M ν r[i] (us.getD i undef))→zAk mx x r=some v →
  ∃ u',(us.foldlM (if mx then Builtin.max2 else Builtin.min2) u).run P w=.ok u' w∧Rel w M ν v u'
 | [],x,[],u,v,hx,_,_,hv=>by
  simp only [zAk] at hv
  cases hv
  exact ⟨u,by simp,hx⟩
 | [],_,_::_,_,_,_,hl,_,_=>by simp at hl
 | _::_,_,[],_,_,_,hl,_,_=>by simp at hl
 | y::r,x,uy::us,u,v,hx,hl,hr,hv=>by
  unfold zAk at hv
  split at hv<;>try contradiction
  rename_i k a k' b r' e
  cases e
  split at hv<;>try contradiction
  rename_i hk
  subst hk
  have hy:=hr 0 (by simp)
  simp only [List.getElem_cons_zero,List.getD_cons_zero] at hy
  have hu:=hx.int_inv
  have huy:=hy.int_inv
  subst hu huy
  obtain ⟨u',r1,r2⟩:=zAu mx r _ us (.int k (if mx then (if b>a then b else a) else (if b<a then b else a))) v .int (by simpa using hl) (fun i hi=>by
   have:=hr (i+1) (by simpa using hi)
   simpa using this) hv
  refine ⟨u',?_,r2⟩
  rw [List.foldlM_cons]
  cases mx<;>simp only [Bool.false_eq_true,if_false,if_true] at r1 ⊢<;>simp only [Sem.run_bind,Builtin.max2,Builtin.min2,Sem.run_pure,Result.andThen_ok,r1]
theorem s_mxn {mx:Bool} {xs:List O}:Sound P (.mxn mx xs):=by
 intro o a w M ν h fr nid v wv hm hf hh hn hle hd he
 simp only [mI] at hm
 split at hm<;>try contradiction
 rename_i b as ts e
 simp only [Bool.and_eq_true,beq_iff_eq] at hm
 obtain ⟨rfl,hx⟩:=hm
 obtain ⟨k1,k2⟩:=zic hf hx
 simp only [op1] at he
 split at he<;>try contradiction
 rename_i x r er
 simp only [Option.map_eq_some_iff,Prod.mk.injEq] at he
 obtain ⟨v',hv,rfl,rfl⟩:=he
 obtain ⟨y,ys,rfl⟩:∃ y ys,xs=y::ys:=by
  cases xs with
  | nil=>cases er
  | cons y ys=>exact ⟨y,ys,rfl⟩
 simp only [List.map_cons,List.cons.injEq] at er
 obtain ⟨rfl,rfl⟩:=er
 obtain ⟨q,qs,hq⟩:∃ q qs,as.toList=q::qs:=by
  cases hq:as.toList with
  | nil=>rw [hq] at k1;simp at k1
  | cons q qs=>exact ⟨q,qs,rfl⟩
 rw [hq] at k1 k2
 have h0:=k2 0 (by simp)
 simp only [List.getElem_cons_zero,List.map_cons,List.getD_cons_zero] at h0
 obtain ⟨u',r1,r2⟩:=zAu (P:=P) mx (ys.map (O.ev fr)) (y.ev fr) (qs.map a.eval) (a.eval q) v' h0 (by simpa using k1.symm) (fun i hi=>by
  have:=k2 (i+1) (by simpa using hi)
  simpa using this) hv
 refine .pure hh (u:=u') ?_ r2
 have ha:as=(q::qs).toArray:=by rw [←hq]
 subst ha
 cases mx<;>simp only [Bool.false_eq_true,if_false,if_true] at r1 e<;>simp [execOp,e,resolve,invoke,builtin,Builtin.max_,Builtin.min_,r1]
theorem zpU (i:I):Sound P i:=by
 cases i with
 | mov x=>exact s_mov
 | pick=>exact s_pick
 | bin=>exact s_bin
 | eq=>exact s_eq
 | nilq=>exact s_nilq
 | un=>exact s_un
 | conv=>exact s_conv
 | same=>exact s_same
 | s2b=>exact s_s2b
 | b2s=>exact s_b2s
 | new=>exact s_new
 | box=>exact s_box
 | bld=>exact s_bld
 | bsl=>exact s_bsl
 | ld=>exact s_ld
 | st=>exact s_st
 | nck=>exact s_nck
 | fad=>exact s_fad
 | fld=>exact s_fld
 | iad=>exact s_iad
 | ixs=>exact s_ixs
 | sls=>exact s_sls
 | sll=>exact s_sll
 | mks=>exact s_mks
 | mkf=>exact s_mkf
 | ext=>exact s_ext
 | len=>exact s_len
 | slen=>exact s_slen
 | app=>exact s_app
 | mxn=>exact s_mxn
 | mki=>exact s_mki
 | op=>exact s_op
 | call=>intro o a w M ν h fr nid v wv hm;simp [mI] at hm
 | callv=>intro o a w M ν h fr nid v wv hm;simp [mI] at hm
 | pan=>intro o a w M ν h fr nid v wv hm;simp [mI] at hm
 | bsf=>intro o a w M ν h fr nid v wv hm;simp [mI] at hm
 | fz=>intro o a w M ν h fr nid v wv hm;simp [mI] at hm
 | fzd=>intro o a w M ν h fr nid v wv hm;simp [mI] at hm
 | cx=>intro o a w M ν h fr nid v wv hm;simp [mI] at hm
end Go.RR
