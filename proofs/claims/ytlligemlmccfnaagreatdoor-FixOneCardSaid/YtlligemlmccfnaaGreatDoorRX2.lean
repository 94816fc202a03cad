/- What all constraints leave: an element; what its closures tell. -/
import Derived.Test.YtlligemlmccfnaaGreatDoorRX1
set_option linter.unusedSimpArgs false
set_option linter.unusedVariables false
set_option maxHeartbeats 8000000
set_option maxRecDepth 100000
namespace Go.RR.FX
open Go Go.RR Go.RR.M
def elP (nums:List Int) (dv:Dm) (x:Int):Bool:=decide (0≤x)&&decide (x<nums.length)&&(zag dv).any fun y=>nums.getD x.toNat 0==y
theorem emay_1 (d:Dm) (hd:d.live<18446744073709551616∧d.vals.length≤1000000) (h:List Ob):acw C zdo [zaj d] h=some (.ret (.bool (!zcX d)),h):=by
 have k:=fun h=>zjb d hd.1 hd.2 h
 refine zar (v:=.bool _) (CT zrz) rfl rfl (fun _=>rfl) (by simp) ⟨[.row 2 [zaj d]],?_⟩
 simp [zaa,zid,zmw,k]
def FdI (h2:List Ob) (im:Nat) (nums:List Int) (dv:Dm) (xs:List Int) (i:Nat) (g:List Ob):Prop:=
 ∃ L cnt,g=h2.set im (.map (mI L) cnt)∧∀ y,0≤(gM L y).getD 0∧(gM L y).getD 0≤i∧(0<(gM L y).getD 0↔∃ x∈xs.take i,elP nums dv x=true∧nums.getD x.toNat 0=y)
structure FdA (h2:List Ob) (c:Con) (l:Ds) (w cv cf im:Nat):Prop where
 c0:h2[0]? = some (.row 6 [zaq c])
 l0:h2[1]? = some (.row 1 [dsV l])
 v0:h2[cv]? = some (.row 1 [iv w])
 f0:h2[cf]? = some (.row 1 [.mp im])
 m0:im<h2.length
 n1:im≠0∧im≠1∧im≠cv∧im≠cf
theorem zma {nid nid' id:Nat} {h h':List Ob} {ks:Option IntKind} {k v:V} (e:h[id]? = h'[id]?):opJ nid h (.mpu ks) [.mp id,k,v]=opJ nid' h' (.mpu ks) [.mp id,k,v]:=by
 simp only [opJ,zgc,e]
theorem el_2 {h2:List Ob} {c:Con} {l:Ds} {w cv cf im:Nat} (A:FdA h2 c l w cv cf im) (ok:okL l) (hw:w<l.length) (hn:c.nums.length≤1000) {xs:List Int} (hxl:xs.length≤1000) (i:Nat) (x:Int) (hx:xs[i]? = some x) (g:List Ob) (hI:FdI h2 im c.nums l[w] xs i g) :
  ∃ g',FdI h2 im c.nums l[w] xs (i+1) g'∧∀ t,acw C zdh [iv x,.ptr 0 0 0 1,.ptr 1 0 0 1,.ptr cv 0 0 1,.ptr cf 0 0 1] (g++t)=some (.ret (.bool (elP c.nums l[w] x)),g'++t):=by
 obtain ⟨L,cnt,rfl,hG⟩:=hI
 obtain ⟨hlt,hx2⟩:=List.getElem?_eq_some_iff.1 hx
 obtain ⟨g,hg⟩:∃ g,g=h2.set im (.map (mI L) cnt):=⟨_,rfl⟩
 rw [←hg]
 have hgl:im<g.length:=by rw [hg,List.length_set];exact A.m0
 have e0:g[0]? = some (.row 6 [zaq c]):=by rw [hg,List.getElem?_set_ne A.n1.1];exact A.c0
 have e1:g[1]? = some (.row 1 [dsV l]):=by rw [hg,List.getElem?_set_ne A.n1.2.1];exact A.l0
 have e2:g[cv]? = some (.row 1 [iv w]):=by rw [hg,List.getElem?_set_ne A.n1.2.2.1];exact A.v0
 have e3:g[cf]? = some (.row 1 [.mp im]):=by rw [hg,List.getElem?_set_ne A.n1.2.2.2];exact A.f0
 have e4:g[im]? = some (.map (mI L) cnt):=by rw [hg,List.getElem?_set_self A.m0]
 have a0:∀ t,(g++t)[0]? = some (.row 6 [zaq c]):=fun t=>zat e0
 have a1:∀ t,(g++t)[1]? = some (.row 1 [dsV l]):=fun t=>zat e1
 have a2:∀ t,(g++t)[cv]? = some (.row 1 [iv w]):=fun t=>zat e2
 have a3:∀ t,(g++t)[cf]? = some (.row 1 [.mp im]):=fun t=>zat e3
 have a4:∀ t,(g++t)[im]? = some (.map (mI L) cnt):=fun t=>zat e4
 have hstep:∀ y,(∃ z∈xs.take (i+1),elP c.nums l[w] z=true∧c.nums.getD z.toNat 0=y)↔(∃ z∈xs.take i,elP c.nums l[w] z=true∧c.nums.getD z.toNat 0=y)∨(elP c.nums l[w] x=true∧c.nums.getD x.toNat 0=y):=fun y=>by
  rw [List.take_succ_eq_append_getElem hlt,hx2]
  simp only [List.mem_append,List.mem_singleton]
  constructor
  ·rintro ⟨z,q|q,r⟩
   ·exact .inl ⟨z,q,r⟩
   ·subst q;exact .inr r
  ·rintro (⟨z,q,r⟩|r)
   ·exact ⟨z,.inl q,r⟩
   ·exact ⟨x,.inr rfl,r⟩
 obtain ⟨d,hd⟩:∃ d,d=l[w]:=⟨_,rfl⟩
 rw [←hd] at hG hstep ⊢
 have hdm:=ok d (by rw [hd];exact List.getElem_mem hw)
 have kh:=fun v h=>zwM d v (zaB hdm).1 (zaB hdm).2 h
 have hd1:l[w]? = some d:=by simp [hw,hd]
 have hd2:∀ h:w<l.length,l[w]'h=d:=fun _=>hd.symm
 have hw6:(w:Int)<l.length:=by omega
 have stay:elP c.nums d x=false→FdI h2 im c.nums d xs (i+1) g:=fun q=>by
  refine ⟨L,cnt,hg,fun y=>⟨(hG y).1,by have:=(hG y).2.1;omega,?_⟩⟩
  rw [(hG y).2.2,hstep]
  constructor
  ·exact fun r=>.inl r
  ·rintro (r|r)
   ·exact r
   ·rw [q] at r;cases r.1
 by_cases c1:¬0≤x
 ·have hp:elP c.nums d x=false:=by simp [elP,c1]
  rw [hp]
  refine ⟨g,stay hp,fun t=>?_⟩
  rw [zbd (CT ze7) rfl]
  simp [zaa,zch,zdm,c1]
 have c1:0≤x:=by omega
 by_cases c2:¬x<c.nums.length
 ·have hp:elP c.nums d x=false:=by simp [elP,c2]
  rw [hp]
  refine ⟨g,stay hp,fun t=>?_⟩
  rw [zbd (CT ze7) rfl]
  simp [zaa,zch,zdm,c1,c2,a0]
 have c2:x<c.nums.length:=by omega
 obtain ⟨u,rfl⟩:∃ u:Nat,x=u:=⟨x.toNat,by omega⟩
 have hu:u<c.nums.length:=by omega
 obtain ⟨n,hn1⟩:∃ n,n=c.nums[u]:=⟨_,rfl⟩
 have hn2:c.nums[u]? = some n:=by simp [hu,hn1]
 have hn3:∀ h:u<c.nums.length,c.nums[u]'h=n:=fun _=>hn1.symm
 have hn4:c.nums.getD ((u:Int)).toNat 0=n:=by rw [Int.toNat_natCast,List.getD_eq_getElem?_getD,hn2];rfl
 have hp:elP c.nums d u=(zag d).any fun y=>n==y:=by
  unfold elP
  rw [hn4]
  simp [c1,c2]
 rw [hn4] at hstep
 rw [hp] at hstep stay ⊢
 have kn:=kh n
 cases hc:(zag d).any fun y=>n==y with
 | false=>
  rw [hc] at kn
  refine ⟨g,stay hc,fun t=>?_⟩
  rw [zbd (CT ze7) rfl]
  simp [zaa,zch,zdm,c1,c2,a0,a1,a2,a3,kn,hw,hd1,hd2,hw6,hu,hn2,hn3]
 | true=>
  rw [hc] at kn hstep
  have hwr:IntKind.i64.wrap ((gM L n).getD 0+1)=(gM L n).getD 0+1:=by
   have:=hG n
   exact wrap64 (by omega) (by omega)
  obtain ⟨L',c',ho,hg1,hg2⟩:=zyY (nid:=g.length) (h:=g) (x:=n) (w:=(gM L n).getD 0+1) e4
  have hw3:∀ o t,(g++t).set im o=g.set im o++t:=fun o t=>by rw [List.set_append_left _ _ hgl]
  have ho2:∀ nid t,opJ nid (g++t) (.mpu (some .i64)) [.mp im,iv n,iv ((gM L n).getD 0+1)]=some (.und,some (im,.map (mI L') c')):=fun nid t=>by
   rw [←ho]
   exact zma (by rw [a4,e4])
  have hl2:∀ nid t,opJ nid (g++t) (.lku (some .i64) (iv 0) false) [.mp im,iv n]=some (iv ((gM L n).getD 0),none):=fun nid t=>zyP (a4 t)
  have hgl2:∀ t,im<(g++t).length:=fun t=>by rw [List.length_append];omega
  refine ⟨g.set im (.map (mI L') c'),⟨L',c',by rw [hg,List.set_set],fun y=>?_⟩,fun t=>?_⟩
  ·rw [hg1]
   have q:=hG y
   by_cases e:y=n
   ·rw [if_pos e]
    have q2:=hG n
    refine ⟨by simp;omega,by simp;omega,?_⟩
    rw [hstep]
    constructor
    ·exact fun _=>.inr ⟨rfl,e.symm⟩
    ·intro _
     simp;omega
   ·rw [if_neg e]
    refine ⟨q.1,by have:=q.2.1;omega,?_⟩
    rw [q.2.2,hstep]
    constructor
    ·exact fun r=>.inl r
    ·rintro (r|r)
     ·exact r
     ·exact absurd r.2.symm e
  ·rw [zbd (CT ze7) rfl]
   simp [zaa,zch,zdm,c1,c2,a0,a1,a2,a3,kn,hw,hd1,hd2,hw6,hu,hn2,hn3,hl2,ho2,hwr,hw3,zfi (hgl2 _)]
theorem el_3 {h2:List Ob} {c:Con} {l:Ds} {w cv cf im:Nat} (A:FdA h2 c l w cv cf im) {xs:List Int} {dv:Dm} (g:List Ob) (hI:FdI h2 im c.nums dv xs xs.length g) (x:Int) (t:List Ob) :
  acw C zdi [iv x,.ptr cf 0 0 1] (g++t)=some (.ret (.bool (xs.any fun z=>elP c.nums dv z&&(c.nums.getD z.toNat 0==x))),g++t):=by
 obtain ⟨L,cnt,rfl,hG⟩:=hI
 obtain ⟨g,hg⟩:∃ g,g=h2.set im (.map (mI L) cnt):=⟨_,rfl⟩
 rw [←hg]
 have e3:g[cf]? = some (.row 1 [.mp im]):=by rw [hg,List.getElem?_set_ne A.n1.2.2.2];exact A.f0
 have e4:g[im]? = some (.map (mI L) cnt):=by rw [hg,List.getElem?_set_self A.m0]
 have a3:∀ t,(g++t)[cf]? = some (.row 1 [.mp im]):=fun t=>zat e3
 have hl2:∀ nid t,opJ nid (g++t) (.lku (some .i64) (iv 0) false) [.mp im,iv x]=some (iv ((gM L x).getD 0),none):=fun nid t=>zyP (zat e4)
 have q:(xs.any fun z=>elP c.nums dv z&&(c.nums.getD z.toNat 0==x))=decide (0<(gM L x).getD 0):=by
  rw [Bool.eq_iff_iff,decide_eq_true_eq,(hG x).2.2,List.take_length,List.any_eq_true]
  simp only [Bool.and_eq_true,beq_iff_eq]
 rw [q,zbd (CT zrp) rfl]
 simp [zaa,zif,zmE,a3,hl2]
theorem FdI.over {h2:List Ob} {im id:Nat} {nums:List Int} {dv:Dm} {xs:List Int} {i:Nat} {g:List Ob} (h:FdI h2 im nums dv xs i g) (n:im≠id) (o:Ob):FdI (h2.set id o) im nums dv xs i (g.set id o):=by
 obtain ⟨L,cnt,rfl,k⟩:=h
 exact ⟨L,cnt,List.set_comm _ _ n,k⟩
theorem FdI.at_ {h2:List Ob} {im:Nat} {nums:List Int} {dv:Dm} {xs:List Int} {i j:Nat} {g:List Ob} (h:FdI h2 im nums dv xs i g) (n:im≠j):g[j]? = h2[j]?:=by
 obtain ⟨L,cnt,rfl,k⟩:=h
 exact List.getElem?_set_ne n
theorem FdI.len {h2:List Ob} {im:Nat} {nums:List Int} {dv:Dm} {xs:List Int} {i:Nat} {g:List Ob} (h:FdI h2 im nums dv xs i g):g.length=h2.length:=by
 obtain ⟨L,cnt,rfl,k⟩:=h
 exact List.length_set
theorem kp_el {c:Con} {L:Ls} {v x:Int} (hk:c.kind=4) (hv:v∈c.vars):kp c L v x=ztB c L v x:=by
 unfold kp
 rw [if_neg (by rw [List.contains_iff_mem.2 hv];simp),if_neg (by omega),if_neg (by omega),if_neg (by omega),if_pos hk]
theorem zCs {m:Nat}:over .nmp 0 [.mp m]=some (.mp m):=rfl
theorem stM (h1:List Ob) (a b:Ob) (m:Nat):stV (h1++[a,b,Ob.row 1 [V.nmp]]) 1 (V.ptr (h1.length+2) 0 0 1) (V.mp m)=some (.und,some (h1.length+2,Ob.row 1 [.mp m])):=by
 rw [v_st rfl rfl]
 simp [zCs]
theorem zux {nid:Nat} {h:List Ob}:opJ nid h .mkm []=some (.mp nid,some (nid,.map [] 0)):=rfl
theorem el_p {nums:List Int} {dv:Dm} {x:Int}:elP nums dv x=(zag dv).any fun n=>ziy nums x n:=by
 unfold elP ziy
 rw [Bool.eq_iff_iff]
 simp only [Bool.and_eq_true,decide_eq_true_eq,List.any_eq_true,beq_iff_eq]
 constructor
 ·rintro ⟨a,y,b,c⟩
  exact ⟨y,b,a,c⟩
 ·rintro ⟨y,b,a,c⟩
  exact ⟨a,y,b,c⟩
theorem el_q {nums:List Int} {dv:Dm} {xs:List Int} {x:Int} (hx:x∈zag dv):(xs.any fun z=>elP nums dv z&&(nums.getD z.toNat 0==x))=xs.any fun i=>ziy nums i x:=by
 rw [Bool.eq_iff_iff]
 simp only [Bool.and_eq_true,List.any_eq_true,el_p,ziy,beq_iff_eq,decide_eq_true_eq]
 constructor
 ·rintro ⟨z,a,⟨y,b,e⟩,d⟩
  exact ⟨z,a,e.1,d⟩
 ·rintro ⟨z,a,e,d⟩
  exact ⟨z,a,⟨x,hx,e,d⟩,d⟩
theorem zv4 (c:Con) (hc:c150 c) (l:Ds) (hl:zmK l) (h:List Ob):acw C zeF [zaq c,dsV l] h=some (.ret (.tup [dsV (znO (decide (c.kind=4)) c l).1,iv (znO (decide (c.kind=4)) c l).2]),h):=by
 have kr:=fun h=>right c l.length (zki hc) h
 have km:=fun h=>zd9 (fun d=>!zcX d) zdo l (fun d hd h=>emay_1 d (hl.d d hd) h) hl.n h
 rw [zgD] at km
 unfold znO
 have bad:∀ (g:decide (c.kind=4)=false∨zaC c l.length=false∨zfR l=false),acw C zeF [zaq c,dsV l] h=some (.ret (.tup [dsV [],iv 1]),h):=fun g=>by
  refine zap (h':=[.row 6 [zaq c],.row 1 [dsV l]]) (v:=.tup [.nsl 2,iv 1]) (v':=.tup [dsV [],iv 1]) (CT zoP) rfl rfl ?_ rfl (by simp)
  by_cases c1:c.kind=4
  ·have n1:(c.kind != 4)=false:=by rw [c1];rfl
   rcases g with g|g|g
   ·simp [c1] at g
   ·simp [zaa,zcA,zeU,n1,kr,g]
   ·cases hr:zaC c l.length<;>rw [hr] at kr<;>simp [zaa,zcA,zeU,n1,kr,km,g]
  ·have c1':(c.kind != 4)=true:=by rw [bne_iff_ne];exact c1
   simp [zaa,zcA,zeU,c1']
 cases hk:decide (c.kind=4) with
 | false=>exact bad (.inl hk)
 | true=>
 cases hr:zaC c l.length with
 | false=>exact bad (.inr (.inl hr))
 | true=>
 cases hm:zfR l with
 | false=>exact bad (.inr (.inr hm))
 | true=>
 simp only [Bool.and_self,if_true]
 rw [hr] at kr
 rw [hm] at km
 have hk2:c.kind=4:=by simpa using hk
 have ok:=zgu hm
 have rc:=RC.of hr
 have hvl:=rc.w.e hk2
 have hnum:c.nums.length≤1000:=by have:=rc.v8.2;omega
 obtain ⟨a,b,hv⟩:∃ a b,c.vars=[a,b]:=by
  match c.vars,hvl with
  | [a,b],_=>exact ⟨a,b,rfl⟩
 have hb:=rc.b
 have hnd:=rc.nd
 rw [hv] at hb hnd
 have ha2:=hb a (by simp)
 have hb2:=hb b (by simp)
 have hne:a≠b:=by simpa using hnd
 obtain ⟨p,rfl⟩:∃ p:Nat,a=p:=⟨a.toNat,by omega⟩
 obtain ⟨w,rfl⟩:∃ w:Nat,b=w:=⟨b.toNat,by omega⟩
 have hp:p<l.length:=by omega
 have hw:w<l.length:=by omega
 have hpw:p≠w:=by omega
 obtain ⟨v,h1,e1,a1,s1⟩:=zrb ok hl.n (.ptr 0 0 0 1) (.ptr 1 0 0 1) 2 l.length 0 (.nsl 2) [.row 6 [zaq c],.row 1 [dsV l]] (by omega) (by simp) (.inl ⟨rfl,by simp⟩)
 simp only [Int.cast_ofNat_Int] at e1
 have b0:h1[0]? = some (.row 6 [zaq c]):=by rw [s1 0 (by omega)];rfl
 have b1:h1[1]? = some (.row 1 [dsV l]):=by rw [s1 1 (by omega)];rfl
 have hpos:0<l.length:=by omega
 obtain ⟨id,hid,rfl,g1⟩:∃ id,2≤id∧v=.own id 0 l.length l.length∧h1[id]? = some (.row 2 (l.map zaj)):=by
  rcases a1 with ⟨-,q⟩|⟨id,q1,q2,q3⟩
  ·have:=congrArg List.length q
   simp at this
   rw [this] at hpos
   simp at hpos
  ·exact ⟨id,q1,by simpa using q2,q3⟩
 have hidl:id<h1.length:=(List.getElem?_eq_some_iff.1 g1).1
 obtain ⟨N,hN⟩:∃ N,N=h1.length:=⟨_,rfl⟩
 obtain ⟨h2,hh2⟩:∃ h2,h2=h1++[.row 1 [iv w],.map [] 0,.row 1 [.mp (N+1)]]:=⟨_,rfl⟩
 have A:FdA h2 c l w N (N+2) (N+1):=by
  subst hh2 hN
  exact ⟨zat b0,zat b1,by simp,by simp,by simp,by omega,by omega,by omega,by omega⟩
 have g2:h2[id]? = some (.row 2 (l.map zaj)):=by rw [hh2];exact zat g1
 obtain ⟨d,hd⟩:∃ d,d=l[p]:=⟨_,rfl⟩
 obtain ⟨dv,hdv⟩:∃ d,d=l[w]:=⟨_,rfl⟩
 have hdm:=ok d (by rw [hd];exact List.getElem_mem hp)
 have hdvm:=ok dv (by rw [hdv];exact List.getElem_mem hw)
 have hxl:(zag d).length≤1000:=by have:=zbz d;omega
 have I0:FdI h2 (N+1) c.nums dv (zag d) 0 h2:=by
  refine ⟨[],0,?_,fun y=>⟨by simp [gM],by simp [gM],by simp [gM]⟩⟩
  subst hh2 hN
  simp [List.set_append_right]
 obtain ⟨h3,I3,e3⟩:=ekept d hdm (elP c.nums dv) zdh [.ptr 0 0 0 1,.ptr 1 0 0 1,.ptr N 0 0 1,.ptr (N+2) 0 0 1] (FdI h2 (N+1) c.nums dv (zag d)) h2 (fun i g hg=>hg.len) (fun i x hx g hg=>by
  subst hdv
  exact el_2 A ok hw hnum hxl i x hx g hg) I0
 obtain ⟨D,hD⟩:∃ D,D=zau (elP c.nums dv) d:=⟨_,rfl⟩
 rw [←hD] at e3
 have A':FdA (h2.set id (.row 2 ((l.set p D).map zaj))) c l w N (N+2) (N+1):=by
  have hidN:id<N:=by omega
  exact ⟨by rw [List.getElem?_set_ne (by omega)];exact A.c0,by rw [List.getElem?_set_ne (by omega)];exact A.l0,by rw [List.getElem?_set_ne (by omega)];exact A.v0,by rw [List.getElem?_set_ne (by omega)];exact A.f0,by rw [List.length_set];exact A.m0,A.n1⟩
 have I4:=I3.over (id:=id) (by omega) (.row 2 ((l.set p D).map zaj))
 obtain ⟨h4,hh4⟩:∃ h4,h4=h3.set id (.row 2 ((l.set p D).map zaj))++[Ob.row 2 [zaj D],Ob.row 2 [zaj D]]:=⟨_,rfl⟩
 obtain ⟨h5,hq5,e5⟩:=ekept dv hdvm (fun x=>(zag d).any fun z=>elP c.nums dv z&&(c.nums.getD z.toNat 0==x)) zdi [.ptr (N+2) 0 0 1] (fun _ g=>g=h4) h4 (fun _ g hg=>by rw [hg]) (fun i x hx g hg=>⟨h4,rfl,fun t=>by
  rw [hg,hh4,List.append_assoc]
  exact el_3 A' _ I4 x _⟩) rfl
 rw [hq5] at e5
 obtain ⟨E,hE⟩:∃ E,E=zau (fun x=>(zag d).any fun z=>elP c.nums dv z&&(c.nums.getD z.toNat 0==x)) dv:=⟨_,rfl⟩
 rw [←hE] at e5
 have key:∃ h6,zpt (evw C y0) zcA [zaq c,dsV l] []=some (.ret (.tup [.own id 0 l.length l.length,iv 0]),h6)∧h6[id]? = some (.row 2 (((l.set p D).set w E).map zaj)):=by
  have n1:(c.kind != 4)=false:=by rw [hk2];rfl
  have hd1:l[p]? = some d:=by simp [hp,hd]
  have hd2:∀ h:p<l.length,l[p]'h=d:=fun _=>hd.symm
  have hv1:l[w]? = some dv:=by simp [hw,hdv]
  have hv2:∀ h:w<l.length,l[w]'h=dv:=fun _=>hdv.symm
  have v0:c.vars[0]? = some (p:Int):=by simp [hv]
  have v1:c.vars[1]? = some (w:Int):=by simp [hv]
  have hidN:id<N:=by omega
  have hl3:h3.length=N+3:=by rw [I3.len,hh2,hN];simp
  have hl4:id<h4.length:=by rw [hh4];simp;omega
  have i2:id<h2.length:=by rw [hh2];simp;omega
  have i3:h3[id]? = some (.row 2 (l.map zaj)):=by rw [I3.at_ (by omega)];exact g2
  have i4:h4[id]? = some (.row 2 ((l.set p D).map zaj)):=by rw [hh4,List.getElem?_append_left (by simp;omega),List.getElem?_set_self (by omega)]
  refine ⟨(h4++[Ob.row 2 [zaj E],Ob.row 2 [zaj E]]).set id (.row 2 (((l.set p D).set w E).map zaj)),?_,?_⟩
  ·have hl3':h3.length=h1.length+3:=by rw [hl3,hN]
   have x0:∀ t,(h1++t)[0]? = some (.row 6 [zaq c]):=fun t=>zat b0
   have y00:∀ t h,(h1++t)[0]'h=.row 6 [zaq c]:=fun t h=>(List.getElem?_eq_some_iff.1 (x0 t)).2
   have x1:∀ t,(h1++t)[1]? = some (.row 1 [dsV l]):=fun t=>zat b1
   have y1:∀ t h,(h1++t)[1]'h=.row 1 [dsV l]:=fun t h=>(List.getElem?_eq_some_iff.1 (x1 t)).2
   have x2:∀ t,(h1++t)[id]? = some (.row 2 (l.map zaj)):=fun t=>zat g1
   have y2:∀ t h,(h1++t)[id]'h=.row 2 (l.map zaj):=fun t h=>(List.getElem?_eq_some_iff.1 (x2 t)).2
   have x3:∀ t,(h3++t)[id]? = some (.row 2 (l.map zaj)):=fun t=>zat i3
   have y3:∀ t h,(h3++t)[id]'h=.row 2 (l.map zaj):=fun t h=>(List.getElem?_eq_some_iff.1 (x3 t)).2
   have w3:∀ o t,(h3++t).set id o=h3.set id o++t:=fun o t=>by rw [List.set_append_left _ _ (by omega)]
   have l3:∀ t,id<(h3++t).length:=fun t=>by simp;omega
   have l4:∀ t,id<(h4++t).length:=fun t=>by simp;omega
   have x4:∀ t,(h4++t)[id]? = some (.row 2 ((l.map zaj).set p (zaj D))):=fun t=>zat (by rw [i4,List.map_set])
   have x5:h4[id]? = some (.row 2 ((l.map zaj).set p (zaj D))):=by rw [i4,List.map_set]
   have x6:h4[h1.length]? = some (.row 1 [iv w]):=by
    rw [hh4,List.getElem?_append_left (by simp;omega),List.getElem?_set_ne (by omega),I3.at_ (by omega),←hN]
    exact A.v0
   have x7:∀ t,(h4++t)[h1.length]? = some (.row 1 [iv w]):=fun t=>zat x6
   have z1:∀ h,((l.map zaj).set p (zaj D))[w]'h=zaj dv:=fun h=>by rw [List.getElem_set_ne hpw,List.getElem_map,hdv]
   have z2:((l.map zaj).set p (zaj D))[w]? = some (zaj dv):=by rw [List.getElem?_set_ne hpw,List.getElem?_map,hv1];rfl
   have hh5:=hh4.symm
   rw [List.map_set] at hh5
   rw [hh2] at e3
   subst hN
   simp [zaa,zcA,zeU,zux,stM,n1,kr,km,e1,b0,b1,v0,v1,x0,y00,x1,y1,x2,y2,hd1,hd2,hv1,hv2,hp,hw,e3,x3,y3,w3,zfi (l3 _),hh5,z1,z2,x4,x5,x6,x7,e5,zfi (l4 _)]
  ·rw [List.getElem?_set_self (by simp;omega)]
 obtain ⟨h6,r6,g6⟩:=key
 have fin:(l.set p D).set w E=zai c l:=by
  have hpv:(p:Int)∈c.vars:=by rw [hv];simp
  have hwv:(w:Int)∈c.vars:=by rw [hv];simp
  have g0:c.vars.getD 0 0=p:=by rw [hv];rfl
  have g1:c.vars.getD 1 0=w:=by rw [hv];rfl
  refine zu4 ok (by simp) fun i i1 i2=>?_
  by_cases ew:i=w
  ·subst ew
   rw [if_pos hwv,List.getElem_set_self,←hdv,hE]
   refine zaD fun x hx=>?_
   rw [el_q hx,kp_el hk2 hwv]
   unfold ztB
   rw [g0,g1,if_neg (by omega),zmZ hp,←hd]
  ·rw [List.getElem_set_ne (fun q=>ew q.symm)]
   by_cases ep:i=p
   ·subst ep
    rw [if_pos hpv,List.getElem_set_self,←hd,hD]
    refine zaD fun x hx=>?_
    rw [el_p,kp_el hk2 hpv]
    unfold ztB
    rw [g0,g1,if_pos rfl,zmZ hw,←hdv]
   ·rw [List.getElem_set_ne (fun q=>ep q.symm),if_neg (by rw [hv];simp;omega)]
 rw [fin] at g6
 refine zap (h':=h6) (v:=.tup [.own id 0 l.length l.length,iv 0]) (v':=.tup [dsV (zai c l),iv 0]) (CT zoP) rfl rfl r6 ?_ (by simp)
 have f1:=zmj g6 (n:=l.length) (by rw [zby]) 5
 have f2:frz h6 fdepth (.tup [.own id 0 l.length l.length,iv 0])=(zdP (frz h6 11) [.own id 0 l.length l.length,iv 0]).map .tup:=rfl
 rw [f2]
 simp only [zdP,f1]
 rfl
theorem zry (d:Dm) (hm:zcX d=true) (p:Int→Bool) (f:Nat) (cap:List V) (h:List Ob) (hf:∀ x∈zag d,∀ t,acw C f (iv x::cap) (h++t)=some (.ret (.bool (p x)),h++t)):∀ (n i:Nat),i+n=(zag d).length →
  evw C y0 zin [(1,.fn (.func f) [] cap),(2,.ptr h.length 0 0 1),(4,.ptr (h.length+1) 0 0 1),(8,zab (zag d)),(9,iv (zag d).length),(10,iv i)] (h++[.row 2 [zaj (zau (qk p (zag d) i) d)],.row 2 [.agg [.nsl 1,.int .u64 0]]]) =
   some (.ext 0,[(1,.fn (.func f) [] cap),(2,.ptr h.length 0 0 1),(4,.ptr (h.length+1) 0 0 1),(8,zab (zag d)),(9,iv (zag d).length),(10,iv (zag d).length),(11,.bool false)],h++[.row 2 [zaj (zau (qk p (zag d) (zag d).length) d)],.row 2 [.agg [.nsl 1,.int .u64 0]]]):=by
 intro n
 induction n with
 | zero=>
  intro i hin
  have:i=(zag d).length:=by omega
  subst this
  rw [znS]
  simp [zdN]
 | succ n ih=>
  intro i hin
  have hlt:i<(zag d).length:=by omega
  obtain ⟨x,hx⟩:∃ x,x=(zag d)[i]:=⟨_,rfl⟩
  have hxm:x∈zag d:=by rw [hx];exact List.getElem_mem hlt
  have kf:=hf x hxm
  have ih:=ih (i+1) (by omega)
  have hi4:(i:Int)<(zag d).length:=by omega
  have hlen:=zbz d
  have hwr:=zac hlt (by omega)
  obtain ⟨L,hL⟩:∃ L,L=zag d:=⟨_,rfl⟩
  have htk:(L.take (i+1)).contains x=true:=by
   rw [List.contains_iff_mem,hL,List.take_succ_eq_append_getElem hlt,←hx]
   simp
  have hq:∀ y,(L.take (i+1)).contains y=((L.take i).contains y||y==x):=fun y=>by
   rw [hL,List.take_succ_eq_append_getElem hlt,←hx,Bool.eq_iff_iff]
   simp [List.contains_iff_mem]
  have hx1:L[i]? = some x:=by simp [hL,hlt,hx]
  have hx2:∀ h:i<L.length,L[i]'h=x:=fun _=>by subst hL;exact hx.symm
  rw [←hL] at hlt hi4 ih ⊢
  simp only [Int.natCast_add,Int.cast_ofNat_Int] at ih
  rw [←ih,znS]
  by_cases c:p x=true
  ·rw [c] at kf
   have e:zau (qk p L (i+1)) d=zau (qk p L i) d:=zaD fun y _=>by
    unfold qk
    rw [hq]
    by_cases hy:y=x
    ·rw [hy,c];rfl
    ·have:(y==x)=false:=by simpa using hy
     rw [this,Bool.or_false]
   rw [e]
   simp [zdN,hlt,hx1,hx2,hi4,hwr,kf]
  ·have c':p x=false:=by simpa using c
   rw [c'] at kf
   have e:zau (qk p L (i+1)) d=zau (fun y=>y != x) (zau (qk p L i) d):=by
    rw [zny hm]
    refine zaD fun y _=>?_
    unfold qk
    rw [hq]
    by_cases hy:y=x
    ·rw [hy,c'];simp
    ·have h1:(y==x)=false:=by simpa using hy
     have h2:(y != x)=true:=by simpa [bne_iff_ne] using hy
     rw [h1,h2,Bool.or_false,Bool.and_true]
   obtain ⟨D,hD⟩:∃ D,D=zau (qk p L i) d:=⟨_,rfl⟩
   have hDm:zcX D=true:=by rw [hD];exact (zhg hm).2.1
   have kl:=fun h=>zqf D x (zaB hDm).1 (zaB hDm).2 h
   rw [e,←hD]
   obtain ⟨E,hE⟩:∃ E,E=zau (fun y=>y != x) D:=⟨_,rfl⟩
   rw [←hE] at kl ⊢
   simp [zdN,hlt,hx1,hx2,hi4,hwr,kf,kl]
theorem zw8 (d:Dm) (hm:zcX d=true) (p:Int→Bool) (f:Nat) (cap:List V) (h:List Ob) (hf:∀ x∈zag d,∀ t,acw C f (iv x::cap) (h++t)=some (.ret (.bool (p x)),h++t)) :
  acw C ziP [zaj d,.fn (.func f) [] cap] h=some (.ret (zaj (zau p d)),h++[.row 2 [zaj (zau p d)],.row 2 [zaj (zau p d)]]):=by
 have e:=zry d hm p f cap h hf (zag d).length 0 (by omega)
 have e0:zau (qk p (zag d) 0) d=d:=ziD hm fun x _=>by simp [qk]
 have e1:zau (qk p (zag d) (zag d).length) d=zau p d:=zaD fun x hx=>by
  unfold qk
  rw [List.take_length,List.contains_iff_mem.2 hx]
  simp
 rw [e0,e1] at e
 have kl:=fun h=>zhf d (zaB hm).1 (zaB hm).2 h
 simp only [Int.cast_ofNat_Int] at e
 obtain ⟨D,hD⟩:∃ D,D=zau p d:=⟨_,rfl⟩
 rw [←hD] at e ⊢
 rw [zbd (CT zu8) rfl]
 simp [zaa,zl9,zpA,kl,e]
def addK (a:List Int) (v:Int):List Int:=if a.contains v then a else a++[v]
theorem zCB (l:List Int):uni l=l.foldl addK []:=rfl
theorem o_mln {nid id c:Nat} {h:List Ob} {L:List Em} (e:h[id]? = some (.map (mI L) c)):opJ nid h .mln [.mp id]=some (iv (zdl L).length,none):=by
 simp [opJ,zgc,e,zdl]
theorem dmay_1 (d:Dm) (hd:d.live<18446744073709551616∧d.vals.length≤1000000) (h:List Ob):acw C zdY [zaj d] h=some (.ret (.bool (!zcX d)),h):=by
 have k:=fun h=>zjb d hd.1 hd.2 h
 refine zar (v:=.bool _) (CT zsk) rfl rfl (fun _=>rfl) (by simp) ⟨[.row 2 [zaj d]],?_⟩
 simp [zaa,zju,znn,k]
theorem few_in (ds:V) (vars xs:List Int) (i m:Nat) (R:Ob) (hx:xs.length≤64):∀ (n j:Nat) (L:List Em) (cnt b:Nat),j+n=xs.length→(∀ y,0≤(gM L y).getD 0∧(gM L y).getD 0≤b)→b+n≤1000000 →
  ∃ L' cnt',evw C y0 zjX [(1,ds),(2,.ptr 0 0 0 1),(5,.mp 1),(12,zab vars),(13,iv m),(14,iv i),(28,zab xs),(29,iv xs.length),(30,iv j)] [R,.map (mI L) cnt] =
   some (.ext 2,[(1,ds),(2,.ptr 0 0 0 1),(5,.mp 1),(12,zab vars),(13,iv m),(14,iv i),(28,zab xs),(29,iv xs.length),(30,iv xs.length),(31,.bool false)],[R,.map (mI L') cnt'])∧zdl L'=(xs.drop j).foldl addK (zdl L)∧∀ y,0≤(gM L' y).getD 0∧(gM L' y).getD 0≤b+n:=by
 intro n
 induction n with
 | zero=>
  intro j L cnt b hj hG _
  have:j=xs.length:=by omega
  subst this
  rw [zoC]
  refine ⟨L,cnt,?_,by simp,fun y=>by have:=hG y;omega⟩
  simp [zhd]
 | succ n ih=>
  intro j L cnt b hj hG hb
  have hlt:j<xs.length:=by omega
  obtain ⟨x,hx0⟩:∃ x,x=xs[j]:=⟨_,rfl⟩
  have hx1:xs[j]? = some x:=by simp [hlt,hx0]
  have hx2:∀ h:j<xs.length,xs[j]'h=x:=fun _=>hx0.symm
  have hj4:(j:Int)<xs.length:=by omega
  have hwr:=zac hlt (by omega)
  have e4:[R,Ob.map (mI L) cnt][1]? = some (.map (mI L) cnt):=rfl
  obtain ⟨L1,c1,ho,hg1,hg2⟩:=zyY (nid:=2) (x:=x) (w:=(gM L x).getD 0+1) e4
  have hwr2:IntKind.i64.wrap ((gM L x).getD 0+1)=(gM L x).getD 0+1:=by
   have:=hG x
   exact wrap64 (by omega) (by omega)
  have hl2:∀ nid,opJ nid [R,Ob.map (mI L) cnt] (.lku (some .i64) (iv 0) false) [.mp 1,iv x]=some (iv ((gM L x).getD 0),none):=fun nid=>zyP e4
  have ho2:∀ nid,opJ nid [R,Ob.map (mI L) cnt] (.mpu (some .i64)) [.mp 1,iv x,iv ((gM L x).getD 0+1)]=some (.und,some (1,.map (mI L1) c1)):=fun nid=>by
   rw [←ho]
   exact zma rfl
  obtain ⟨L',c',e,k1,k2⟩:=ih (j+1) L1 c1 (b+1) (by omega) (fun y=>by
   rw [hg1]
   have q:=hG y
   have q2:=hG x
   by_cases e:y=x
   ·rw [if_pos e];simp;omega
   ·rw [if_neg e];omega) (by omega)
  simp only [Int.natCast_add,Int.cast_ofNat_Int] at e
  refine ⟨L',c',?_,?_,fun y=>by have:=k2 y;omega⟩
  ·rw [←e,zoC]
   simp [zhd,hlt,hx1,hx2,hj4,hwr,hwr2,hl2,ho2]
  ·rw [k1,List.drop_eq_getElem_cons hlt,List.foldl_cons,hg2,←hx0]
   congr 1
   unfold addK
   by_cases q:x∈zdl L
   ·rw [if_pos q,if_pos (List.contains_iff_mem.2 q)]
   ·rw [if_neg q,if_neg (by simpa using q)]
theorem zEN {c:Con} {l:Ds} (ok:okL l) (hb:∀ v∈c.vars,0≤v∧v<l.length) (h9:c.vars.length≤9):∀ (n i:Nat) (L:List Em) (cnt:Nat),i+n=c.vars.length→(∀ y,0≤(gM L y).getD 0∧(gM L y).getD 0≤i*64) →
  ∃ L' cnt',if wiped (c.vars.drop i) (lists l)=true then (∃ fr,evw C y0 zgv [(1,dsV l),(2,.ptr 0 0 0 1),(5,.mp 1),(12,zab c.vars),(13,iv c.vars.length),(14,iv i)] [.row 6 [zaq c],.map (mI L) cnt]=some (.ret,(4,.bool true)::fr,[.row 6 [zaq c],.map (mI L') cnt']))
   else (evw C y0 zgv [(1,dsV l),(2,.ptr 0 0 0 1),(5,.mp 1),(12,zab c.vars),(13,iv c.vars.length),(14,iv i)] [.row 6 [zaq c],.map (mI L) cnt] =
   some (.ext 0,[(1,dsV l),(2,.ptr 0 0 0 1),(5,.mp 1),(12,zab c.vars),(13,iv c.vars.length),(14,iv c.vars.length),(15,.bool false)],[.row 6 [zaq c],.map (mI L') cnt'])∧zdl L'=((c.vars.drop i).flatMap fun u=>atL (lists l) u).foldl addK (zdl L)):=by
 intro n
 induction n with
 | zero=>
  intro i L cnt hi hG
  have:i=c.vars.length:=by omega
  subst this
  refine ⟨L,cnt,?_⟩
  rw [List.drop_length,if_neg (by simp [wiped]),zhb]
  refine ⟨?_,by simp⟩
  simp [zdw]
 | succ n ih=>
  intro i L cnt hi hG
  have hlt:i<c.vars.length:=by omega
  obtain ⟨v,hv⟩:∃ v,v=c.vars[i]:=⟨_,rfl⟩
  have hvm:v∈c.vars:=by rw [hv];exact List.getElem_mem hlt
  have hvb:=hb v hvm
  obtain ⟨w,rfl⟩:∃ w:Nat,v=w:=⟨v.toNat,by omega⟩
  have hw:w<l.length:=by omega
  obtain ⟨d,hd⟩:∃ d,d=l[w]:=⟨_,rfl⟩
  have hdm:=ok d (by rw [hd];exact List.getElem_mem hw)
  have hat:atL (lists l) (w:Int)=zag d:=by rw [zmZ hw,hd]
  have ks:=fun h=>zrH d (zaB hdm).1 (zaB hdm).2 h
  have kl:=fun h=>zhf d (zaB hdm).1 (zaB hdm).2 h
  have hsz:=size0 d
  have hd1:l[w]? = some d:=by simp [hw,hd]
  have hd2:∀ h:w<l.length,l[w]'h=d:=fun _=>hd.symm
  have hv1:c.vars[i]? = some (w:Int):=by simp [hlt,hv]
  have hv2:∀ h:i<c.vars.length,c.vars[i]'h=(w:Int):=fun _=>hv.symm
  have hi4:(i:Int)<c.vars.length:=by omega
  have hi6:(w:Int)<l.length:=by omega
  have hwr:=zac hlt (by omega)
  have hdr:c.vars.drop i=(w:Int)::c.vars.drop (i+1):=by rw [List.drop_eq_getElem_cons hlt,←hv]
  have hwp:wiped (c.vars.drop i) (lists l)=((zag d).isEmpty||wiped (c.vars.drop (i+1)) (lists l)):=by
   rw [hdr]
   unfold wiped
   rw [List.any_cons,hat]
  obtain ⟨L1,c1,e1,k1,k2⟩:=few_in (dsV l) c.vars (zag d) i c.vars.length (.row 6 [zaq c]) (zbz d) (zag d).length 0 L cnt (i*64) (by omega) (fun y=>by have:=hG y;omega) (by have:=zbz d;omega)
  obtain ⟨L',c',e2⟩:=ih (i+1) L1 c1 (by omega) (fun y=>by have:=k2 y;have:=zbz d;omega)
  have e2n:=e2
  simp only [Int.natCast_add,Int.cast_ofNat_Int] at e1 e2n
  rw [hwp]
  cases hz:(zag d).isEmpty with
  | true=>
   rw [hz] at hsz
   refine ⟨L,cnt,?_⟩
   rw [Bool.true_or,if_pos rfl,zhb]
   refine ⟨[],?_⟩
   simp [zdw,hlt,hv1,hv2,hi4,hi6,hw,hd1,hd2,ks,hsz]
  | false=>
   rw [hz] at hsz
   refine ⟨L',c',?_⟩
   rw [Bool.false_or]
   cases hq:wiped (c.vars.drop (i+1)) (lists l) with
   | true=>
    rw [hq,if_pos rfl] at e2n
    obtain ⟨fr,e3⟩:=e2n
    rw [if_pos rfl]
    refine ⟨fr,?_⟩
    rw [←e3,zhb]
    simp [zdw,hlt,hv1,hv2,hi4,hi6,hw,hd1,hd2,ks,hsz,kl,e1,hwr]
   | false=>
    rw [hq,if_neg (by simp)] at e2n
    rw [if_neg (by simp)]
    refine ⟨?_,?_⟩
    ·rw [←e2n.1,zhb]
     simp [zdw,hlt,hv1,hv2,hi4,hi6,hw,hd1,hd2,ks,hsz,kl,e1,hwr]
    ·rw [e2n.2,k1,hdr,List.flatMap_cons,List.foldl_append,hat,List.drop_zero]
theorem few {c:Con} {l:Ds} (ok:okL l) (hb:∀ v∈c.vars,0≤v∧v<l.length) (h9:c.vars.length≤9) (h:List Ob):acw C zkD [zaq c,dsV l] h=some (.ret (.bool (wiped c.vars (lists l)||decide ((uni (c.vars.flatMap fun u=>atL (lists l) u)).length<c.vars.length))),h):=by
 obtain ⟨L,cnt,e⟩:=zEN ok hb h9 c.vars.length 0 [] 0 (by omega) (fun y=>by simp [gM])
 rw [List.drop_zero] at e
 simp only [Int.cast_ofNat_Int] at e
 cases hq:wiped c.vars (lists l) with
 | true=>
  rw [hq,if_pos rfl] at e
  obtain ⟨fr,e⟩:=e
  refine zar (v:=.bool _) (CT zro) rfl rfl (fun _=>rfl) (by simp) ⟨[.row 6 [zaq c],.map (mI L) cnt],?_⟩
  simp at e
  simp [zaa,zko,zn0,zux,e]
 | false=>
  rw [hq,if_neg (by simp)] at e
  have e4:[Ob.row 6 [zaq c],Ob.map (mI L) cnt][1]? = some (.map (mI L) cnt):=rfl
  have hm:∀ nid,opJ nid [Ob.row 6 [zaq c],Ob.map (mI L) cnt] .mln [.mp 1]=some (iv (zdl L).length,none):=fun nid=>o_mln e4
  have k0:zdl ([]:List Em)=[]:=rfl
  rw [zCB,←k0,←e.2]
  have e1:=e.1
  simp at e1
  refine zar (v:=.bool _) (CT zro) rfl rfl (fun _=>rfl) (by simp) ⟨[.row 6 [zaq c],.map (mI L) cnt],?_⟩
  simp [zaa,zko,zn0,zux,e1,hm]
theorem zwO (d:Dm) (v:Int):((zl1 d).2&&(zl1 d).1==v)=(zag d==[v]):=by
 unfold zl1 zmB zfV
 cases e:zag d with
 | nil=>simp
 | cons a r=>
  cases r with
  | nil=>simp
  | cons b r=>simp
theorem d_2_1 (l:Ds) (ok:okL l) (y x v:Int) (hy:0≤y∧y<l.length) (h:List Ob):acw C zbW [iv y,.pin (dsV l) 0,.pin (iv x) 0,.pin (iv v) 0] h=some (.ret (.bool (!(y==x)&&(atL (lists l) y==[v]))),h):=by
 obtain ⟨w,rfl⟩:∃ w:Nat,y=w:=⟨y.toNat,by omega⟩
 have hw:w<l.length:=by omega
 rw [zmZ hw]
 obtain ⟨d,hd⟩:∃ d,d=l[w]:=⟨_,rfl⟩
 have hdm:=ok d (by rw [hd];exact List.getElem_mem hw)
 have k:=fun h=>zy2 d (zaB hdm).1 (zaB hdm).2 h
 rw [←hd,←zwO]
 have hd1:l[w]? = some d:=by simp [hw,hd]
 have hd2:∀ h:w<l.length,l[w]'h=d:=fun _=>hd.symm
 have hi6:(w:Int)<l.length:=by omega
 refine zar (v:=.bool _) (CT zqw) rfl rfl (fun _=>rfl) (by simp) ⟨[],?_⟩
 obtain ⟨q,hq⟩:∃ q,q=zl1 d:=⟨_,rfl⟩
 rw [←hq] at k ⊢
 obtain ⟨q1,q2⟩:=q
 dsimp only at k ⊢
 cases e:((w:Int)==x) with
 | true=>
  have e':((w:Int) != x)=false:=by unfold bne;rw [e];rfl
  simp [zaa,zcS,zer,hw,hd1,hd2,hi6,k,e',e]
 | false=>
  have e':((w:Int) != x)=true:=by unfold bne;rw [e];rfl
  cases q2 with
  | false=>simp [zaa,zcS,zer,hw,hd1,hd2,hi6,k,e',e]
  | true=>
   cases e3:(q1==v)<;>simp [zaa,zcS,zer,hw,hd1,hd2,hi6,k,e',e,e3]
theorem d_2 (c:Con) (l:Ds) (ok:okL l) (hb:∀ v∈c.vars,0≤v∧v<l.length) (h9:c.vars.length≤9) (fw:Bool) (x v:Int) (h:List Ob):acw C zd3 [iv v,.pin (.bool fw) 0,.pin (zaq c) 0,.pin (dsV l) 0,.pin (iv x) 0] h=some (.ret (.bool (!fw&&!(c.vars.any fun u=>!(u==x)&&(atL (lists l) u==[v])))),h):=by
 have k:acw C zan [zab c.vars,.fn (.func zbW) [] [.pin (dsV l) 0,.pin (iv x) 0,.ptr 0 0 0 1]] [.row 1 [iv v]]=some (.ret (.bool (c.vars.any fun u=>!(u==x)&&(atL (lists l) u==[v]))),[.row 1 [iv v]]):=
  zfr (C:=C) (m:=zan) (n:=zaH) (enc:=V.int .i64) (CT zb1) (CT zbw) (g:=zbW) (first:=[]) (cap:=[.pin (dsV l) 0,.pin (iv x) 0,.pin (iv v) 0]) c.vars (by omega) (fun _ _=>zqD) rfl (fun _=>rfl) (p:=fun u=>!(u==x)&&(atL (lists l) u==[v])) (fun u hu=>d_2_1 l ok u x v (hb u hu) [])
 refine zar (v:=.bool _) (CT znR) rfl rfl (fun _=>rfl) (by simp) ⟨[.row 1 [iv v]],?_⟩
 cases fw with
 | true=>simp [zaa,zf1,zjn]
 | false=>simp [zaa,zf1,zjn,k]
def zC3 (fw:Bool) (c:Con) (L:Ls) (x v:Int):Bool:=!fw&&!(c.vars.any fun u=>!(u==x)&&(atL L u==[v]))
theorem zB7 {c:Con} {l:Ds} (ok:okL l) (hn:c.vars.Nodup) (hb:∀ v∈c.vars,0≤v∧v<l.length) (h9:c.vars.length≤9) (fw:Bool) (id b:Nat) (h2:2≤id) (hib:id<b):∀ (n i:Nat) (H:List Ob),i+n=c.vars.length→H[0]? = some (.row 6 [zaq c])→H[1]? = some (.row 1 [dsV l])→H[b]? = some (.row 1 [.bool fw])→H[id]? = some (.row 2 ((zmD (zC3 fw c (lists l)) l (c.vars.take i) l).map zaj)) →
  ∃ H',evw C y0 zhV [(2,.ptr 0 0 0 1),(3,.ptr 1 0 0 1),(6,.own id 0 l.length l.length),(9,.ptr b 0 0 1),(46,zab c.vars),(47,iv c.vars.length),(48,iv i)] H =
   some (.ext 2,[(2,.ptr 0 0 0 1),(3,.ptr 1 0 0 1),(6,.own id 0 l.length l.length),(9,.ptr b 0 0 1),(46,zab c.vars),(47,iv c.vars.length),(48,iv c.vars.length),(49,.bool false)],H')∧Mvd id H H' (zmD (zC3 fw c (lists l)) l c.vars l):=by
 intro n
 induction n with
 | zero=>
  intro i H hin _ _ _ g0
  have:i=c.vars.length:=by omega
  subst this
  rw [List.take_length] at g0
  rw [znb]
  refine ⟨H,?_,Mvd.refl g0⟩
  simp [zf9]
 | succ n ih=>
  intro i H hin a0 a1 a2 g0
  have hlt:i<c.vars.length:=by omega
  obtain ⟨v,hv⟩:∃ v,v=c.vars[i]:=⟨_,rfl⟩
  have hvm:v∈c.vars:=by rw [hv];exact List.getElem_mem hlt
  have hvb:=hb v hvm
  obtain ⟨w,rfl⟩:∃ w:Nat,v=w:=⟨v.toNat,by omega⟩
  obtain ⟨ds,hds⟩:∃ ds,ds=zmD (zC3 fw c (lists l)) l (c.vars.take i) l:=⟨_,rfl⟩
  have hdl:ds.length=l.length:=by rw [hds,zcH]
  have hw:w<l.length:=by omega
  have hw2:w<ds.length:=by omega
  have hnot:(w:Int)∉c.vars.take i:=fun q=>by
   obtain ⟨j,hj,e⟩:=List.mem_iff_getElem.1 q
   rw [List.length_take] at hj
   rw [List.getElem_take,hv] at e
   have:=(List.getElem_inj hn).1 e
   omega
  have hdw:ds[w]=l[w]:=by
   have:=zkq (P:=zC3 fw c (lists l)) (l:=l) (vs:=c.vars.take i) (ds:=l) (i:=w) (by rw [zcH];exact hw) hw hw (fun u hu=>(hb u (List.mem_of_mem_take hu)).1)
   rw [if_neg hnot] at this
   subst hds
   exact this
  obtain ⟨d,hd⟩:∃ d,d=l[w]:=⟨_,rfl⟩
  have hdm:=ok d (by rw [hd];exact List.getElem_mem hw)
  obtain ⟨D,hD⟩:∃ D,D=zau (zC3 fw c (lists l) w) d:=⟨_,rfl⟩
  have hbl:b<H.length:=(List.getElem?_eq_some_iff.1 a2).1
  have q0:∀ t,(H++t)[0]? = some (.row 6 [zaq c]):=fun t=>zat a0
  have q1:∀ t,(H++t)[1]? = some (.row 1 [dsV l]):=fun t=>zat a1
  have q2:∀ t,(H++t)[b]? = some (.row 1 [.bool fw]):=fun t=>zat a2
  have kk:=zw8 d hdm (zC3 fw c (lists l) w) zd3 [.ptr b 0 0 1,.ptr 0 0 0 1,.ptr 1 0 0 1,.ptr H.length 0 0 1] (H++[.row 1 [iv w]]) (fun x _ t=>by
   have k1:=d_2 c l ok hb h9 fw w x []
   refine zgG (a2:=[iv x,.pin (.bool fw) 0,.pin (zaq c) 0,.pin (dsV l) 0,.pin (iv w) 0]) (CT znR) rfl ?_ rfl k1 rfl
   rw [List.append_assoc]
   have z1:=zoM (q2 ([.row 1 [iv w]]++t)) (x':=.bool fw) rfl
   have z2:=zoM (q0 ([.row 1 [iv w]]++t)) (x':=zaq c) rfl
   have z3:=zoM (q1 ([.row 1 [iv w]]++t)) (x':=dsV l) rfl
   have z4:=zoM (h:=H++([.row 1 [iv w]]++t)) (a:=H.length) (sa:=1) (x:=iv w) (x':=iv w) (by simp) rfl
   have z0:frz (H++([.row 1 [iv w]]++t)) fdepth (iv x)=some (iv x):=rfl
   simp only [zj4,zdP,z0,z1,z2,z3,z4])
  rw [←hD,List.append_assoc] at kk
  simp only [List.cons_append,List.nil_append] at kk
  have e1:zmD (zC3 fw c (lists l)) l (c.vars.take (i+1)) l=ds.set w D:=by
   rw [List.take_succ_eq_append_getElem hlt,←hv,hds]
   unfold zmD
   rw [List.foldl_append]
   simp only [List.foldl_cons,List.foldl_nil,Int.toNat_natCast]
   rw [hD,hd,List.getD_eq_getElem?_getD,List.getElem?_eq_getElem hw]
   rfl
  rw [←hds] at g0
  have hidl:id<H.length:=(List.getElem?_eq_some_iff.1 g0).1
  have hi4:(i:Int)<c.vars.length:=by omega
  have hi6:(w:Int)<l.length:=by omega
  have hwr:=zac hlt (by omega)
  have hv1:c.vars[i]? = some (w:Int):=by simp [hlt,hv]
  have hv2:∀ h:i<c.vars.length,c.vars[i]'h=(w:Int):=fun _=>hv.symm
  have hd1:ds[w]? = some d:=by rw [List.getElem?_eq_getElem hw2,hdw,hd]
  have hd2:∀ h:w<ds.length,ds[w]'h=d:=fun _=>by rw [hdw,hd]
  have q4:∀ t,(H++t)[id]? = some (.row 2 (ds.map zaj)):=fun t=>zat g0
  have y4:∀ t h,(H++t)[id]'h=.row 2 (ds.map zaj):=fun t h=>(List.getElem?_eq_some_iff.1 (q4 t)).2
  obtain ⟨H',ih1,ih2⟩:=ih (i+1) (H.set id (.row 2 ((ds.set w D).map zaj))++[.row 1 [iv w],.row 2 [zaj D],.row 2 [zaj D]]) (by omega) (zat (by rw [List.getElem?_set_ne (by omega)];exact a0)) (zat (by rw [List.getElem?_set_ne (by omega)];exact a1)) (zat (by rw [List.getElem?_set_ne (by omega)];exact a2)) (by rw [e1];exact zat (List.getElem?_set_self hidl))
  simp only [Int.natCast_add,Int.cast_ofNat_Int] at ih1
  refine ⟨H',?_,Mvd.trans (h':=H.set id (.row 2 ((ds.set w D).map zaj))++[.row 1 [iv w],.row 2 [zaj D],.row 2 [zaj D]]) (a:=ds.set w D) ⟨by simp,zat (List.getElem?_set_self hidl),fun j h1 h2=>?_⟩ ih2⟩
  ·rw [←ih1,znb]
   simp [zf9,hlt,hv1,hv2,hd1,hd2,hw,hw2,hi4,hi6,hwr,kk,q4,y4,g0,hdl]
   rw [zq3 hidl]
  ·rw [List.getElem?_append_left (by simpa using h1),List.getElem?_set_ne (by omega)]
theorem kp_dif {c:Con} {L:Ls} {v x:Int} (hk:c.kind=5) (hv:v∈c.vars):kp c L v x=zC3 (wiped c.vars L||decide ((uni (c.vars.flatMap fun u=>atL L u)).length<c.vars.length)) c L v x:=by
 unfold kp
 rw [if_neg (by rw [List.contains_iff_mem.2 hv];simp),if_neg (by omega),if_neg (by omega),if_neg (by omega),if_neg (by omega),if_pos hk]
 rfl
theorem zxs (c:Con) (hc:c150 c) (l:Ds) (hl:zmK l) (h:List Ob):acw C zgd [zaq c,dsV l] h=some (.ret (.tup [dsV (znO (decide (c.kind=5)) c l).1,iv (znO (decide (c.kind=5)) c l).2]),h):=by
 have kr:=fun h=>right c l.length (zki hc) h
 have km:=fun h=>zd9 (fun d=>!zcX d) zdY l (fun d hd h=>dmay_1 d (hl.d d hd) h) hl.n h
 rw [zgD] at km
 unfold znO
 have bad:∀ (g:decide (c.kind=5)=false∨zaC c l.length=false∨zfR l=false),acw C zgd [zaq c,dsV l] h=some (.ret (.tup [dsV [],iv 1]),h):=fun g=>by
  refine zap (h':=[.row 6 [zaq c],.row 1 [dsV l]]) (v:=.tup [.nsl 2,iv 1]) (v':=.tup [dsV [],iv 1]) (CT zp1) rfl rfl ?_ rfl (by simp)
  by_cases c1:c.kind=5
  ·have n1:(c.kind != 5)=false:=by rw [c1];rfl
   rcases g with g|g|g
   ·simp [c1] at g
   ·simp [zaa,zdc,zga,n1,kr,g]
   ·cases hr:zaC c l.length<;>rw [hr] at kr<;>simp [zaa,zdc,zga,n1,kr,km,g]
  ·have c1':(c.kind != 5)=true:=by rw [bne_iff_ne];exact c1
   simp [zaa,zdc,zga,c1']
 cases hk:decide (c.kind=5) with
 | false=>exact bad (.inl hk)
 | true=>
 cases hr:zaC c l.length with
 | false=>exact bad (.inr (.inl hr))
 | true=>
 cases hm:zfR l with
 | false=>exact bad (.inr (.inr hm))
 | true=>
 simp only [Bool.and_self,if_true]
 rw [hr] at kr
 rw [hm] at km
 have hk2:c.kind=5:=by simpa using hk
 have ok:=zgu hm
 have rc:=RC.of hr
 obtain ⟨v,h1,e1,a1,s1⟩:=zsv ok hl.n (.ptr 0 0 0 1) (.ptr 1 0 0 1) 2 l.length 0 (.nsl 2) [.row 6 [zaq c],.row 1 [dsV l]] (by omega) (by simp) (.inl ⟨rfl,by simp⟩)
 simp only [Int.cast_ofNat_Int] at e1
 have b0:h1[0]? = some (.row 6 [zaq c]):=by rw [s1 0 (by omega)];rfl
 have b1:h1[1]? = some (.row 1 [dsV l]):=by rw [s1 1 (by omega)];rfl
 have hpos:0<l.length:=by
  have hvl:c.vars≠[]:=by
   intro e
   unfold zaC zlk zfq at hr
   rw [if_neg (by omega),if_neg (by omega),if_neg (by omega),if_neg (by omega),if_pos hk2,e] at hr
   simp at hr
  obtain ⟨u,hu⟩:=List.exists_mem_of_ne_nil _ hvl
  have:=rc.b u hu
  omega
 obtain ⟨id,hid,rfl,g1⟩:∃ id,2≤id∧v=.own id 0 l.length l.length∧h1[id]? = some (.row 2 (l.map zaj)):=by
  rcases a1 with ⟨-,q⟩|⟨id,q1,q2,q3⟩
  ·have:=congrArg List.length q
   simp at this
   rw [this] at hpos
   simp at hpos
  ·exact ⟨id,q1,by simpa using q2,q3⟩
 have hidl:id<h1.length:=(List.getElem?_eq_some_iff.1 g1).1
 have kf:=fun h=>few ok rc.b rc.v8.1 h
 obtain ⟨fw,hfw⟩:∃ fw,fw=(wiped c.vars (lists l)||decide ((uni (c.vars.flatMap fun u=>atL (lists l) u)).length<c.vars.length)):=⟨_,rfl⟩
 rw [←hfw] at kf
 obtain ⟨h2,e2,m2⟩:=zB7 ok rc.nd rc.b rc.v8.1 fw id h1.length hid hidl c.vars.length 0 (h1++[.row 1 [.bool fw]]) (by omega) (zat b0) (zat b1) (by simp) (by rw [List.take_zero];exact zat g1)
 simp only [Int.cast_ofNat_Int] at e2
 rw [zn3 ok (fun v hv=>(rc.b v hv).1) fun i hi hv x hx=>by rw [kp_dif hk2 hv,←hfw]] at m2
 have key:zpt (evw C y0) zdc [zaq c,dsV l] []=some (.ret (.tup [.own id 0 l.length l.length,iv 0]),h2):=by
  have n1:(c.kind != 5)=false:=by rw [hk2];rfl
  have x0:∀ t,(h1++t)[0]? = some (.row 6 [zaq c]):=fun t=>zat b0
  have x00:∀ t h,(h1++t)[0]'h=.row 6 [zaq c]:=fun t h=>(List.getElem?_eq_some_iff.1 (x0 t)).2
  simp [zaa,zdc,zga,n1,kr,km,e1,b0,b1,kf,x0,x00,e2]
 refine zap (h':=h2) (v:=.tup [.own id 0 l.length l.length,iv 0]) (v':=.tup [dsV (zai c l),iv 0]) (CT zp1) rfl rfl key ?_ (by simp)
 have f1:=zmj m2.at_ (n:=l.length) (by rw [zby]) 5
 have f2:frz h2 fdepth (.tup [.own id 0 l.length l.length,iv 0])=(zdP (frz h2 11) [.own id 0 l.length l.length,iv 0]).map .tup:=rfl
 rw [f2]
 simp only [zdP,f1]
 rfl
def tR:IR:=.seq (.seq (.rg [⟨(some 16),none,.mov (.t 7)⟩,
  ⟨(some 17),none,.len (.t 16)⟩,
  ⟨(some 18),none,.bin .eql (.t 17) (.c (.int .i64 0))⟩] (some [1,2,5,6,7,18]))
   (.cond (.t 18) (.seq (.rg [⟨(some 19),none,.mov (.t 5)⟩,
  ⟨(some 4),none,.mov (.t 19)⟩] (some [4]))
   (.ret)) (.skip)))
   (.seq (.rg [⟨(some 20),none,.mov (.t 7)⟩,
  ⟨(some 21),none,.mov (.t 6)⟩,
  ⟨(some 22),none,.mov (.t 6)⟩,
  ⟨(some 23),none,.sll 1 (.t 20) none (some (.t 21)) (some (.t 22))⟩,
  ⟨(some 8),none,.mov (.t 23)⟩] (some [1,2,5,6,7,8]))
   (.seq (.rg [⟨(some 24),none,.mov (.t 7)⟩,
  ⟨(some 25),none,.mov (.t 6)⟩,
  ⟨(some 26),none,.sll 1 (.t 24) (some (.t 25)) none none⟩,
  ⟨(some 7),none,.mov (.t 26)⟩] (some [1,2,5,6,7,8]))
   (.seq (.seq (.rg [⟨(some 27),none,.fad 1 (.t 2)⟩,
  ⟨(some 28),none,.ld false 1 (.t 27)⟩,
  ⟨(some 29),none,.len (.t 28)⟩,
  ⟨(some 30),none,.mov (.c (.int .i64 0))⟩] (some [1,2,5,6,7,8,28,29,30]))
   (.blk 0 (zdk)))
   (.seq (.rg [⟨(some 46),none,.mov (.t 5)⟩,
  ⟨(some 47),none,.mov (.t 8)⟩,
  ⟨(some 48),none,.bsf (.nsl 1) 1 [(0,(.t 47))]⟩,
  ⟨(some 49),none,.app 1 24 (.t 46) (.t 48)⟩,
  ⟨(some 5),none,.mov (.t 49)⟩] (some [1,2,5,6,7]))
   (.gto 0)))))
theorem zAW:tR=.seq (.seq (.rg [⟨(some 16),none,.mov (.t 7)⟩,
  ⟨(some 17),none,.len (.t 16)⟩,
  ⟨(some 18),none,.bin .eql (.t 17) (.c (.int .i64 0))⟩] (some [1,2,5,6,7,18]))
   (.cond (.t 18) (.seq (.rg [⟨(some 19),none,.mov (.t 5)⟩,
  ⟨(some 4),none,.mov (.t 19)⟩] (some [4]))
   (.ret)) (.skip)))
   (.seq (.rg [⟨(some 20),none,.mov (.t 7)⟩,
  ⟨(some 21),none,.mov (.t 6)⟩,
  ⟨(some 22),none,.mov (.t 6)⟩,
  ⟨(some 23),none,.sll 1 (.t 20) none (some (.t 21)) (some (.t 22))⟩,
  ⟨(some 8),none,.mov (.t 23)⟩] (some [1,2,5,6,7,8]))
   (.seq (.rg [⟨(some 24),none,.mov (.t 7)⟩,
  ⟨(some 25),none,.mov (.t 6)⟩,
  ⟨(some 26),none,.sll 1 (.t 24) (some (.t 25)) none none⟩,
  ⟨(some 7),none,.mov (.t 26)⟩] (some [1,2,5,6,7,8]))
   (.seq (.seq (.rg [⟨(some 27),none,.fad 1 (.t 2)⟩,
  ⟨(some 28),none,.ld false 1 (.t 27)⟩,
  ⟨(some 29),none,.len (.t 28)⟩,
  ⟨(some 30),none,.mov (.c (.int .i64 0))⟩] (some [1,2,5,6,7,8,28,29,30]))
   (.blk 0 (zdk)))
   (.seq (.rg [⟨(some 46),none,.mov (.t 5)⟩,
  ⟨(some 47),none,.mov (.t 8)⟩,
  ⟨(some 48),none,.bsf (.nsl 1) 1 [(0,(.t 47))]⟩,
  ⟨(some 49),none,.app 1 24 (.t 46) (.t 48)⟩,
  ⟨(some 5),none,.mov (.t 49)⟩] (some [1,2,5,6,7]))
   (.gto 0))))):=rfl
def tB:IR:=.seq (.rg [⟨(some 5),none,.mov (.c (.nsl 1))⟩] (some [1,2,5]))
   (.seq (.rg [⟨(some 11),none,.fad 1 (.t 2)⟩,
  ⟨(some 12),none,.ld false 1 (.t 11)⟩,
  ⟨(some 13),none,.len (.t 12)⟩,
  ⟨(some 6),none,.mov (.t 13)⟩] (some [1,2,5,6]))
   (.seq (.rg [⟨(some 14),none,.fad 5 (.t 2)⟩,
  ⟨(some 15),none,.ld false 1 (.t 14)⟩,
  ⟨(some 7),none,.mov (.t 15)⟩] (some [1,2,5,6,7]))
   (.seq (.lab 0)
   tR)))
theorem zAN:zmf=.seq (.rg [⟨(some 2),none,.box (.t 0)⟩,
  ⟨(some 4),none,.mov (.c (.nsl 1))⟩] (some [1,2]))
   (.scg tB):=rfl
theorem tJ {fr:Fr} {h:List Ob}:scW C y0 tB (some (.gto 0,fr,h))=scW C y0 tB (evw C y0 tR fr h):=by
 rw [zEQ (r:=.seq .skip tR) rfl,w_scr,zDJ,w_skip]
 rfl
theorem zuV {i l:Nat} {fr:Fr} {h:List Ob}:zAG i (some (.gto l,fr,h))=some (.gto l,fr,h):=rfl
theorem zxk {l:Nat} {fr:Fr} {h:List Ob} {f:Fr→List Ob→Option Rs}:nxt (some (.gto l,fr,h)) f=some (.gto l,fr,h):=rfl
theorem v_sllm {h:List Ob} {sz n:Nat} {xs:List V} (h0:0<n) (h1:n≤xs.length):zx4 h sz (.sl sz xs) none (some (iv n)) (some (iv n))=some (.sl sz (xs.take n),none):=by
 have b:bounds xs.length none (some (n:Int))=some (0,n):=by
  unfold bounds
  rw [if_pos (by simp;omega)]
  simp
 have h2:n≠0:=by omega
 simp [zx4,op1,oint,b,h2]
theorem tmay_1 (d:Dm) (hd:d.live<18446744073709551616∧d.vals.length≤1000000) (h:List Ob):acw C zeY [zaj d] h=some (.ret (.bool (!zcX d)),h):=by
 have k:=fun h=>zjb d hd.1 hd.2 h
 refine zar (v:=.bool _) (CT ztv) rfl rfl (fun _=>rfl) (by simp) ⟨[.row 2 [zaj d]],?_⟩
 simp [zaa,zla,zoY,k]
theorem zCg {c:Con} {l:Ds} (ok:okL l) (hb:∀ v∈c.vars,0≤v∧v<l.length) (h9:c.vars.length≤9) (r:List Int) (hr:r.length=c.vars.length) (p v q:V) (n:Nat) (h:List Ob):∀ (m i:Nat),i+m=c.vars.length →
  ∃ j:Nat,evw C y0 zdk [(1,dsV l),(2,p),(5,v),(6,iv n),(7,q),(8,zab r),(28,zab c.vars),(29,iv c.vars.length),(30,iv i)] h =
   if zgz (c.vars.drop i) (lists l) (r.drop i)=true then some (.ext 0,[(1,dsV l),(2,p),(5,v),(6,iv n),(7,q),(8,zab r),(28,zab c.vars),(29,iv c.vars.length),(30,iv c.vars.length),(31,.bool false)],h)
   else some (.gto 0,[(1,dsV l),(2,p),(5,v),(6,iv n),(7,q),(8,zab r),(28,zab c.vars),(29,iv c.vars.length),(30,iv j),(44,.bool true)],h):=by
 intro m
 induction m with
 | zero=>
  intro i him
  have:i=c.vars.length:=by omega
  subst this
  refine ⟨0,?_⟩
  rw [zjj,List.drop_length,if_pos (by simp [zgz])]
  simp [zea]
 | succ m ih=>
  intro i him
  have hlt:i<c.vars.length:=by omega
  have hlr:i<r.length:=by omega
  obtain ⟨u,hu⟩:∃ v,v=c.vars[i]:=⟨_,rfl⟩
  have hub:=hb u (by rw [hu];exact List.getElem_mem hlt)
  obtain ⟨w,rfl⟩:∃ w:Nat,u=w:=⟨u.toNat,by omega⟩
  have hw:w<l.length:=by omega
  obtain ⟨d,hd⟩:∃ d,d=l[w]:=⟨_,rfl⟩
  have hdm:=ok d (by rw [hd];exact List.getElem_mem hw)
  have hat:atL (lists l) (w:Int)=zag d:=by rw [zmZ hw,hd]
  obtain ⟨x,hx⟩:∃ x,x=r[i]:=⟨_,rfl⟩
  have kh:=fun h=>zwM d x (zaB hdm).1 (zaB hdm).2 h
  have hany:((zag d).any fun y=>x==y)=(zag d).contains x:=by
   rw [Bool.eq_iff_iff]
   simp [List.any_eq_true,List.contains_iff_mem]
  rw [hany] at kh
  have hd1:l[w]? = some d:=by simp [hw,hd]
  have hd2:∀ h:w<l.length,l[w]'h=d:=fun _=>hd.symm
  have hv1:c.vars[i]? = some (w:Int):=by simp [hlt,hu]
  have hv2:∀ h:i<c.vars.length,c.vars[i]'h=(w:Int):=fun _=>hu.symm
  have hx1:r[i]? = some x:=by simp [hlr,hx]
  have hx2:∀ h:i<r.length,r[i]'h=x:=fun _=>hx.symm
  have hi4:(i:Int)<c.vars.length:=by omega
  have hi5:(i:Int)<r.length:=by omega
  have hi6:(w:Int)<l.length:=by omega
  have hwr:=zac hlt (by omega)
  have ea:zgz (c.vars.drop i) (lists l) (r.drop i)=((zag d).contains x&&zgz (c.vars.drop (i+1)) (lists l) (r.drop (i+1))):=by
   rw [List.drop_eq_getElem_cons hlt,List.drop_eq_getElem_cons hlr,←hu,←hx]
   unfold zgz
   rw [List.zip_cons_cons,List.all_cons,hat]
  obtain ⟨j,ih⟩:=ih (i+1) (by omega)
  simp only [Int.natCast_add,Int.cast_ofNat_Int] at ih
  rw [ea]
  cases hc:(zag d).contains x with
  | false=>
   rw [hc] at kh
   refine ⟨i,?_⟩
   rw [Bool.false_and,if_neg (by simp),zjj]
   simp [zea,zuV,zxk,hlt,hlr,hv1,hv2,hx1,hx2,hd1,hd2,hw,hi4,hi5,hi6,hwr,kh]
  | true=>
   rw [hc] at kh
   refine ⟨j,?_⟩
   rw [Bool.true_and,←ih,zjj]
   simp [zea,hlt,hlr,hv1,hv2,hx1,hx2,hd1,hd2,hw,hi4,hi5,hi6,hwr,kh]
theorem zBx {c:Con} {l:Ds} (ok:okL l) (hb:∀ v∈c.vars,0≤v∧v<l.length) (h9:c.vars.length≤9) (h1:1≤c.vars.length):∀ (k:Nat) (nums:List Int) (acc:List (List Int)) (v:V) (h:List Ob) (fr:Fr),nums.length=k*c.vars.length→acc.length+k≤1000→zmL 1 h v 1 (acc.map zab)→h[0]? = some (.row 6 [zaq c])→1≤h.length →
  RR.get fr 1=dsV l→RR.get fr 2=.ptr 0 0 0 1→RR.get fr 5=v→RR.get fr 6=iv c.vars.length→RR.get fr 7=zab nums →
  ∃ v' h',scW C y0 tB (evw C y0 tR fr h)=some (.ret,[(4,v')],h')∧zmL 1 h' v' 1 ((acc++(zgA c.vars.length k nums).filter (zgz c.vars (lists l))).map zab):=by
 intro k
 induction k with
 | zero=>
  intro nums acc v h fr hn _ a h0 hl g1 g2 g5 g6 g7
  have:nums=[]:=List.length_eq_zero_iff.1 (by omega)
  subst this
  refine ⟨v,h,?_,by simpa [zgA] using a⟩
  rw [zAW]
  simp [g1,g2,g5,g6,g7]
 | succ k ih=>
  intro nums acc v h fr hn hk a h0 hl g1 g2 g5 g6 g7
  obtain ⟨n,hnn⟩:∃ n,n=c.vars.length:=⟨_,rfl⟩
  have hge:n≤nums.length:=by rw [hn,←hnn,Nat.succ_mul];omega
  have hpos:0<nums.length:=by omega
  have hne:((nums.length:Int)==0)=false:=by rw [beq_eq_false_iff_ne];omega
  have hlr:(nums.take n).length=n:=by rw [List.length_take];omega
  have hs:∀ h,zx4 h 1 (.sl 1 (nums.map (V.int .i64))) none (some (iv n)) (some (iv n))=some (zab (nums.take n),none):=fun h=>by
   rw [v_sllm (by omega) (by simpa using hge),←List.map_take]
  have hs2:∀ h,zx4 h 1 (.sl 1 (nums.map (V.int .i64))) (some (iv n)) none none=some (zab (nums.drop n),none):=fun h=>by
   have b:bounds nums.length (some (n:Int)) none=some (n,nums.length):=by
    unfold bounds
    rw [if_pos (by simp;omega)]
    simp
   simp [oint,b]
   rw [List.take_of_length_le (by simp)]
  obtain ⟨r,hr⟩:∃ r,r=nums.take n:=⟨_,rfl⟩
  obtain ⟨rs,hrs⟩:∃ rs,rs=nums.drop n:=⟨_,rfl⟩
  rw [←hr] at hs hlr
  rw [←hrs] at hs2
  obtain ⟨j,e⟩:=zCg ok hb h9 r (by omega) (.ptr 0 0 0 1) v (zab rs) n h c.vars.length 0 (by omega)
  simp only [List.drop_zero,Int.cast_ofNat_Int] at e
  have hrl:rs.length=k*c.vars.length:=by rw [hrs,List.length_drop,hn,hnn,Nat.succ_mul];omega
  have ew:zgA c.vars.length (k+1) nums=r::zgA c.vars.length k rs:=by rw [zgA,hr,hrs,hnn]
  rw [ew,List.filter_cons]
  rw [hnn] at hs hs2
  cases hal:zgz c.vars (lists l) r with
  | false=>
   rw [hal,if_neg (by simp)] at e
   obtain ⟨v',h',q1,q2⟩:=ih rs acc v h [(1,dsV l),(2,.ptr 0 0 0 1),(5,v),(6,iv n),(7,zab rs),(8,zab r),(28,zab c.vars),(29,iv c.vars.length),(30,iv j),(44,.bool true)] hrl (by omega) a h0 hl rfl rfl rfl (by rw [hnn];rfl) rfl
   refine ⟨v',h',?_,by simpa using q2⟩
   rw [←q1]
   rw [hnn] at e ⊢
   conv=>lhs;rw [zAW]
   simp [g1,g2,g5,g6,g7,hne,hs,hs2,h0,e,tJ,zuV,zxk]
  | true=>
   rw [hal,if_pos rfl] at e
   have k4:zii (.nsl 1) [zab r]=some (.sl 1 [zab r]):=rfl
   obtain ⟨v1,w,e1,e2,e3,e4⟩:=a.app (b:=24) (y:=.sl 1 [zab r]) (ys:=[zab r]) hl rfl (by simp;omega) (by simp;omega)
   obtain ⟨v',h',q1,q2⟩:=ih rs (acc++[r]) v1 (wr h w) [(1,dsV l),(2,.ptr 0 0 0 1),(5,v1),(6,iv n),(7,zab rs)] hrl (by simp;omega) (by simpa using e2) (by rw [e4 0 (by omega)];exact h0) (Nat.le_trans hl (zjR _ w)) rfl rfl rfl (by rw [hnn];rfl) rfl
   refine ⟨v',h',?_,by simpa using q2⟩
   rw [←q1]
   rw [hnn] at e ⊢
   conv=>lhs;rw [zAW]
   simp [g1,g2,g5,g6,g7,hne,hs,hs2,h0,e,tJ,zuV,zxk,k4,e1]
abbrev zxl (rs:List (List Int)):V:=.sl 1 (rs.map zab)
theorem tB_run {c:Con} {l:Ds}:evw C y0 tB [(1,dsV l),(2,.ptr 0 0 0 1)] [.row 6 [zaq c]]=evw C y0 tR [(1,dsV l),(2,.ptr 0 0 0 1),(5,.nsl 1),(6,iv c.vars.length),(7,zab c.nums)] [.row 6 [zaq c]]:=by
 unfold tB
 simp
theorem alive {c:Con} {l:Ds} {k:Nat} (ok:okL l) (hb:∀ v∈c.vars,0≤v∧v<l.length) (h9:c.vars.length≤9) (h1:1≤c.vars.length) (hn:c.nums.length=k*c.vars.length) (hk:k≤1000) (h:List Ob) :
  acw C ziJ [zaq c,dsV l] h=some (.ret (zxl ((zgA c.vars.length k c.nums).filter (zgz c.vars (lists l)))),h):=by
 obtain ⟨v',h',e,a⟩:=zBx ok hb h9 h1 k c.nums [] (.nsl 1) [.row 6 [zaq c]] [(1,dsV l),(2,.ptr 0 0 0 1),(5,.nsl 1),(6,iv c.vars.length),(7,zab c.nums)] hn (by simpa using hk) (.inl ⟨rfl,rfl⟩) rfl (by simp) rfl rfl rfl rfl rfl
 rw [List.nil_append] at a
 have f:=a.frz (ys:=((zgA c.vars.length k c.nums).filter (zgz c.vars (lists l))).map zab) 11 (znz fun x hx=>by
  obtain ⟨b,-,rfl⟩:=List.mem_map.1 hx
  rfl)
 refine zap (h':=h') (v:=v') (v':=zxl _) (CT zuy) rfl rfl ?_ f (by
  obtain ⟨a1,a2,a3,a4⟩:=a.good
  simp [a1,a2])
 have hF:zmo.body=zmf:=rfl
 simp [zaa,zmo,zAN,tB_run,e]
theorem t_2 (r:List Int) (i:Nat) (v:Int) (hi:i<r.length) (h:List Ob):acw C zdq [zab r,.pin (iv i) 0,.pin (iv v) 0] h=some (.ret (.bool (r.getD i 0==v)),h):=by
 obtain ⟨x,hx⟩:∃ x,x=r[i]:=⟨_,rfl⟩
 have hx1:r[i]? = some x:=by simp [hi,hx]
 have hx2:∀ h:i<r.length,r[i]'h=x:=fun _=>hx.symm
 have e:r.getD i 0=x:=by rw [List.getD_eq_getElem?_getD,hx1];rfl
 have hi4:(i:Int)<r.length:=by omega
 rw [e]
 refine zar (v:=.bool _) (CT ztE) rfl rfl (fun _=>rfl) (by simp) ⟨[],?_⟩
 simp [zaa,zlw,zoA,hx1,hx2,hi,hi4]
theorem frz_f2 {h:List Ob} {f a b:Nat} {x y:Int} (ha:h[a]? = some (.row 1 [iv x])) (hb:h[b]? = some (.row 1 [iv y])):frz h fdepth (.fn (.func f) [] [.ptr a 0 0 1,.ptr b 0 0 1])=some (.fn (.func f) [] [.pin (iv x) 0,.pin (iv y) 0]):=by
 have e1:zaF h a 1=some (1,[iv x]):=by simp [zaF,ha]
 have e2:zaF h b 1=some (1,[iv y]):=by simp [zaF,hb]
 simp [fdepth,frz,e1,e2,ha,hb]
def ztT (rs:List (List Int)) (i:Nat) (x:Int):Bool:=rs.any fun r=>r.getD i 0==x
theorem tab_in {l:Ds} {c:Con} {i w:Nat} (rs:List (List Int)) (hrs:∀ r∈rs,i<r.length) (hrl:rs.length≤1000) (d:Dm) (hm:zcX d=true) (id N:Nat) (hne:id≠N) (q1 q2 q3:V) (ds:Ds) (hdl:ds.length=l.length) (hw:w<ds.length):∀ (m j:Nat) (H:List Ob),j+m=(zag d).length→H[N]? = some (.row 1 [iv i])→H[id]? = some (.row 2 ((ds.set w (zau (qk (ztT rs i) (zag d) j) d)).map zaj)) →
  ∃ H',evw C y0 zjc [(1,q1),(6,.own id 0 l.length l.length),(9,zxl rs),(10,.ptr N 0 0 1),(11,iv w),(48,q2),(49,q3),(50,iv i),(59,zab (zag d)),(60,iv (zag d).length),(61,iv j)] H =
   some (.ext 4,[(1,q1),(6,.own id 0 l.length l.length),(9,zxl rs),(10,.ptr N 0 0 1),(11,iv w),(48,q2),(49,q3),(50,iv i),(59,zab (zag d)),(60,iv (zag d).length),(61,iv (zag d).length),(62,.bool false)],H')∧Mvd id H H' (ds.set w (zau (ztT rs i) d)):=by
 intro m
 induction m with
 | zero=>
  intro j H hjm hN g0
  have:j=(zag d).length:=by omega
  subst this
  have e1:zau (qk (ztT rs i) (zag d) (zag d).length) d=zau (ztT rs i) d:=zaD fun x hx=>by
   unfold qk
   rw [List.take_length,List.contains_iff_mem.2 hx]
   simp
  rw [e1] at g0
  rw [zk3]
  refine ⟨H,?_,Mvd.refl g0⟩
  simp [zeI]
 | succ m ih=>
  intro j H hjm hN g0
  have hlt:j<(zag d).length:=by omega
  obtain ⟨x,hx⟩:∃ x,x=(zag d)[j]:=⟨_,rfl⟩
  have hlen:=zbz d
  have hwr:=zac hlt (by omega)
  have hj4:(j:Int)<(zag d).length:=by omega
  obtain ⟨L,hL⟩:∃ L,L=zag d:=⟨_,rfl⟩
  have hq:∀ y,(L.take (j+1)).contains y=((L.take j).contains y||y==x):=fun y=>by
   rw [hL,List.take_succ_eq_append_getElem hlt,←hx,Bool.eq_iff_iff]
   simp [List.contains_iff_mem]
  have hx1:L[j]? = some x:=by simp [hL,hlt,hx]
  have hx2:∀ h:j<L.length,L[j]'h=x:=fun _=>by subst hL;exact hx.symm
  have hidl:id<H.length:=(List.getElem?_eq_some_iff.1 g0).1
  have kc:acw C zaG [zxl rs,.fn (.func zdq) [] [.ptr N 0 0 1,.ptr H.length 0 0 1]] (H++[.row 1 [iv x]])=some (.ret (.bool (ztT rs i x)),H++[.row 1 [iv x]]):=
   zfr (C:=C) (m:=zaG) (n:=za4) (enc:=zab) (CT zhY) (CT zgy) (g:=zdq) (first:=[]) (cap:=[.pin (iv i) 0,.pin (iv x) 0]) rs (by omega) (fun _ _=>elt_sl) (frz_f2 (zat hN) (by simp)) (fun _=>rfl) (p:=fun r=>r.getD i 0==x) (fun r hr=>t_2 r i x (hrs r hr) [])
  obtain ⟨D,hD⟩:∃ D,D=zau (qk (ztT rs i) L j) d:=⟨_,rfl⟩
  rw [←hL] at hlt hj4 ih g0 hjm ⊢
  rw [←hD] at g0
  by_cases cc:ztT rs i x=true
  ·rw [cc] at kc
   have e:zau (qk (ztT rs i) L (j+1)) d=D:=by
    rw [hD]
    refine zaD fun y _=>?_
    unfold qk
    rw [hq]
    by_cases hy:y=x
    ·rw [hy,cc];rfl
    ·have:(y==x)=false:=by simpa using hy
     rw [this,Bool.or_false]
   obtain ⟨H',ih1,ih2⟩:=ih (j+1) (H++[.row 1 [iv x]]) (by omega) (zat hN) (by rw [e];exact zat g0)
   simp only [Int.natCast_add,Int.cast_ofNat_Int] at ih1
   refine ⟨H',?_,(Mvd.grow g0).trans ih2⟩
   rw [←ih1,zk3]
   simp [zeI,hlt,hx1,hx2,hj4,hwr,kc]
  ·have c':ztT rs i x=false:=by simpa using cc
   rw [c'] at kc
   have e:zau (qk (ztT rs i) L (j+1)) d=zau (fun y=>y != x) D:=by
    rw [hD,zny hm]
    refine zaD fun y _=>?_
    unfold qk
    rw [hq]
    by_cases hy:y=x
    ·rw [hy,c'];simp
    ·have h1:(y==x)=false:=by simpa using hy
     have h2:(y != x)=true:=by simpa [bne_iff_ne] using hy
     rw [h1,h2,Bool.or_false,Bool.and_true]
   have hDm:zcX D=true:=by rw [hD];exact (zhg hm).2.1
   have kl:=fun h=>zqf D x (zaB hDm).1 (zaB hDm).2 h
   obtain ⟨E,hE⟩:∃ E,E=zau (fun y=>y != x) D:=⟨_,rfl⟩
   rw [←hE] at kl e
   obtain ⟨H',ih1,ih2⟩:=ih (j+1) (H.set id (.row 2 ((ds.set w E).map zaj))++[.row 1 [iv x]]) (by omega) (zat (by rw [List.getElem?_set_ne hne];exact hN)) (by rw [e];exact zat (List.getElem?_set_self hidl))
   simp only [Int.natCast_add,Int.cast_ofNat_Int] at ih1
   refine ⟨H',?_,Mvd.trans (h':=H.set id (.row 2 ((ds.set w E).map zaj))++[.row 1 [iv x]]) (a:=ds.set w E) ⟨by simp,zat (List.getElem?_set_self hidl),fun k h1 h2=>?_⟩ ih2⟩
   ·rw [←ih1,zk3]
    have q0:∀ t,(H++t)[id]? = some (.row 2 ((ds.map zaj).set w (zaj D))):=fun t=>zat (by rw [g0,List.map_set])
    have y4:∀ t h,(H++t)[id]'h=.row 2 ((ds.map zaj).set w (zaj D)):=fun t h=>(List.getElem?_eq_some_iff.1 (q0 t)).2
    have hw6:(w:Int)<l.length:=by omega
    have hw7:w<l.length:=by omega
    simp [zeI,hlt,hx1,hx2,hj4,hwr,kc,q0,y4,kl,hw,hw6,hw7,hdl]
    rw [zq3 hidl]
   ·rw [List.getElem?_append_left (by simpa using h1),List.getElem?_set_ne (fun q=>h2 q.symm)]
theorem zDz {c:Con} {l:Ds} (ok:okL l) (hn:c.vars.Nodup) (hb:∀ v∈c.vars,0≤v∧v<l.length) (h9:c.vars.length≤9) (rs:List (List Int)) (hrs:∀ r∈rs,r.length=c.vars.length) (hrl:rs.length≤1000) (id:Nat):∀ (n i:Nat) (H:List Ob),i+n=c.vars.length→H[id]? = some (.row 2 ((zmD (fun v=>ztT rs (c.vars.idxOf v)) l (c.vars.take i) l).map zaj)) →
  ∃ H',evw C y0 zjt [(1,dsV l),(6,.own id 0 l.length l.length),(9,zxl rs),(48,zab c.vars),(49,iv c.vars.length),(50,iv i)] H =
   some (.ext 2,[(1,dsV l),(6,.own id 0 l.length l.length),(9,zxl rs),(48,zab c.vars),(49,iv c.vars.length),(50,iv c.vars.length),(51,.bool false)],H')∧Mvd id H H' (zmD (fun v=>ztT rs (c.vars.idxOf v)) l c.vars l):=by
 intro n
 induction n with
 | zero=>
  intro i H hin g0
  have:i=c.vars.length:=by omega
  subst this
  rw [List.take_length] at g0
  rw [zoS]
  refine ⟨H,?_,Mvd.refl g0⟩
  simp [zhe]
 | succ n ih=>
  intro i H hin g0
  have hlt:i<c.vars.length:=by omega
  obtain ⟨v,hv⟩:∃ v,v=c.vars[i]:=⟨_,rfl⟩
  have hvm:v∈c.vars:=by rw [hv];exact List.getElem_mem hlt
  have hvb:=hb v hvm
  have hix:c.vars.idxOf v=i:=by rw [hv,hn.idxOf_getElem i hlt]
  obtain ⟨w,rfl⟩:∃ w:Nat,v=w:=⟨v.toNat,by omega⟩
  obtain ⟨ds,hds⟩:∃ ds,ds=zmD (fun v=>ztT rs (c.vars.idxOf v)) l (c.vars.take i) l:=⟨_,rfl⟩
  have hdl:ds.length=l.length:=by rw [hds,zcH]
  have hw:w<l.length:=by omega
  have hw2:w<ds.length:=by omega
  have hnot:(w:Int)∉c.vars.take i:=fun q=>by
   obtain ⟨j,hj,e⟩:=List.mem_iff_getElem.1 q
   rw [List.length_take] at hj
   rw [List.getElem_take,hv] at e
   have:=(List.getElem_inj hn).1 e
   omega
  have hdw:ds[w]=l[w]:=by
   have:=zkq (P:=fun v=>ztT rs (c.vars.idxOf v)) (l:=l) (vs:=c.vars.take i) (ds:=l) (i:=w) (by rw [zcH];exact hw) hw hw (fun u hu=>(hb u (List.mem_of_mem_take hu)).1)
   rw [if_neg hnot] at this
   subst hds
   exact this
  obtain ⟨d,hd⟩:∃ d,d=l[w]:=⟨_,rfl⟩
  have hdm:=ok d (by rw [hd];exact List.getElem_mem hw)
  obtain ⟨D,hD⟩:∃ D,D=zau (ztT rs i) d:=⟨_,rfl⟩
  have e1:zmD (fun v=>ztT rs (c.vars.idxOf v)) l (c.vars.take (i+1)) l=ds.set w D:=by
   rw [List.take_succ_eq_append_getElem hlt,←hv,hds]
   unfold zmD
   rw [List.foldl_append]
   simp only [List.foldl_cons,List.foldl_nil,Int.toNat_natCast]
   rw [hD,hd,List.getD_eq_getElem?_getD,List.getElem?_eq_getElem hw,hix]
   rfl
  rw [←hds] at g0
  have hidl:id<H.length:=(List.getElem?_eq_some_iff.1 g0).1
  have hi4:(i:Int)<c.vars.length:=by omega
  have hi6:(w:Int)<l.length:=by omega
  have hwr:=zac hlt (by omega)
  have hv1:c.vars[i]? = some (w:Int):=by simp [hlt,hv]
  have hv2:∀ h:i<c.vars.length,c.vars[i]'h=(w:Int):=fun _=>hv.symm
  have hd1:l[w]? = some d:=by simp [hw,hd]
  have hd2:∀ h:w<l.length,l[w]'h=d:=fun _=>hd.symm
  have kl:=fun h=>zhf d (zaB hdm).1 (zaB hdm).2 h
  have e0:ds.set w (zau (qk (ztT rs i) (zag d) 0) d)=ds:=by
   have e:zau (qk (ztT rs i) (zag d) 0) d=d:=ziD hdm fun x _=>by simp [qk]
   rw [e,hd,←hdw,List.set_getElem_self]
  obtain ⟨H1,k1,k2⟩:=tab_in (c:=c) (l:=l) (i:=i) (w:=w) rs (fun r hr=>by rw [hrs r hr];exact hlt) hrl d hdm id H.length (by omega) (dsV l) (zab c.vars) (iv c.vars.length) ds hdl hw2 (zag d).length 0 (H++[.row 1 [iv i]]) (by omega) (by simp) (by rw [e0];exact zat g0)
  rw [←hD] at k2
  simp only [Int.cast_ofNat_Int] at k1
  obtain ⟨H',ih1,ih2⟩:=ih (i+1) H1 (by omega) (by rw [e1];exact k2.at_)
  simp only [Int.natCast_add,Int.cast_ofNat_Int] at ih1
  refine ⟨H',?_,((Mvd.grow g0).trans k2).trans ih2⟩
  rw [←ih1,zoS]
  simp [zhe,hlt,hv1,hv2,hd1,hd2,hw,hi4,hi6,hwr,kl,k1]
theorem kp_tab {c:Con} {L:Ls} {v x:Int} (hk:c.kind=6) (hv:v∈c.vars):kp c L v x=ztT ((zgA c.vars.length (c.nums.length / c.vars.length) c.nums).filter (zgz c.vars L)) (c.vars.idxOf v) x:=by
 unfold kp
 rw [if_neg (by rw [List.contains_iff_mem.2 hv];simp),if_neg (by omega),if_neg (by omega),if_neg (by omega),if_neg (by omega),if_neg (by omega)]
 unfold zEq ztT
 rw [List.any_filter]
theorem ztH {n:Nat}:∀ {k:Nat} {nums:List Int},nums.length=k*n→(zgA n k nums).length=k∧∀ r∈zgA n k nums,r.length=n
 | 0,nums,_=>by simp [zgA]
 | k+1,nums,h=>by
  rw [Nat.succ_mul] at h
  have:=ztH (n:=n) (k:=k) (nums:=nums.drop n) (by rw [List.length_drop];omega)
  rw [zgA]
  refine ⟨by simp [this.1],fun r hr=>?_⟩
  rcases List.mem_cons.1 hr with rfl|h2
  ·rw [List.length_take];omega
  ·exact this.2 r h2
theorem zyy (c:Con) (hc:c150 c) (l:Ds) (hl:zmK l) (h:List Ob):acw C zhN [zaq c,dsV l] h=some (.ret (.tup [dsV (znO (decide (c.kind=6)) c l).1,iv (znO (decide (c.kind=6)) c l).2]),h):=by
 have kr:=fun h=>right c l.length (zki hc) h
 have km:=fun h=>zd9 (fun d=>!zcX d) zeY l (fun d hd h=>tmay_1 d (hl.d d hd) h) hl.n h
 rw [zgD] at km
 unfold znO
 have bad:∀ (g:decide (c.kind=6)=false∨zaC c l.length=false∨zfR l=false),acw C zhN [zaq c,dsV l] h=some (.ret (.tup [dsV [],iv 1]),h):=fun g=>by
  refine zap (h':=[.row 6 [zaq c]]) (v:=.tup [.nsl 2,iv 1]) (v':=.tup [dsV [],iv 1]) (CT zqX) rfl rfl ?_ rfl (by simp)
  by_cases c1:c.kind=6
  ·have n1:(c.kind != 6)=false:=by rw [c1];rfl
   rcases g with g|g|g
   ·simp [c1] at g
   ·simp [zaa,zd0,zhR,n1,kr,g]
   ·cases hr:zaC c l.length<;>rw [hr] at kr<;>simp [zaa,zd0,zhR,n1,kr,km,g]
  ·have c1':(c.kind != 6)=true:=by rw [bne_iff_ne];exact c1
   simp [zaa,zd0,zhR,c1']
 cases hk:decide (c.kind=6) with
 | false=>exact bad (.inl hk)
 | true=>
 cases hr:zaC c l.length with
 | false=>exact bad (.inr (.inl hr))
 | true=>
 cases hm:zfR l with
 | false=>exact bad (.inr (.inr hm))
 | true=>
 simp only [Bool.and_self,if_true]
 rw [hr] at kr
 rw [hm] at km
 have hk2:c.kind=6:=by simpa using hk
 have ok:=zgu hm
 have rc:=RC.of hr
 obtain ⟨v1,hmod⟩:=rc.t hk2
 have hnk:c.nums.length=c.nums.length / c.vars.length*c.vars.length:=by
  have:=Nat.div_add_mod c.nums.length c.vars.length
  rw [hmod,Nat.add_zero,Nat.mul_comm] at this
  exact this.symm
 have hkb:c.nums.length / c.vars.length≤96:=Nat.le_trans (Nat.div_le_self _ _) rc.v8.2
 obtain ⟨v,h1,e1,a1,s1⟩:=ztK ok hl.n (dsV l) (.ptr 0 0 0 1) 1 l.length 0 (.nsl 2) [.row 6 [zaq c]] (by omega) (by simp) (.inl ⟨rfl,by simp⟩)
 simp only [Int.cast_ofNat_Int] at e1
 have b0:h1[0]? = some (.row 6 [zaq c]):=by rw [s1 0 (by omega)];rfl
 have hpos:0<l.length:=by
  obtain ⟨u,hu⟩:=List.exists_mem_of_ne_nil c.vars (by intro e;rw [e] at v1;simp at v1)
  have:=rc.b u hu
  omega
 obtain ⟨id,hid,rfl,g1⟩:∃ id,1≤id∧v=.own id 0 l.length l.length∧h1[id]? = some (.row 2 (l.map zaj)):=by
  rcases a1 with ⟨-,q⟩|⟨id,q1,q2,q3⟩
  ·have:=congrArg List.length q
   simp at this
   rw [this] at hpos
   simp at hpos
  ·exact ⟨id,q1,by simpa using q2,q3⟩
 have ka:=fun h=>alive ok rc.b rc.v8.1 v1 hnk (by omega) h
 have hrw:=ztH hnk
 obtain ⟨rs,hrs⟩:∃ rs,rs=(zgA c.vars.length (c.nums.length / c.vars.length) c.nums).filter (zgz c.vars (lists l)):=⟨_,rfl⟩
 rw [←hrs] at ka
 obtain ⟨h2,e2,m2⟩:=zDz ok rc.nd rc.b rc.v8.1 rs (fun r hr=>hrw.2 r (by rw [hrs] at hr;exact (List.mem_filter.1 hr).1)) (by
  have:=List.length_filter_le (zgz c.vars (lists l)) (zgA c.vars.length (c.nums.length / c.vars.length) c.nums)
  rw [hrs];omega) id c.vars.length 0 h1 (by omega) (by rw [List.take_zero];exact g1)
 simp only [Int.cast_ofNat_Int] at e2
 rw [zn3 ok (fun v hv=>(rc.b v hv).1) fun i hi hv x hx=>by rw [kp_tab hk2 hv,←hrs]] at m2
 have key:zpt (evw C y0) zd0 [zaq c,dsV l] []=some (.ret (.tup [.own id 0 l.length l.length,iv 0]),h2):=by
  have n1:(c.kind != 6)=false:=by rw [hk2];rfl
  simp [zaa,zd0,zhR,n1,kr,km,e1,b0,ka,e2]
 refine zap (h':=h2) (v:=.tup [.own id 0 l.length l.length,iv 0]) (v':=.tup [dsV (zai c l),iv 0]) (CT zqX) rfl rfl key ?_ (by simp)
 have f1:=zmj m2.at_ (n:=l.length) (by rw [zby]) 5
 have f2:frz h2 fdepth (.tup [.own id 0 l.length l.length,iv 0])=(zdP (frz h2 11) [.own id 0 l.length l.length,iv 0]).map .tup:=rfl
 rw [f2]
 simp only [zdP,f1]
 rfl
theorem nan_c (x:Int) (h:List Ob):acw C zef [iv x] h=some (.ret (.bool false),h):=by
 refine zar (v:=.bool false) (CT zr6) rfl rfl (fun _=>rfl) (by simp) ⟨[],?_⟩
 simp [zaa,zi6,znV]
theorem nan_s (x:Int) (h:List Ob):acw C zcr [iv x] h=some (.ret (.bool false),h):=by
 refine zar (v:=.bool false) (CT zpR) rfl rfl (fun _=>rfl) (by simp) ⟨[],?_⟩
 simp [zaa,zfW,zkC]
theorem less_c (x y:Int) (h:List Ob):acw C zhw [iv x,iv y] h=some (.ret (.bool (decide (x<y))),h):=by
 refine zar (v:=.bool _) (CT ztC) rfl rfl (fun _=>rfl) (by simp) ⟨[],?_⟩
 simp [zaa,zk7,zoW,nan_c]
theorem zD3 (z:List Int) (v:Int) (hz:z.Pairwise (·<·)) (hl:z.length≤64):∀ (m i j:Nat),j-i≤m→i≤j→j≤z.length→(∀ k (hk:k<z.length),k<i→z[k]<v)→(∀ k (hk:k<z.length),j≤k→v≤z[k]) →
  ∃ k,k≤z.length∧(∀ q (hq:q<z.length),q<k→z[q]<v)∧(∀ q (hq:q<z.length),k≤q→v≤z[q])∧evw C y0 zbg [(0,zab z),(1,iv v),(6,iv z.length),(7,iv i),(8,iv j)] []=some (.ext 0,[(0,zab z),(1,iv v),(6,iv z.length),(7,iv k),(8,iv k),(15,.bool false)],[]):=by
 intro m
 induction m with
 | zero=>
  intro i j h1 h2 h3 h4 h5
  have:i=j:=by omega
  subst this
  refine ⟨i,h3,h4,h5,?_⟩
  rw [zaT]
  simp [zaA]
 | succ m ih=>
  intro i j h1 h2 h3 h4 h5
  by_cases e:i=j
  ·subst e
   refine ⟨i,h3,h4,h5,?_⟩
   rw [zaT]
   simp [zaA]
  ·have hij:(i:Int)<j:=by omega
   obtain ⟨c,hc⟩:∃ c,c=(i+j) / 2:=⟨_,rfl⟩
   have hc1:i≤c∧c<j:=by omega
   have hcl:c<z.length:=by omega
   obtain ⟨x,hx⟩:∃ x,x=z[c]:=⟨_,rfl⟩
   have hx1:z[c]? = some x:=by simp [hcl,hx]
   have hx2:∀ h:c<z.length,z[c]'h=x:=fun _=>hx.symm
   have hc4:(c:Int)<z.length:=by omega
   have w1:IntKind.i64.wrap ((i:Int)+j)=((i+j:Nat):Int):=by rw [wrap64 (by omega) (by omega)];omega
   have w2:IntKind.u64.wrap ((i+j:Nat):Int)=((i+j:Nat):Int):=zlr (by omega) (by omega)
   have w3:(((i+j:Nat):Int)).fdiv 2=(c:Int):=by
    rw [Int.fdiv_eq_ediv_of_nonneg _ (by omega),hc]
    omega
   have w6:((i:Int)+j).fdiv (2 ^ min 1 IntKind.u64.bits)=(c:Int):=by
    have:((i:Int)+j)=((i+j:Nat):Int):=by omega
    rw [this]
    exact w3
   have w4:IntKind.i64.wrap (c:Int)=c:=wrap64 (by omega) (by omega)
   have w5:IntKind.i64.wrap ((c:Int)+1)=((c+1:Nat):Int):=by rw [wrap64 (by omega) (by omega)];omega
   have srt:∀ p q (hp:p<z.length) (hq:q<z.length),p<q→z[p]<z[q]:=fun p q hp hq h=>List.pairwise_iff_getElem.1 hz p q hp hq h
   have kc:=less_c x v
   by_cases hlt:x<v
   ·obtain ⟨k,k1,k2,k3,k4⟩:=ih (c+1) j (by omega) (by omega) h3 (fun q hq hqc=>by
     rcases Nat.lt_or_ge q c with h6|h6
     ·have:=srt q c hq hcl h6
      omega
     ·have:q=c:=by omega
      subst this;omega) h5
    refine ⟨k,k1,k2,k3,?_⟩
    rw [←k4,zaT]
    simp only [hlt,decide_true] at kc
    simp only [Int.natCast_add] at w1 w2 w3 w5
    simp [zaA,hij,w1,w2,w6,w4,w5,hcl,hx1,hx2,hc4,kc]
   ·obtain ⟨k,k1,k2,k3,k4⟩:=ih i c (by omega) (by omega) (by omega) h4 (fun q hq hqc=>by
     rcases Nat.lt_or_ge c q with h6|h6
     ·have:=srt c q hcl hq h6
      omega
     ·have:q=c:=by omega
      subst this;omega)
    refine ⟨k,k1,k2,k3,?_⟩
    rw [←k4,zaT]
    simp only [hlt,decide_false] at kc
    simp only [Int.natCast_add] at w1 w2 w3 w5
    simp [zaA,hij,w1,w2,w6,w4,w5,hcl,hx1,hx2,hc4,kc]
theorem bsearch (z:List Int) (v:Int) (hz:z.Pairwise (·<·)) (hl:z.length≤64):∃ k:Nat,∀ h,acw C za1 [zab z,iv v] h=some (.ret (.tup [iv k,.bool (z.contains v)]),h):=by
 obtain ⟨k,k1,k2,k3,e⟩:=zD3 z v hz hl z.length 0 z.length (by omega) (by omega) (Nat.le_refl _) (fun k hk h=>by omega) (fun k hk h=>by omega)
 simp only [Int.cast_ofNat_Int] at e
 refine ⟨k,fun h=>?_⟩
 refine zar (v:=.tup [iv k,.bool _]) (CT zhS) rfl rfl (fun _=>rfl) (by simp) ⟨[],?_⟩
 rcases Nat.lt_or_ge k z.length with hk|hk
 ·obtain ⟨x,hx⟩:∃ x,x=z[k]:=⟨_,rfl⟩
  have hx1:z[k]? = some x:=by simp [hk,hx]
  have hx2:∀ h:k<z.length,z[k]'h=x:=fun _=>hx.symm
  have hk4:(k:Int)<z.length:=by omega
  have hxm:x∈z:=by rw [hx];exact List.getElem_mem hk
  have hge:=k3 k hk (Nat.le_refl _)
  rw [←hx] at hge
  by_cases he:x=v
  ·have hct:z.contains v=true:=by rw [List.contains_iff_mem,←he];exact hxm
   have hb:(x==v)=true:=by simpa using he
   rw [hct]
   simp [zaa,zaI,za0,e,hk,hk4,hx1,hx2,hb]
  ·have hb:(x==v)=false:=by simpa using he
   have hct:z.contains v=false:=by
    rw [Bool.eq_false_iff]
    intro q
    obtain ⟨p,hp,rfl⟩:=List.mem_iff_getElem.1 (List.contains_iff_mem.1 q)
    rcases Nat.lt_trichotomy p k with h1|h1|h1
    ·have:=k2 p hp h1
     omega
    ·subst h1
     exact he hx
    ·have:=List.pairwise_iff_getElem.1 hz k p hk hp h1
     omega
   rw [hct]
   simp [zaa,zaI,za0,e,hk,hk4,hx1,hx2,hb,nan_s]
 ·have hk4:¬(k:Int)<z.length:=by omega
  have hct:z.contains v=false:=by
   rw [Bool.eq_false_iff]
   intro q
   obtain ⟨p,hp,rfl⟩:=List.mem_iff_getElem.1 (List.contains_iff_mem.1 q)
   have:=k2 p hp (by omega)
   omega
  rw [hct]
  simp [zaa,zaI,za0,e,hk4]
def zBB (z:List Int) (p:Int×Int):Bool:=z.contains (p.1*p.2)
structure TrI (z:List Int) (ps:List (Int×Int)) (L0 L1 L2:List Em):Prop where
 a:∀ q,((gM L0 q).getD 0==0)=!(ps.any fun p=>zBB z p&&p.1==q)
 b:∀ q,((gM L1 q).getD 0==0)=!(ps.any fun p=>zBB z p&&p.2==q)
 c:∀ q,((gM L2 q).getD 0==0)=!(ps.any fun p=>zBB z p&&p.1*p.2==q)
theorem TrI.no {z:List Int} {ps:List (Int×Int)} {L0 L1 L2:List Em} (t:TrI z ps L0 L1 L2) {p:Int×Int} (h:zBB z p=false):TrI z (ps++[p]) L0 L1 L2:=by
 refine ⟨fun q=>?_,fun q=>?_,fun q=>?_⟩
 ·rw [t.a];simp [h]
 ·rw [t.b];simp [h]
 ·rw [t.c];simp [h]
theorem zxp {L L':List Em} {x:Int} {w:Bool} {ps:List (Int×Int)} {p:Int×Int} {f:Int×Int→Int} {g:Int×Int→Bool} (hx:f p=x) (hg:g p=true) (h:∀ y,gM L' y=if y=x then some 1 else gM L y) (t:∀ q,((gM L q).getD 0==0)=!(ps.any fun p=>g p&&f p==q)):∀ q,((gM L' q).getD 0==0)=!((ps++[p]).any fun p=>g p&&f p==q):=fun q=>by
 rw [h]
 by_cases e:q=x
 ·rw [if_pos e]
  subst e
  simp [hx,hg]
 ·rw [if_neg e,t]
  have:(x==q)=false:=by rw [beq_eq_false_iff_ne];exact fun c=>e c.symm
  simp [hx,hg,this]
theorem mul40 {a b:Int} (ha:-1048576≤a∧a≤1048576) (hb:-1048576≤b∧b≤1048576):-1099511627776≤a*b∧a*b≤1099511627776:=zkG ha hb
theorem try_in (ys z xs:List Int) (hz:z.Pairwise (·<·)) (hzl:z.length≤64) (hyl:ys.length≤64) (hy:∀ y∈ys,-1048576≤y∧y≤1048576) (a:Int) (ha:-1048576≤a∧a≤1048576) (h:List Ob) (R0:Ob) (i n:Nat):∀ (m j:Nat) (ps:List (Int×Int)) (L0 L1 L2:List Em) (c0 c1 c2:Nat),j+m=ys.length→TrI z ps L0 L1 L2 →
  ∃ L0' L1' L2' c0' c1' c2',TrI z (ps++(ys.drop j).map fun b=>(a,b)) L0' L1' L2' ∧
   evw C y0 zik [(1,zab ys),(2,zab z),(6,.ptr h.length 0 0 1),(7,.ptr (h.length+4) 0 0 1),(9,iv a),(18,zab xs),(19,iv n),(20,iv i),(24,zab ys),(25,iv ys.length),(26,iv j)] (h++[R0,.map (mI L0) c0,.map (mI L1) c1,.map (mI L2) c2,.row 3 [.agg [.mp (h.length+1),.mp (h.length+2),.mp (h.length+3)]]]) =
   some (.ext 2,[(1,zab ys),(2,zab z),(6,.ptr h.length 0 0 1),(7,.ptr (h.length+4) 0 0 1),(9,iv a),(18,zab xs),(19,iv n),(20,iv i),(24,zab ys),(25,iv ys.length),(26,iv ys.length),(27,.bool false)],h++[R0,.map (mI L0') c0',.map (mI L1') c1',.map (mI L2') c2',.row 3 [.agg [.mp (h.length+1),.mp (h.length+2),.mp (h.length+3)]]]):=by
 intro m
 induction m with
 | zero=>
  intro j ps L0 L1 L2 c0 c1 c2 hj t
  have:j=ys.length:=by omega
  subst this
  refine ⟨L0,L1,L2,c0,c1,c2,by simpa using t,?_⟩
  rw [zjZ]
  simp [zec]
 | succ m ih=>
  intro j ps L0 L1 L2 c0 c1 c2 hj t
  have hlt:j<ys.length:=by omega
  obtain ⟨b,hb⟩:∃ b,b=ys[j]:=⟨_,rfl⟩
  have hbb:=hy b (by rw [hb];exact List.getElem_mem hlt)
  have hb1:ys[j]? = some b:=by simp [hlt,hb]
  have hb2:∀ h:j<ys.length,ys[j]'h=b:=fun _=>hb.symm
  have hj4:(j:Int)<ys.length:=by omega
  have hwr:=zac hlt (by omega)
  have hm40:=mul40 ha hbb
  obtain ⟨q,hq⟩:∃ q,q=a*b:=⟨_,rfl⟩
  have hwm:IntKind.i64.wrap (a*b)=q:=by rw [hq];exact wrap64 (by omega) (by omega)
  obtain ⟨k,kb⟩:=bsearch z q hz hzl
  have hdr:(ys.drop j).map (fun b=>(a,b))=(a,b)::(ys.drop (j+1)).map fun b=>(a,b):=by
   rw [List.drop_eq_getElem_cons hlt,List.map_cons,←hb]
  have hht:zBB z (a,b)=z.contains q:=by unfold zBB;rw [hq]
  cases hc:z.contains q with
  | false=>
   rw [hc] at kb hht
   obtain ⟨L0',L1',L2',c0',c1',c2',k1,k2⟩:=ih (j+1) (ps++[(a,b)]) L0 L1 L2 c0 c1 c2 (by omega) (t.no hht)
   simp only [Int.natCast_add,Int.cast_ofNat_Int] at k2
   refine ⟨L0',L1',L2',c0',c1',c2',by rw [hdr];simpa using k1,?_⟩
   rw [←k2,zjZ]
   simp [zec,hlt,hb1,hb2,hj4,hwr,hwm,kb]
  | true=>
   rw [hc] at kb hht
   have R4:∃ R,R=Ob.row 3 [.agg [.mp (h.length+1),.mp (h.length+2),.mp (h.length+3)]]:=⟨_,rfl⟩
   obtain ⟨R4,hR4⟩:=R4
   obtain ⟨L0',c0',o1,p1,-⟩:=zyY (nid:=0) (h:=h++[R0,.map (mI L0) c0,.map (mI L1) c1,.map (mI L2) c2,R4]) (id:=h.length+1) (L:=L0) (c:=c0) (x:=a) (w:=1) (by simp)
   obtain ⟨L1',c1',o2,p2,-⟩:=zyY (nid:=0) (h:=h++[R0,.map (mI L0') c0',.map (mI L1) c1,.map (mI L2) c2,R4]) (id:=h.length+2) (L:=L1) (c:=c1) (x:=b) (w:=1) (by simp)
   obtain ⟨L2',c2',o3,p3,-⟩:=zyY (nid:=0) (h:=h++[R0,.map (mI L0') c0',.map (mI L1') c1',.map (mI L2) c2,R4]) (id:=h.length+3) (L:=L2) (c:=c2) (x:=q) (w:=1) (by simp)
   have o1':∀ nid,opJ nid (h++[R0,.map (mI L0) c0,.map (mI L1) c1,.map (mI L2) c2,R4]) (.mpu (some .i64)) [.mp (h.length+1),iv a,iv 1]=some (.und,some (h.length+1,.map (mI L0') c0')):=fun nid=>by rw [←o1];exact zma rfl
   have o2':∀ nid,opJ nid (h++[R0,.map (mI L0') c0',.map (mI L1) c1,.map (mI L2) c2,R4]) (.mpu (some .i64)) [.mp (h.length+2),iv b,iv 1]=some (.und,some (h.length+2,.map (mI L1') c1')):=fun nid=>by rw [←o2];exact zma rfl
   have o3':∀ nid,opJ nid (h++[R0,.map (mI L0') c0',.map (mI L1') c1',.map (mI L2) c2,R4]) (.mpu (some .i64)) [.mp (h.length+3),iv q,iv 1]=some (.und,some (h.length+3,.map (mI L2') c2')):=fun nid=>by rw [←o3];exact zma rfl
   have tn:TrI z (ps++[(a,b)]) L0' L1' L2':=⟨zxp (w:=true) (f:=fun p=>p.1) (p:=(a,b)) rfl hht p1 t.a,zxp (w:=true) (f:=fun p=>p.2) (p:=(a,b)) rfl hht p2 t.b,zxp (w:=true) (f:=fun p=>p.1*p.2) (p:=(a,b)) hq.symm hht p3 t.c⟩
   obtain ⟨L0'',L1'',L2'',c0'',c1'',c2'',k1,k2⟩:=ih (j+1) (ps++[(a,b)]) L0' L1' L2' c0' c1' c2' (by omega) tn
   simp only [Int.natCast_add,Int.cast_ofNat_Int] at k2
   refine ⟨L0'',L1'',L2'',c0'',c1'',c2'',by rw [hdr];simpa using k1,?_⟩
   subst hR4
   rw [←k2,zjZ]
   simp [zec,hlt,hb1,hb2,hj4,hwr,hwm,kb,o1',o2',o3']
abbrev zBq (n:Nat):V:=.agg [.mp (n+1),.mp (n+2),.mp (n+3)]
def pairs (xs ys:List Int):List (Int×Int):=xs.flatMap fun a=>ys.map fun b=>(a,b)
theorem zEM (xs ys z:List Int) (hz:z.Pairwise (·<·)) (hzl:z.length≤64) (hxl:xs.length≤64) (hyl:ys.length≤64) (hx:∀ x∈xs,-1048576≤x∧x≤1048576) (hy:∀ y∈ys,-1048576≤y∧y≤1048576) (h:List Ob) (R0:Ob):∀ (m i:Nat) (ps:List (Int×Int)) (L0 L1 L2:List Em) (c0 c1 c2:Nat),i+m=xs.length→TrI z ps L0 L1 L2 →
  ∃ L0' L1' L2' c0' c1' c2',TrI z (ps++pairs (xs.drop i) ys) L0' L1' L2' ∧
   evw C y0 zhU [(1,zab ys),(2,zab z),(6,.ptr h.length 0 0 1),(7,.ptr (h.length+4) 0 0 1),(18,zab xs),(19,iv xs.length),(20,iv i)] (h++[R0,.map (mI L0) c0,.map (mI L1) c1,.map (mI L2) c2,.row 3 [zBq h.length]]) =
   some (.ext 0,[(1,zab ys),(2,zab z),(6,.ptr h.length 0 0 1),(7,.ptr (h.length+4) 0 0 1),(18,zab xs),(19,iv xs.length),(20,iv xs.length),(21,.bool false)],h++[R0,.map (mI L0') c0',.map (mI L1') c1',.map (mI L2') c2',.row 3 [zBq h.length]]):=by
 intro m
 induction m with
 | zero=>
  intro i ps L0 L1 L2 c0 c1 c2 hi t
  have:i=xs.length:=by omega
  subst this
  refine ⟨L0,L1,L2,c0,c1,c2,by simpa [pairs] using t,?_⟩
  rw [zmY]
  simp [zfS]
 | succ m ih=>
  intro i ps L0 L1 L2 c0 c1 c2 hi t
  have hlt:i<xs.length:=by omega
  obtain ⟨a,ha⟩:∃ a,a=xs[i]:=⟨_,rfl⟩
  have hab:=hx a (by rw [ha];exact List.getElem_mem hlt)
  have ha1:xs[i]? = some a:=by simp [hlt,ha]
  have ha2:∀ h:i<xs.length,xs[i]'h=a:=fun _=>ha.symm
  have hi4:(i:Int)<xs.length:=by omega
  have hwr:=zac hlt (by omega)
  have hdr:pairs (xs.drop i) ys=(ys.map fun b=>(a,b))++pairs (xs.drop (i+1)) ys:=by
   unfold pairs
   rw [List.drop_eq_getElem_cons hlt,List.flatMap_cons,←ha]
  obtain ⟨K0,K1,K2,d0,d1,d2,t1,e1⟩:=try_in ys z xs hz hzl hyl hy a hab h R0 i xs.length ys.length 0 ps L0 L1 L2 c0 c1 c2 (by omega) t
  rw [List.drop_zero] at t1
  simp only [Int.cast_ofNat_Int] at e1
  obtain ⟨L0',L1',L2',c0',c1',c2',t2,e2⟩:=ih (i+1) (ps++ys.map fun b=>(a,b)) K0 K1 K2 d0 d1 d2 (by omega) t1
  simp only [Int.natCast_add,Int.cast_ofNat_Int] at e2
  refine ⟨L0',L1',L2',c0',c1',c2',by rw [hdr,←List.append_assoc];exact t2,?_⟩
  rw [←e2,zmY]
  simp [zfS,hlt,ha1,ha2,hi4,hwr,e1]
theorem tryf (xs ys z:List Int) (hz:z.Pairwise (·<·)) (hzl:z.length≤64) (hxl:xs.length≤64) (hyl:ys.length≤64) (hx:∀ x∈xs,-1048576≤x∧x≤1048576) (hy:∀ y∈ys,-1048576≤y∧y≤1048576) (h:List Ob) :
  ∃ L0 L1 L2 c0 c1 c2,TrI z (pairs xs ys) L0 L1 L2∧acw C ziQ [zab xs,zab ys,zab z] h=some (.ret (zBq h.length),h++[.row 3 [zBq h.length],.map (mI L0) c0,.map (mI L1) c1,.map (mI L2) c2,.row 3 [zBq h.length]]):=by
 obtain ⟨L0,L1,L2,c0,c1,c2,t,e⟩:=zEM xs ys z hz hzl hxl hyl hx hy h (.row 3 [.agg [.nmp,.nmp,.nmp]]) xs.length 0 [] [] [] [] 0 0 0 (by omega) ⟨fun q=>by simp [gM],fun q=>by simp [gM],fun q=>by simp [gM]⟩
 rw [List.nil_append,List.drop_zero] at t
 simp only [Int.cast_ofNat_Int,List.map_nil] at e
 refine ⟨L0,L1,L2,c0,c1,c2,t,?_⟩
 rw [zbd (CT zu5) rfl]
 simp [zaa,zlS,zpV,zux,e]
def prP (Ls:List (List Em)) (i:Nat) (x:Int):Bool:=!((gM (Ls.getD i []) x).getD 0==0)
theorem pmay_1 (d:Dm) (hd:d.live<18446744073709551616∧d.vals.length≤1000000) (h:List Ob):acw C zdp [zaj d] h=some (.ret (.bool (!zcX d)),h):=by
 have k:=fun h=>zjb d hd.1 hd.2 h
 refine zar (v:=.bool _) (CT zrt) rfl rfl (fun _=>rfl) (by simp) ⟨[.row 2 [zaj d]],?_⟩
 simp [zaa,zim,zmx,k]
theorem pr_in {l:Ds} {i w:Nat} (L:List Em) (p:Int→Bool) (hp:∀ x,p x=!((gM L x).getD 0==0)) (d:Dm) (hm:zcX d=true) (id b N m c:Nat) (hne:id≠b) (hne2:id≠m) (hi3:i<3) (hcl:[V.mp (N+1),V.mp (N+2),V.mp (N+3)][i]? = some (.mp m)) (q1 q2 q3:V) (ds:Ds) (hdl:ds.length=l.length) (hw:w<ds.length):∀ (n j:Nat) (H:List Ob),j+n=(zag d).length→H[b]? = some (.row 3 [zBq N])→H[m]? = some (.map (mI L) c)→H[id]? = some (.row 2 ((ds.set w (zau (qk p (zag d) j) d)).map zaj)) →
  ∃ H',evw C y0 zgE [(1,q1),(6,.own id 0 l.length l.length),(10,.ptr b 0 0 1),(11,iv i),(12,iv w),(69,q2),(70,q3),(71,iv i),(80,zab (zag d)),(81,iv (zag d).length),(82,iv j)] H =
   some (.ext 4,[(1,q1),(6,.own id 0 l.length l.length),(10,.ptr b 0 0 1),(11,iv i),(12,iv w),(69,q2),(70,q3),(71,iv i),(80,zab (zag d)),(81,iv (zag d).length),(82,iv (zag d).length),(83,.bool false)],H')∧Mvd id H H' (ds.set w (zau p d)):=by
 intro n
 induction n with
 | zero=>
  intro j H hjm hN hmm g0
  have:j=(zag d).length:=by omega
  subst this
  have e1:zau (qk p (zag d) (zag d).length) d=zau p d:=zaD fun x hx=>by
   unfold qk
   rw [List.take_length,List.contains_iff_mem.2 hx]
   simp
  rw [e1] at g0
  rw [zij]
  refine ⟨H,?_,Mvd.refl g0⟩
  simp [zdj]
 | succ n ih=>
  intro j H hjm hN hmm g0
  have hlt:j<(zag d).length:=by omega
  obtain ⟨x,hx⟩:∃ x,x=(zag d)[j]:=⟨_,rfl⟩
  have hlen:=zbz d
  have hwr:=zac hlt (by omega)
  have hj4:(j:Int)<(zag d).length:=by omega
  have hi4:(i:Int)<3:=by omega
  obtain ⟨V,hV⟩:∃ L,L=zag d:=⟨_,rfl⟩
  have hq:∀ y,(V.take (j+1)).contains y=((V.take j).contains y||y==x):=fun y=>by
   rw [hV,List.take_succ_eq_append_getElem hlt,←hx,Bool.eq_iff_iff]
   simp [List.contains_iff_mem]
  have hx1:V[j]? = some x:=by simp [hV,hlt,hx]
  have hx2:∀ h:j<V.length,V[j]'h=x:=fun _=>by subst hV;exact hx.symm
  have hidl:id<H.length:=(List.getElem?_eq_some_iff.1 g0).1
  have hlk:∀ nid,opJ nid H (.lku (some .i64) (iv 0) false) [.mp m,iv x]=some (iv ((gM L x).getD 0),none):=fun nid=>zyP hmm
  obtain ⟨D,hD⟩:∃ D,D=zau (qk p V j) d:=⟨_,rfl⟩
  rw [←hV] at hlt hj4 ih g0 hjm ⊢
  rw [←hD] at g0
  by_cases cc:p x=true
  ·have c2:((gM L x).getD 0==0)=false:=by
    have:=hp x
    rw [cc] at this
    simpa using this.symm
   have e:zau (qk p V (j+1)) d=D:=by
    rw [hD]
    refine zaD fun y _=>?_
    unfold qk
    rw [hq]
    by_cases hy:y=x
    ·rw [hy,cc];rfl
    ·have:(y==x)=false:=by simpa using hy
     rw [this,Bool.or_false]
   obtain ⟨H',ih1,ih2⟩:=ih (j+1) H (by omega) hN hmm (by rw [e];exact g0)
   simp only [Int.natCast_add,Int.cast_ofNat_Int] at ih1
   refine ⟨H',?_,ih2⟩
   rw [←ih1,zij]
   simp [zdj,hlt,hx1,hx2,hj4,hi4,hwr,hN,hcl,hlk,c2]
  ·have c':p x=false:=by simpa using cc
   have c2:((gM L x).getD 0==0)=true:=by
    have:=hp x
    rw [c'] at this
    simpa using this.symm
   have e:zau (qk p V (j+1)) d=zau (fun y=>y != x) D:=by
    rw [hD,zny hm]
    refine zaD fun y _=>?_
    unfold qk
    rw [hq]
    by_cases hy:y=x
    ·rw [hy,c'];simp
    ·have h1:(y==x)=false:=by simpa using hy
     have h2:(y != x)=true:=by simpa [bne_iff_ne] using hy
     rw [h1,h2,Bool.or_false,Bool.and_true]
   have hDm:zcX D=true:=by rw [hD];exact (zhg hm).2.1
   have kl:=fun h=>zqf D x (zaB hDm).1 (zaB hDm).2 h
   obtain ⟨E,hE⟩:∃ E,E=zau (fun y=>y != x) D:=⟨_,rfl⟩
   rw [←hE] at kl e
   obtain ⟨H',ih1,ih2⟩:=ih (j+1) (H.set id (.row 2 ((ds.set w E).map zaj))) (by omega) (by rw [List.getElem?_set_ne hne];exact hN) (by rw [List.getElem?_set_ne hne2];exact hmm) (by rw [e];exact List.getElem?_set_self hidl)
   simp only [Int.natCast_add,Int.cast_ofNat_Int] at ih1
   refine ⟨H',?_,Mvd.trans (h':=H.set id (.row 2 ((ds.set w E).map zaj))) (a:=ds.set w E) ⟨by simp,List.getElem?_set_self hidl,fun k h1 h2=>List.getElem?_set_ne (fun q=>h2 q.symm)⟩ ih2⟩
   ·rw [←ih1,zij]
    have q0:H[id]? = some (.row 2 ((ds.map zaj).set w (zaj D))):=by rw [g0,List.map_set]
    have hw6:(w:Int)<l.length:=by omega
    have hw7:w<l.length:=by omega
    simp [zdj,hlt,hx1,hx2,hj4,hi4,hwr,hN,hcl,hlk,c2,q0,kl,hw,hw6,hw7,hdl]
    rw [zfi hidl]
theorem pr_out {c:Con} {l:Ds} (ok:okL l) (hn:c.vars.Nodup) (hb:∀ v∈c.vars,0≤v∧v<l.length) (h3:c.vars.length=3) (L0 L1 L2:List Em) (c0 c1 c2:Nat) (id b N:Nat) (hb5:b=N+5) (hidN:id<N):∀ (n i:Nat) (H:List Ob),i+n=c.vars.length→H[b]? = some (.row 3 [zBq N])→H[N+1]? = some (.map (mI L0) c0)→H[N+2]? = some (.map (mI L1) c1)→H[N+3]? = some (.map (mI L2) c2)→H[id]? = some (.row 2 ((zmD (fun v=>prP [L0,L1,L2] (c.vars.idxOf v)) l (c.vars.take i) l).map zaj)) →
  ∃ H',evw C y0 zgR [(1,dsV l),(6,.own id 0 l.length l.length),(10,.ptr b 0 0 1),(69,zab c.vars),(70,iv c.vars.length),(71,iv i)] H =
   some (.ext 2,[(1,dsV l),(6,.own id 0 l.length l.length),(10,.ptr b 0 0 1),(69,zab c.vars),(70,iv c.vars.length),(71,iv c.vars.length),(72,.bool false)],H')∧Mvd id H H' (zmD (fun v=>prP [L0,L1,L2] (c.vars.idxOf v)) l c.vars l):=by
 intro n
 induction n with
 | zero=>
  intro i H hin a0 a1 a2 a3 g0
  have:i=c.vars.length:=by omega
  subst this
  rw [List.take_length] at g0
  rw [zmt]
  refine ⟨H,?_,Mvd.refl g0⟩
  simp [ze6]
 | succ n ih=>
  intro i H hin a0 a1 a2 a3 g0
  have hlt:i<c.vars.length:=by omega
  obtain ⟨v,hv⟩:∃ v,v=c.vars[i]:=⟨_,rfl⟩
  have hvm:v∈c.vars:=by rw [hv];exact List.getElem_mem hlt
  have hvb:=hb v hvm
  have hix:c.vars.idxOf v=i:=by rw [hv,hn.idxOf_getElem i hlt]
  obtain ⟨w,rfl⟩:∃ w:Nat,v=w:=⟨v.toNat,by omega⟩
  obtain ⟨ds,hds⟩:∃ ds,ds=zmD (fun v=>prP [L0,L1,L2] (c.vars.idxOf v)) l (c.vars.take i) l:=⟨_,rfl⟩
  have hdl:ds.length=l.length:=by rw [hds,zcH]
  have hw:w<l.length:=by omega
  have hw2:w<ds.length:=by omega
  have hnot:(w:Int)∉c.vars.take i:=fun q=>by
   obtain ⟨j,hj,e⟩:=List.mem_iff_getElem.1 q
   rw [List.length_take] at hj
   rw [List.getElem_take,hv] at e
   have:=(List.getElem_inj hn).1 e
   omega
  have hdw:ds[w]=l[w]:=by
   have:=zkq (P:=fun v=>prP [L0,L1,L2] (c.vars.idxOf v)) (l:=l) (vs:=c.vars.take i) (ds:=l) (i:=w) (by rw [zcH];exact hw) hw hw (fun u hu=>(hb u (List.mem_of_mem_take hu)).1)
   rw [if_neg hnot] at this
   subst hds
   exact this
  obtain ⟨d,hd⟩:∃ d,d=l[w]:=⟨_,rfl⟩
  have hdm:=ok d (by rw [hd];exact List.getElem_mem hw)
  obtain ⟨D,hD⟩:∃ D,D=zau (prP [L0,L1,L2] i) d:=⟨_,rfl⟩
  have e1:zmD (fun v=>prP [L0,L1,L2] (c.vars.idxOf v)) l (c.vars.take (i+1)) l=ds.set w D:=by
   rw [List.take_succ_eq_append_getElem hlt,←hv,hds]
   unfold zmD
   rw [List.foldl_append]
   simp only [List.foldl_cons,List.foldl_nil,Int.toNat_natCast]
   rw [hD,hd,List.getD_eq_getElem?_getD,List.getElem?_eq_getElem hw,hix]
   rfl
  rw [←hds] at g0
  have hi4:(i:Int)<c.vars.length:=by omega
  have hi6:(w:Int)<l.length:=by omega
  have hwr:=zac hlt (by omega)
  have hv1:c.vars[i]? = some (w:Int):=by simp [hlt,hv]
  have hv2:∀ h:i<c.vars.length,c.vars[i]'h=(w:Int):=fun _=>hv.symm
  have hd1:l[w]? = some d:=by simp [hw,hd]
  have hd2:∀ h:w<l.length,l[w]'h=d:=fun _=>hd.symm
  have kl:=fun h=>zhf d (zaB hdm).1 (zaB hdm).2 h
  have e0:ds.set w (zau (qk (prP [L0,L1,L2] i) (zag d) 0) d)=ds:=by
   have e:zau (qk (prP [L0,L1,L2] i) (zag d) 0) d=d:=ziD hdm fun x _=>by simp [qk]
   rw [e,hd,←hdw,List.set_getElem_self]
  obtain ⟨L,m,cn,hL,hcl,hmm,hm1⟩:∃ L m cn,[L0,L1,L2].getD i []=L∧[V.mp (N+1),V.mp (N+2),V.mp (N+3)][i]? = some (.mp m)∧H[m]? = some (.map (mI L) cn)∧id≠m:=by
   have:i=0∨i=1∨i=2:=by omega
   rcases this with rfl|rfl|rfl
   ·exact ⟨L0,N+1,c0,rfl,rfl,a1,by omega⟩
   ·exact ⟨L1,N+2,c1,rfl,rfl,a2,by omega⟩
   ·exact ⟨L2,N+3,c2,rfl,rfl,a3,by omega⟩
  obtain ⟨H1,k1,k2⟩:=pr_in (l:=l) (i:=i) (w:=w) L (prP [L0,L1,L2] i) (fun x=>by unfold prP;rw [hL]) d hdm id b N m cn (by omega) hm1 (by omega) hcl (dsV l) (zab c.vars) (iv c.vars.length) ds hdl hw2 (zag d).length 0 H (by omega) a0 hmm (by rw [e0];exact g0)
  rw [←hD] at k2
  simp only [Int.cast_ofNat_Int] at k1
  have keep:∀ j o,H[j]? = some o→id≠j→H1[j]? = some o:=fun j o hj hne=>by
   rw [k2.same j (List.getElem?_eq_some_iff.1 hj).1 (fun q=>hne q.symm)];exact hj
  obtain ⟨H',ih1,ih2⟩:=ih (i+1) H1 (by omega) (keep _ _ a0 (by omega)) (keep _ _ a1 (by omega)) (keep _ _ a2 (by omega)) (keep _ _ a3 (by omega)) (by rw [e1];exact k2.at_)
  simp only [Int.natCast_add,Int.cast_ofNat_Int] at ih1
  refine ⟨H',?_,k2.trans ih2⟩
  rw [←ih1,zmt]
  simp [ze6,hlt,hv1,hv2,hd1,hd2,hw,hi4,hi6,hwr,kl,k1]
theorem kp_pro {c:Con} {L:Ls} {v x:Int} (hk:c.kind=2) (hv:v∈c.vars):kp c L v x=zvY c.vars L v x:=by
 unfold kp
 rw [if_neg (by rw [List.contains_iff_mem.2 hv];simp),if_neg (by omega),if_neg (by omega),if_pos hk]
theorem zzt:V.und.isUnd=true:=rfl
theorem zsd {xs ys:List Int} {f:Int×Int→Bool}:(pairs xs ys).any f=xs.any fun a=>ys.any fun b=>f (a,b):=by
 unfold pairs
 rw [List.any_flatMap]
 congr 1
 funext a
 rw [List.any_map]
 rfl
theorem zv3 (c:Con) (hc:c150 c) (l:Ds) (hl:zmK l) (h:List Ob):acw C zeT [zaq c,dsV l] h=some (.ret (.tup [dsV (znO (decide (c.kind=2)) c l).1,iv (znO (decide (c.kind=2)) c l).2]),h):=by
 have kr:=fun h=>right c l.length (zki hc) h
 have km:=fun h=>zd9 (fun d=>!zcX d) zdp l (fun d hd h=>pmay_1 d (hl.d d hd) h) hl.n h
 rw [zgD] at km
 unfold znO
 have bad:∀ (g:decide (c.kind=2)=false∨zaC c l.length=false∨zfR l=false),acw C zeT [zaq c,dsV l] h=some (.ret (.tup [dsV [],iv 1]),h):=fun g=>by
  refine zap (h':=[.row 6 [zaq c]]) (v:=.tup [.nsl 2,iv 1]) (v':=.tup [dsV [],iv 1]) (CT zoX) rfl rfl ?_ rfl (by simp)
  by_cases c1:c.kind=2
  ·have n1:(c.kind != 2)=false:=by rw [c1];rfl
   rcases g with g|g|g
   ·simp [c1] at g
   ·simp [zaa,zcy,zeB,n1,kr,g]
   ·cases hr:zaC c l.length<;>rw [hr] at kr<;>simp [zaa,zcy,zeB,n1,kr,km,g]
  ·have c1':(c.kind != 2)=true:=by rw [bne_iff_ne];exact c1
   simp [zaa,zcy,zeB,c1']
 cases hk:decide (c.kind=2) with
 | false=>exact bad (.inl hk)
 | true=>
 cases hr:zaC c l.length with
 | false=>exact bad (.inr (.inl hr))
 | true=>
 cases hm:zfR l with
 | false=>exact bad (.inr (.inr hm))
 | true=>
 simp only [Bool.and_self,if_true]
 rw [hr] at kr
 rw [hm] at km
 have hk2:c.kind=2:=by simpa using hk
 have ok:=zgu hm
 have rc:=RC.of hr
 have h3:=rc.w.p hk2
 obtain ⟨v0,v1,v2,hv⟩:∃ a b d,c.vars=[a,b,d]:=by
  match c.vars,h3 with
  | [a,b,d],_=>exact ⟨a,b,d,rfl⟩
 have hb:=rc.b
 have hnd:=rc.nd
 rw [hv] at hb hnd
 have b0:=hb v0 (by simp)
 have b1:=hb v1 (by simp)
 have b2:=hb v2 (by simp)
 simp only [List.nodup_cons,List.mem_cons,List.not_mem_nil,or_false,not_or] at hnd
 obtain ⟨a,rfl⟩:∃ p:Nat,v0=p:=⟨v0.toNat,by omega⟩
 obtain ⟨b,rfl⟩:∃ p:Nat,v1=p:=⟨v1.toNat,by omega⟩
 obtain ⟨d,rfl⟩:∃ p:Nat,v2=p:=⟨v2.toNat,by omega⟩
 have ha:a<l.length:=by omega
 have hb':b<l.length:=by omega
 have hd':d<l.length:=by omega
 obtain ⟨v,h1,e1,a1,s1⟩:=zq6 ok hl.n (dsV l) (.ptr 0 0 0 1) 1 l.length 0 (.nsl 2) [.row 6 [zaq c]] (by omega) (by simp) (.inl ⟨rfl,by simp⟩)
 simp only [Int.cast_ofNat_Int] at e1
 have g0:h1[0]? = some (.row 6 [zaq c]):=by rw [s1 0 (by omega)];rfl
 have hpos:0<l.length:=by omega
 obtain ⟨id,hid,rfl,g1⟩:∃ id,1≤id∧v=.own id 0 l.length l.length∧h1[id]? = some (.row 2 (l.map zaj)):=by
  rcases a1 with ⟨-,q⟩|⟨id,q1,q2,q3⟩
  ·have:=congrArg List.length q
   simp at this
   rw [this] at hpos
   simp at hpos
  ·exact ⟨id,q1,by simpa using q2,q3⟩
 have hidl:id<h1.length:=(List.getElem?_eq_some_iff.1 g1).1
 obtain ⟨A,hA⟩:∃ A,A=l[a]:=⟨_,rfl⟩
 obtain ⟨B,hB⟩:∃ A,A=l[b]:=⟨_,rfl⟩
 obtain ⟨D,hD⟩:∃ A,A=l[d]:=⟨_,rfl⟩
 have mA:=ok A (by rw [hA];exact List.getElem_mem ha)
 have mB:=ok B (by rw [hB];exact List.getElem_mem hb')
 have mD:=ok D (by rw [hD];exact List.getElem_mem hd')
 have kA:=fun h=>zhf A (zaB mA).1 (zaB mA).2 h
 have kB:=fun h=>zhf B (zaB mB).1 (zaB mB).2 h
 have kD:=fun h=>zhf D (zaB mD).1 (zaB mD).2 h
 obtain ⟨L0,L1,L2,c0,c1,c2,t,kt⟩:=tryf (zag A) (zag B) (zag D) (zhC mD) (zbz D) (zbz A) (zbz B) (fun x hx=>zeM mA hx) (fun x hx=>zeM mB hx) h1
 obtain ⟨h2,e2,m2⟩:=pr_out ok rc.nd rc.b h3 L0 L1 L2 c0 c1 c2 id (h1.length+5) h1.length rfl hidl c.vars.length 0 (h1++[.row 3 [zBq h1.length],.map (mI L0) c0,.map (mI L1) c1,.map (mI L2) c2,.row 3 [zBq h1.length],.row 3 [zBq h1.length]]) (by omega) (by simp) (by simp) (by simp) (by simp) (by rw [List.take_zero];exact zat g1)
 simp only [Int.cast_ofNat_Int] at e2
 rw [zn3 ok (fun v hv=>(rc.b v hv).1) fun i hi hvi x hx=>by
  rw [kp_pro hk2 hvi]
  have z0:c.vars.getD 0 0=a:=by rw [hv];rfl
  have z1:c.vars.getD 1 0=b:=by rw [hv];rfl
  have z2:c.vars.getD 2 0=d:=by rw [hv];rfl
  have hor:i=a∨i=b∨i=d:=by rw [hv] at hvi;simp at hvi;omega
  have f01:((a:Int)==(b:Int))=false:=by rw [beq_eq_false_iff_ne];exact hnd.1.1
  have f02:((a:Int)==(d:Int))=false:=by rw [beq_eq_false_iff_ne];exact hnd.1.2
  have f12:((b:Int)==(d:Int))=false:=by rw [beq_eq_false_iff_ne];exact hnd.2.1
  have n01:¬(b:Int)=(a:Int):=fun q=>hnd.1.1 q.symm
  have n02:¬(d:Int)=(a:Int):=fun q=>hnd.1.2 q.symm
  have n12:¬(d:Int)=(b:Int):=fun q=>hnd.2.1 q.symm
  unfold zvY prP
  rw [z0,z1,z2,zmZ ha,zmZ hb',zmZ hd',←hA,←hB,←hD]
  rcases hor with rfl|rfl|rfl
  ·have ix:c.vars.idxOf (i:Int)=0:=by rw [hv];simp
   rw [ix,if_pos rfl]
   have:=t.a x
   simp only [List.getD_cons_zero]
   rw [this,Bool.not_not,zsd,Bool.eq_iff_iff]
   simp only [List.any_eq_true,Bool.and_eq_true,beq_iff_eq,zBB]
   constructor
   ·rintro ⟨p,hp,q,hq,e,rfl⟩
    exact ⟨q,hq,e⟩
   ·rintro ⟨q,hq,e⟩
    exact ⟨x,by rw [hA];exact hx,q,hq,e,rfl⟩
  ·have ix:c.vars.idxOf (i:Int)=1:=by rw [hv,List.idxOf_cons,f01];simp
   rw [ix,if_neg n01,if_pos rfl]
   have:=t.b x
   simp only [List.getD_cons_succ,List.getD_cons_zero]
   rw [this,Bool.not_not,zsd,Bool.eq_iff_iff]
   simp only [List.any_eq_true,Bool.and_eq_true,beq_iff_eq,zBB]
   constructor
   ·rintro ⟨p,hp,q,hq,e,rfl⟩
    exact ⟨p,hp,e⟩
   ·rintro ⟨p,hp,e⟩
    exact ⟨p,hp,x,by rw [hB];exact hx,e,rfl⟩
  ·have ix:c.vars.idxOf (i:Int)=2:=by rw [hv,List.idxOf_cons,f02,List.idxOf_cons,f12];simp
   rw [ix,if_neg n02,if_neg n12]
   have:=t.c x
   simp only [List.getD_cons_succ,List.getD_cons_zero]
   rw [this,Bool.not_not,zsd,Bool.eq_iff_iff]
   simp only [List.any_eq_true,Bool.and_eq_true,beq_iff_eq,zBB]
   constructor
   ·rintro ⟨p,hp,q,hq,e,e2⟩
    exact ⟨p,hp,q,hq,e2⟩
   ·rintro ⟨p,hp,q,hq,e2⟩
    exact ⟨p,hp,q,hq,by rw [e2,hD];exact List.contains_iff_mem.2 hx,e2⟩] at m2
 have key:zpt (evw C y0) zcy [zaq c,dsV l] []=some (.ret (.tup [.own id 0 l.length l.length,iv 0]),h2):=by
  have n1:(c.kind != 2)=false:=by rw [hk2];rfl
  have w0:c.vars[0]? = some (a:Int):=by simp [hv]
  have w1:c.vars[1]? = some (b:Int):=by simp [hv]
  have w2:c.vars[2]? = some (d:Int):=by simp [hv]
  have A1:l[a]? = some A:=by simp [ha,hA]
  have A2:∀ h:a<l.length,l[a]'h=A:=fun _=>hA.symm
  have B1:l[b]? = some B:=by simp [hb',hB]
  have B2:∀ h:b<l.length,l[b]'h=B:=fun _=>hB.symm
  have D1:l[d]? = some D:=by simp [hd',hD]
  have D2:∀ h:d<l.length,l[d]'h=D:=fun _=>hD.symm
  have u0:(a:Int)<l.length:=by omega
  have u1:(b:Int)<l.length:=by omega
  have u2:(d:Int)<l.length:=by omega
  simp [zaa,zcy,zeB,zzt,n1,kr,km,e1,g0,w0,w1,w2,A1,A2,B1,B2,D1,D2,ha,hb',hd',u0,u1,u2,kA,kB,kD,kt,e2]
 refine zap (h':=h2) (v:=.tup [.own id 0 l.length l.length,iv 0]) (v':=.tup [dsV (zai c l),iv 0]) (CT zoX) rfl rfl key ?_ (by simp)
 have f1:=zmj m2.at_ (n:=l.length) (by rw [zby]) 5
 have f2:frz h2 fdepth (.tup [.own id 0 l.length l.length,iv 0])=(zdP (frz h2 11) [.own id 0 l.length l.length,iv 0]).map .tup:=rfl
 rw [f2]
 simp only [zdP,f1]
 rfl
def zru (c:Con) (l:Ds):Ds×Int:=if (zaC c l.length&&zfR l)=true then (zai c l,0) else ([],1)
theorem zqO {k:Bool} {c:Con} {l:Ds} (h:k=true):znO k c l=zru c l:=by
 unfold znO zru
 rw [h,Bool.true_and]
theorem zt9 {c:Con} {n:Int} (h:zaC c n=true):1≤c.kind∧c.kind≤6:=by
 unfold zaC at h
 repeat' split at h
 all_goals first|omega|cases h
theorem zrP (c:Con) (hc:c150 c) (l:Ds) (hl:zmK l) (h:List Ob):acw C zem [zaq c,dsV l] h=some (.ret (.tup [dsV (zru c l).1,iv (zru c l).2]),h):=by
 have k1:=fun h=>zxr c hc l hl h
 have k2:=fun h=>zv3 c hc l hl h
 have k3:=fun h=>zv4 c hc l hl h
 have k4:=fun h=>zxs c hc l hl h
 have k5:=fun h=>zyy c hc l hl h
 have fl:∀ (d:Ds) (e:Int),(V.tup [dsV d,iv e]).flat=true→True:=fun _ _ _=>trivial
 have fz:∀ (d:Ds) (e:Int) (h:List Ob),frz h fdepth (.tup [dsV d,iv e])=some (.tup [dsV d,iv e]):=fun d e h=>rfl
 have run:∀ q:Ds×Int,zpt (evw C y0) zdy [zaq c,dsV l] []=some (.ret (.tup [dsV q.1,iv q.2]),[.row 6 [zaq c]])→acw C zem [zaq c,dsV l] h=some (.ret (.tup [dsV q.1,iv q.2]),h):=fun q e=>
  zap (h':=[.row 6 [zaq c]]) (v:=.tup [dsV q.1,iv q.2]) (v':=.tup [dsV q.1,iv q.2]) (CT zqx) rfl rfl e rfl (by simp)
 by_cases c1:c.kind=1
 ·have e1:(c.kind==1)=true:=by simpa using c1
  rw [zqO (by simp [c1])] at k1
  exact run _ (by simp [zaa,zdy,zfD,e1,k1])
 have e1:(c.kind==1)=false:=by simpa using c1
 by_cases c3:c.kind=3
 ·have e3:(c.kind==3)=true:=by simpa using c3
  rw [zqO (by simp [c3])] at k1
  exact run _ (by simp [zaa,zdy,zfD,e1,e3,k1])
 have e3:(c.kind==3)=false:=by simpa using c3
 by_cases c2:c.kind=2
 ·have e2:(c.kind==2)=true:=by simpa using c2
  rw [zqO (by simp [c2])] at k2
  exact run _ (by simp [zaa,zdy,zfD,e1,e3,e2,k2])
 have e2:(c.kind==2)=false:=by simpa using c2
 by_cases c4:c.kind=4
 ·have e4:(c.kind==4)=true:=by simpa using c4
  rw [zqO (by simp [c4])] at k3
  exact run _ (by simp [zaa,zdy,zfD,e1,e3,e2,e4,k3])
 have e4:(c.kind==4)=false:=by simpa using c4
 by_cases c5:c.kind=5
 ·have e5:(c.kind==5)=true:=by simpa using c5
  rw [zqO (by simp [c5])] at k4
  exact run _ (by simp [zaa,zdy,zfD,e1,e3,e2,e4,e5,k4])
 have e5:(c.kind==5)=false:=by simpa using c5
 by_cases c6:c.kind=6
 ·have e6:(c.kind==6)=true:=by simpa using c6
  rw [zqO (by simp [c6])] at k5
  exact run _ (by simp [zaa,zdy,zfD,e1,e3,e2,e4,e5,e6,k5])
 have e6:(c.kind==6)=false:=by simpa using c6
 have bad:zru c l=([],1):=by
  unfold zru
  rw [if_neg]
  intro q
  simp only [Bool.and_eq_true] at q
  have:=zt9 q.1
  omega
 rw [bad]
 refine zap (h':=[.row 6 [zaq c]]) (v:=.tup [.nsl 2,iv 1]) (v':=.tup [dsV [],iv 1]) (CT zqx) rfl rfl ?_ rfl (by simp)
 simp [zaa,zdy,zfD,e1,e3,e2,e4,e5,e6]
def zbH (cs:List Con) (l:Ds):Bool:=decide (l.length≤16)&&(cs.all fun c=>zaC c l.length)&&zfR l
theorem fr_1 (c:Con) (hc:c150 c) (l:Ds) (h:List Ob):acw C zep [zaq c,.pin (dsV l) 0] h=some (.ret (.bool (!zaC c l.length)),h):=by
 have kr:=fun h=>right c l.length (zki hc) h
 refine zar (v:=.bool _) (CT zuj) rfl rfl (fun _=>rfl) (by simp) ⟨[.row 6 [zaq c]],?_⟩
 simp [zaa,zmg,zpK,kr]
theorem fr_2 (d:Dm) (hd:d.live<18446744073709551616∧d.vals.length≤1000000) (h:List Ob):acw C zgf [zaj d] h=some (.ret (.bool (!zcX d)),h):=by
 have k:=fun h=>zjb d hd.1 hd.2 h
 refine zar (v:=.bool _) (CT zuG) rfl rfl (fun _=>rfl) (by simp) ⟨[.row 2 [zaj d]],?_⟩
 simp [zaa,zl6,zqi,k]
theorem zv7 (cs:List Con) (hcs:∀ c∈cs,c150 c) (hcl:cs.length≤1000) (l:Ds) (hl:zmK l) (h:List Ob):acw C zi5 [zaW cs,dsV l] h=some (.ret (.bool (zbH cs l)),h):=by
 have km:=fun h=>zd9 (fun d=>!zcX d) zgf l (fun d hd h=>fr_2 d (hl.d d hd) h) hl.n h
 rw [zgD] at km
 have kc:acw C zay [zaW cs,.fn (.func zep) [] [.ptr 0 0 0 1]] [.row 1 [dsV l]]=some (.ret (.bool (cs.any fun c=>!zaC c l.length)),[.row 1 [dsV l]]):=
  zfr (C:=C) (m:=zay) (n:=zaK) (enc:=zaq) (CT zfh) (CT zei) (g:=zep) (first:=[]) (cap:=[.pin (dsV l) 0]) cs (by omega) (fun _ _=>zzM rfl) (zC5 rfl rfl) (fun _=>rfl) (p:=fun c=>!zaC c l.length) (fun c hc=>fr_1 c (hcs c hc) l [])
 have ea:(cs.any fun c=>!zaC c l.length)=!(cs.all fun c=>zaC c l.length):=by rw [List.not_all_eq_any_not]
 rw [ea] at kc
 unfold zbH
 have n16:∀ b:Bool,decide (l.length≤16)=b→decide ((l.length:Int)≤16)=b:=fun b hb=>by
  rw [←hb,Bool.eq_iff_iff]
  simp only [decide_eq_true_eq]
  omega
 refine zar (v:=.bool _) (CT zwL) rfl rfl (fun _=>rfl) (by simp) ⟨[.row 1 [dsV l]],?_⟩
 cases h1:decide (l.length≤16) with
 | false=>
  have h2:=n16 _ h1
  have h3:¬(l.length:Int)≤16:=by simpa using h2
  simp [zaa,zjK,zlQ,h3]
 | true=>
  have h2:=n16 _ h1
  have h3:(l.length:Int)≤16:=by simpa using h2
  cases h4:cs.all fun c=>zaC c l.length with
  | false=>
   rw [h4] at kc
   simp [zaa,zjK,zlQ,h3,kc]
  | true=>
   rw [h4] at kc
   cases h5:zfR l<;>rw [h5] at km<;>simp [zaa,zjK,zlQ,h3,kc,km]
theorem ztZ {l:Ds} (ok:okL l) (hn:l.length≤1000) (h:List Ob):acw C zhx [dsV l] h=some (.ret (dsV l),h):=by
 obtain ⟨v,h1,e1,a1,s1⟩:=zxC ok hn 0 l.length 0 (.nsl 2) [] (by omega) (by simp) (.inl ⟨rfl,by simp⟩)
 simp only [Int.cast_ofNat_Int] at e1
 have f:=a1.frz (ys:=l.map zaj) 11 (znz fun x hx=>by
  obtain ⟨b,-,rfl⟩:=List.mem_map.1 hx
  exact zAM b _ 7)
 refine zap (h':=h1) (v:=v) (v':=dsV l) (CT zwf) rfl rfl ?_ f (by
  obtain ⟨a1,a2,a3,a4⟩:=a1.good
  simp [a1,a2])
 simp [zaa,znG,zq0,e1]
end Go.RR.FX
/- Maps as values: small laws. -/
namespace Go.RR.M
open Go Go.RR
@[simp] theorem zCA {i:Nat}:(V.mp i).cells=[.mp i]:=rfl
@[simp] theorem mp_und {i:Nat}:(V.mp i).isUnd=false:=rfl
@[simp] theorem mp_tup {i:Nat}:(V.mp i).isTup=false:=rfl
@[simp] theorem zDo {i:Nat}:(V.mp i).size=1:=rfl
@[simp] theorem zBG:V.size .nmp=1:=rfl
theorem zux {nid:Nat} {h:List Ob}:opJ nid h .mkm []=some (.mp nid,some (nid,.map [] 0)):=rfl
theorem o_lkt {nid id c i:Nat} {h:List Ob} {ks:Option IntKind} {z key v:V} {es:List (V×V×Nat)} (e:h[id]? = some (.map es c)) (k:ziO ks key=true) (f:mfind key es 0=some (some (i,v))):opJ nid h (.lku ks z true) [.mp id,key]=some (.tup [v,.bool true],none):=by
 simp [opJ,zgc,e,k,f,lkr]
theorem o_lkt0 {nid id c:Nat} {h:List Ob} {ks:Option IntKind} {z key:V} {es:List (V×V×Nat)} (e:h[id]? = some (.map es c)) (k:ziO ks key=true) (f:mfind key es 0=some none):opJ nid h (.lku ks z true) [.mp id,key]=some (.tup [z,.bool false],none):=by
 simp [opJ,zgc,e,k,f,lkr]
theorem o_mpu {nid id c:Nat} {h:List Ob} {ks:Option IntKind} {key v:V} {es:List (V×V×Nat)} (e:h[id]? = some (.map es c)) (k:ziO ks key=true) (hv:v.isUnd=false) (hv2:v.isTup=false) (f:mfind key es 0=some none):opJ nid h (.mpu ks) [.mp id,key,v]=some (.und,some (id,.map (es++[(key,v,c)]) (c+1))):=by
 simp [opJ,zgc,e,k,f,hv,hv2]
end Go.RR.M
/- Trails in memory: cells, stamps; what is read of them. -/
namespace Go.RR.TU
open Go Go.RR Go.RR.M
abbrev Al:=Int
abbrev en (x:Al):V:=.int .u64 x
abbrev zA:Al:=0
theorem bnA (a b:Al):(a != b)=!decide (a=b):=by
 by_cases c:a=b<;>simp [c]
structure TB (h:List Ob) (tid cid sid:Nat) (C:List Al) (S:List Int) (ov:V):Prop where
 t:h[tid]? = some (.row 3 [.agg [.own cid 0 C.length C.length,.own sid 0 C.length C.length,ov]])
 c:h[cid]? = some (.row 1 (C.map en))
 s:h[sid]? = some (.row 1 (S.map (V.int .i64)))
 n1:tid≠cid
 n2:tid≠sid
 n3:cid≠sid
 sl:S.length=C.length
theorem TB.keep {h h':List Ob} {tid cid sid:Nat} {C:List Al} {S:List Int} {ov:V} (a:TB h tid cid sid C S ov) (k:∀ j,j=tid∨j=cid∨j=sid→h'[j]? = h[j]?):TB h' tid cid sid C S ov:=
 ⟨by rw [k _ (.inl rfl)];exact a.t,by rw [k _ (.inr (.inl rfl))];exact a.c,by rw [k _ (.inr (.inr rfl))];exact a.s,a.n1,a.n2,a.n3,a.sl⟩
def zzd (C:List Al) (S:List Int) (i:Nat) (x:Al):List Int:=if C[i]? = some x then S else S.set i (S.getD i 0+1)
theorem zyd {C:List Al} {S:List Int} {i:Nat} {x:Al}:(zzd C S i x).length=S.length:=by unfold zzd;split<;>simp
variable {K:Cx} (hK:∀ f F,T f=some F→K.T f=some F)
include hK
theorem there {h:List Ob} {tid cid sid:Nat} {C:List Al} {S:List Int} {ov:V} (a:TB h tid cid sid C S ov) (i:Int):acw K zbl [.ptr tid 0 0 1,iv i] h=some (.ret (.bool (decide (0≤i)&&decide (i<C.length))),h):=by
 obtain ⟨a1,a2,a3,n1,n2,n3,sl⟩:=a
 rw [zbd (hK _ _ zj8) rfl]
 by_cases c1:0≤i
 ·by_cases c2:i<C.length<;>simp [zaa,zbi,zcf,a1,a2,c1,c2]
 ·simp [zaa,zbi,zcf,a1,a2,c1]
theorem put {h:List Ob} {tid cid sid:Nat} {C:List Al} {S:List Int} {ov:V} (a:TB h tid cid sid C S ov) (i:Nat) (hi:i<C.length) (x:Al) (hS:∀ s∈S,0≤s∧s≤1000000) :
  ∃ h',acw K zbD [.ptr tid 0 0 1,iv i,en x] h=some (.ret (.tup []),h')∧TB h' tid cid sid (C.set i x) (zzd C S i x) ov∧(∀ j,j≠cid→j≠sid→h'[j]? = h[j]?)∧h'.length=h.length:=by
 obtain ⟨a1,a2,a3,n1,n2,n3,sl⟩:=a
 have hc:=(List.getElem?_eq_some_iff.1 a2).1
 have hs:=(List.getElem?_eq_some_iff.1 a3).1
 have hi2:(i:Int)<C.length:=by omega
 obtain ⟨y,hy⟩:∃ y,y=C[i]:=⟨_,rfl⟩
 have h3:C[i]? = some y:=by simp [hi,hy]
 have h4:∀ h:i<C.length,C[i]'h=y:=fun _=>hy.symm
 have his:i<S.length:=by omega
 obtain ⟨s,hs0⟩:∃ s,s=S[i]:=⟨_,rfl⟩
 have h5:S[i]? = some s:=by simp [his,hs0]
 have h6:∀ h:i<S.length,S[i]'h=s:=fun _=>hs0.symm
 have hsb:=hS s (by rw [hs0];exact List.getElem_mem his)
 have hgd:S.getD i 0=s:=by rw [List.getD_eq_getElem?_getD,h5];rfl
 by_cases c:y=x
 ·subst c
  refine ⟨h,?_,⟨?_,?_,?_,n1,n2,n3,?_⟩,fun _ _ _=>rfl,rfl⟩
  ·rw [zbd (hK _ _ zfx) rfl]
   simp [zaa,zbB,zcK,a1,a2,a3,hi,hi2,h3,h4,bnA]
  ·rw [List.length_set];exact a1
  ·rw [hy,List.set_getElem_self];exact a2
  ·unfold zzd;rw [if_pos h3];exact a3
  ·rw [List.length_set,zyd];exact sl
 ·have w1:IntKind.i64.wrap (s+1)=s+1:=wrap64 (by omega) (by omega)
  obtain ⟨h1,hh1⟩:∃ h1,h1=h.set cid (.row 1 ((C.set i x).map en)):=⟨_,rfl⟩
  obtain ⟨h2,hh2⟩:∃ h2,h2=h1.set sid (.row 1 ((S.set i (s+1)).map (V.int .i64))):=⟨_,rfl⟩
  have g1:h1[tid]? = some (.row 3 [.agg [.own cid 0 C.length C.length,.own sid 0 C.length C.length,ov]]):=by rw [hh1,List.getElem?_set_ne (Ne.symm n1)];exact a1
  have g2:h1[sid]? = some (.row 1 (S.map (V.int .i64))):=by rw [hh1,List.getElem?_set_ne n3];exact a3
  have u1:wr h (some (cid,.row 1 ((C.map en).set i (en x))))=h1:=by rw [zfi hc,hh1,List.map_set]
  have u2:wr h1 (some (sid,.row 1 ((S.map (V.int .i64)).set i (.int .i64 (s+1)))))=h2:=by rw [zfi (by rw [hh1,List.length_set];exact hs),hh2,List.map_set]
  refine ⟨h2,?_,⟨?_,?_,?_,n1,n2,n3,?_⟩,fun j k1 k2=>?_,by rw [hh2,List.length_set,hh1,List.length_set]⟩
  ·rw [zbd (hK _ _ zfx) rfl]
   simp [zaa,zbB,zcK,a1,a2,a3,hi,hi2,h3,h4,his,sl,h5,h6,bnA,c,w1,u1,u2,g1,g2]
  ·rw [List.length_set,hh2,List.getElem?_set_ne (Ne.symm n2)];exact g1
  ·rw [hh2,List.getElem?_set_ne (Ne.symm n3),hh1];simp [hc]
  ·rw [hh2];unfold zzd;rw [if_neg (by rw [h3];simpa using c),hgd];simp [hh1,hs]
  ·rw [List.length_set,zyd];exact sl
  ·rw [hh2,List.getElem?_set_ne (Ne.symm k2),hh1,List.getElem?_set_ne (Ne.symm k1)]
end Go.RR.TU
/- Trails in memory: what is read; entries of maps. -/
namespace Go.RR.TU
open Go Go.RR Go.RR.M
abbrev En:=Nat×Al×Nat
def enE (e:En):V×V×Nat:=(iv (e.1:Int),en e.2.1,e.2.2)
abbrev enL (L:List En):List (V×V×Nat):=L.map enE
structure EnOK (L:List En) (clk:Nat):Prop where
 k:(L.map (·.1)).Nodup
 b:(L.map (·.2.2)).Nodup
 c:∀ e∈L,e.2.2<clk
theorem zqv {i:Nat}:∀ {L:List En} {n:Nat},(∀ e∈L,e.1≠i)→mfind (iv (i:Int)) (enL L) n=some none
 | [],n,_=>rfl
 | e::r,n,h=>by
  have h1:=h e (by simp)
  have h2:((i:Int)==(e.1:Int))=false:=by simp;omega
  simp only [List.map_cons,enE,mfind,ztr,if_true,h2]
  exact zqv fun x hx=>h x (by simp [hx])
theorem ztU {i:Nat}:∀ {L:List En} {n:Nat} {e:En},(L.map (·.1)).Nodup→e∈L→e.1=i→∃ j,mfind (iv (i:Int)) (enL L) n=some (some (n+j,en e.2.1))∧L.eraseIdx j=L.filter fun x=>decide (x.1≠i)
 | e0::r,n,e,hn,he,hi=>by
  simp only [List.map_cons] at hn
  obtain ⟨h1,h2⟩:=List.nodup_cons.1 hn
  by_cases c:e0.1=i
  ·have:e=e0:=by
    rcases List.mem_cons.1 he with h|h
    ·exact h
    ·exact absurd (List.mem_map.2 ⟨e,h,by rw [hi,←c]⟩) h1
   subst this
   refine ⟨0,by simp [enE,mfind,ztr,c],?_⟩
   have hr:∀ x∈r,x.1≠i:=fun x hx q=>h1 (List.mem_map.2 ⟨x,hx,by rw [q,c]⟩)
   simp only [List.eraseIdx_zero,List.tail_cons]
   rw [List.filter_cons_of_neg (by simp [c]),List.filter_eq_self.2 fun x hx=>by simpa using hr x hx]
  ·have he':e∈r:=by
    rcases List.mem_cons.1 he with h|h
    ·exact absurd (by rw [←h];exact hi) c
    ·exact h
   obtain ⟨j,k1,k2⟩:=ztU (n:=n+1) h2 he' hi
   have h3:((i:Int)==(e0.1:Int))=false:=by simp;omega
   refine ⟨j+1,?_,?_⟩
   ·simp only [List.map_cons,enE,mfind,ztr,if_true,h3]
    rw [show n+(j+1)=n+1+j by omega]
    exact k1
   ·rw [List.eraseIdx_cons_succ,k2,List.filter_cons_of_pos (by simpa using c)]
theorem zvw {α β:Type} (f:α→β):∀ (l:List α) (j:Nat),(l.map f).eraseIdx j=(l.eraseIdx j).map f
 | [],j=>by simp
 | x::r,0=>by simp
 | x::r,j+1=>by simp [zvw f r j]
theorem zCw {L:List En}:(enL L).map (·.2.2)=L.map (·.2.2):=by simp [enL,enE,List.map_map,Function.comp_def]
variable {K:Cx} (hK:∀ f F,T f=some F→K.T f=some F)
include hK
theorem marksT {h:List Ob} {tid cid sid oid m tot:Nat} {C:List Al} {S:List Int} {xs:List V} (a:TB h tid cid sid C S (.own oid 0 m tot)) (o:h[oid]? = some (.row 1 xs)) (ht:xs.length=tot) (hm:m≤1000000):acw K zbh [.ptr tid 0 0 1] h=some (.ret (iv ((m:Int)-1)),h):=by
 obtain ⟨a1,a2,a3,n1,n2,n3,sl⟩:=a
 have w1:IntKind.i64.wrap ((m:Int)-1)=(m:Int)-1:=wrap64 (by omega) (by omega)
 rw [zbd (hK _ _ zj9) rfl]
 simp [zaa,zcb,zes,a1,o,ht,w1]
theorem lastT {h:List Ob} {tid cid sid oid m tot mid:Nat} {C:List Al} {S:List Int} {xs:List V} (a:TB h tid cid sid C S (.own oid 0 (m+1) tot)) (o:h[oid]? = some (.row 1 xs)) (ht:xs.length=tot) (hm:m≤1000000) (hx:xs[m]? = some (.mp mid)):acw K za2 [.ptr tid 0 0 1] h=some (.ret (.mp mid),h):=by
 obtain ⟨a1,a2,a3,n1,n2,n3,sl⟩:=a
 have w1:IntKind.i64.wrap (m:Int)=m:=wrap64 (by omega) (by omega)
 have hl:=(List.getElem?_eq_some_iff.1 hx).1
 have h4:∀ h:m<xs.length,xs[m]'h=.mp mid:=fun _=>(List.getElem?_eq_some_iff.1 hx).2
 have c1:m+1≤tot:=by omega
 have c2:m<tot:=by omega
 have c3:(m:Int)<(m:Int)+1:=by omega
 rw [zbd (hK _ _ zld) rfl]
 simp [zaa,zcx,zeR,a1,o,ht,w1,hx,h4,c1,c2,c3]
end Go.RR.TU
/- Entries that are deleted, in whatever order they come. -/
namespace Go.RR.TU
open Go Go.RR Go.RR.M
theorem zA7 {l m:List Ob} {n:Nat} {y:Ob} (e:n<l.length):(l++m).set n y=l.set n y++m:=by
 rw [List.set_append]
 simp [e]
def left (L:List En) (seen:List Nat):List En:=L.filter fun x=>!seen.contains x.2.2
theorem zCp {L:List En}:left L []=L:=List.filter_eq_self.2 fun x _=>by simp
theorem zCo {L:List En} {seen:List Nat} {e:En}:e∈left L seen↔e∈L∧e.2.2∉seen:=by
 unfold left
 rw [List.mem_filter]
 simp
theorem zxc {L:List En} {seen:List Nat}:unseen (enL L) seen=enL (left L seen):=by
 unfold unseen left enL
 rw [List.filter_map]
 rfl
theorem zvg:∀ {L:List En} {seen:List Nat} {e:En},(L.map (·.2.2)).Nodup→e∈left L seen→(left L (seen++[e.2.2])).length+1=(left L seen).length
 | [],seen,e,_,he=>by simp [left] at he
 | x::r,seen,e,hn,he=>by
  simp only [List.map_cons] at hn
  obtain ⟨h1,h2⟩:=List.nodup_cons.1 hn
  have hsub:∀ y∈r,y.2.2≠x.2.2:=fun y hy q=>h1 (List.mem_map.2 ⟨y,hy,q⟩)
  by_cases c:e=x
  ·subst c
   have hns:=(zCo.1 he).2
   have k1:left r (seen++[e.2.2])=left r seen:=by
    unfold left
    refine List.filter_congr fun y hy=>?_
    have:=hsub y hy
    simp [this]
   have e1:left (e::r) (seen++[e.2.2])=left r (seen++[e.2.2]):=by unfold left;rw [List.filter_cons_of_neg (by simp)]
   have e2:left (e::r) seen=e::left r seen:=by unfold left;rw [List.filter_cons_of_pos (by simpa using hns)]
   rw [e1,e2,k1,List.length_cons]
  ·have he':e∈left r seen:=by
    rw [zCo] at he ⊢
    rcases List.mem_cons.1 he.1 with h|h
    ·exact absurd h c
    ·exact ⟨h,he.2⟩
   have ih:=zvg h2 he'
   have hne:x.2.2≠e.2.2:=fun q=>h1 (List.mem_map.2 ⟨e,(zCo.1 he').1,q.symm⟩)
   by_cases d:x.2.2∈seen
   ·have e1:left (x::r) (seen++[e.2.2])=left r (seen++[e.2.2]):=by unfold left;rw [List.filter_cons_of_neg (by simp [d])]
    have e2:left (x::r) seen=left r seen:=by unfold left;rw [List.filter_cons_of_neg (by simp [d])]
    rw [e1,e2]
    exact ih
   ·have e1:left (x::r) (seen++[e.2.2])=x::left r (seen++[e.2.2]):=by unfold left;rw [List.filter_cons_of_pos (by simp [d,hne])]
    have e2:left (x::r) seen=x::left r seen:=by unfold left;rw [List.filter_cons_of_pos (by simp [d])]
    rw [e1,e2,List.length_cons,List.length_cons]
    omega
def kp (C:List Al) (seen:List Nat) (e:En):Bool:=!(seen.contains e.2.2&&decide (C[e.1]? = some e.2.1))
variable {K:Cx} (hK:∀ f F,T f=some F→K.T f=some F)
include hK
end Go.RR.TU
/- What is as it was at the last mark is forgotten. -/
namespace Go.RR.TU
open Go Go.RR Go.RR.M
def rest (C:List Al) (L:List En):List En:=L.filter fun e=>decide (C[e.1]? ≠ some e.2.1)
end Go.RR.TU
/- Cells that are turned back, in whatever order they come. -/
namespace Go.RR.TU
open Go Go.RR Go.RR.M
theorem En.inj {L:List En} {clk:Nat} (ok:EnOK L clk):(∀ x∈L,∀ y∈L,x.2.2=y.2.2→x=y)∧∀ x∈L,∀ y∈L,x.1=y.1→x=y:=by
 constructor
 ·intro x hx y hy q
  have:=ok.b
  obtain ⟨i,hi,rfl⟩:=List.mem_iff_getElem.1 hx
  obtain ⟨j,hj,rfl⟩:=List.mem_iff_getElem.1 hy
  have hij:=(List.getElem_inj (h₀:=by simpa using hi) (h₁:=by simpa using hj) this).1 (by simpa using q)
  subst hij
  rfl
 ·intro x hx y hy q
  have:=ok.k
  obtain ⟨i,hi,rfl⟩:=List.mem_iff_getElem.1 hx
  obtain ⟨j,hj,rfl⟩:=List.mem_iff_getElem.1 hy
  have hij:=(List.getElem_inj (h₀:=by simpa using hi) (h₁:=by simpa using hj) this).1 (by simpa using q)
  subst hij
  rfl
variable {K:Cx} (hK:∀ f F,T f=some F→K.T f=some F)
include hK
end Go.RR.TU
/- Undo as a whole. -/
namespace Go.RR.TU
open Go Go.RR Go.RR.M
structure MK (h:List Ob) (mid:Nat) (L:List En) (clk:Nat) (now next:List Al):Prop where
 m:h[mid]? = some (.map (enL L) clk)
 ok:EnOK L clk
 y:∀ e∈L,now[e.1]? = some e.2.1
 n:∀ i:Nat,(∀ e∈L,e.1≠i)→now[i]? = next[i]?
 l:now.length=next.length
theorem MK.keep {h h':List Ob} {mid clk:Nat} {L:List En} {now next:List Al} (a:MK h mid L clk now next) (k:h'[mid]? = h[mid]?):MK h' mid L clk now next:=⟨by rw [k];exact a.m,a.ok,a.y,a.n,a.l⟩
theorem MK.hL {h:List Ob} {mid clk:Nat} {L:List En} {now next:List Al} (a:MK h mid L clk now next):∀ e∈L,e.1<next.length:=fun e he=>by
 have:=(List.getElem?_eq_some_iff.1 (a.y e he)).1
 rw [←a.l]
 exact this
theorem hK1:∀ f F,T f=some F→C0.T f=some F:=fun _ _ h=>h
end Go.RR.TU
/- Changed as a whole. -/
namespace Go.RR.TU
open Go Go.RR Go.RR.M
theorem app_eq {z b:Nat} {h:List Ob} {xs:List V} {y:V} (h1:(xs.length+1)*b≤70368744177664) (h2:xs.length+1≤70368744177664) :
  ∃ w,zit (zon z h xs).length (zon z h xs) z b (zpg z h.length xs) (.sl z [y])=some (zpg z h.length (xs++[y]),w)∧wr (zon z h xs) w=zon z h (xs++[y]):=by
 have hne:xs++[y]≠[]:=by simp
 have hy:∀ h,src h (.sl z [y])=some (z,[y]):=fun _=>rfl
 unfold zit
 simp only [op1,zrF,hy,if_true]
 unfold zpg zon at *
 by_cases e:xs=[]
 ·subst e
  simp only [List.nil_append,List.length_nil,Nat.zero_add,Nat.one_mul] at *
  simp [h1,h2]
 ·simp [e,zaF,h1,h2,wr,comb]
theorem zxS {z:Nat} {h:List Ob} {xs:List V} {a b:Ob}:(zon z (h++[a]) xs).set h.length b=zon z (h++[b]) xs:=by
 unfold zon
 by_cases e:xs=[]
 ·simp [e]
 ·simp [e,zA7]
theorem zxO {z:Nat} {h:List Ob} {xs:List V} {j:Nat} (hj:j<h.length):(zon z h xs)[j]? = h[j]?:=by
 unfold zon
 split
 ·rfl
 ·exact zsO hj
def chg (C B:List Al):List Int:=((List.range C.length).filter fun i:Nat=>decide (C[i]? ≠ B[i]?)).map fun i:Nat=>(i:Int)
theorem zEX {C B:List Al}:(chg C B).Pairwise (·<·):=by
 unfold chg
 rw [List.pairwise_map]
 refine (List.pairwise_lt_range.filter _).imp fun {a b} h=>by omega
theorem zDK {C B:List Al} {z:Int}:z∈chg C B↔∃ i:Nat,i<C.length∧z=i∧C[i]? ≠ B[i]?:=by
 unfold chg
 simp only [List.mem_map,List.mem_filter,List.mem_range,decide_eq_true_eq]
 constructor
 ·rintro ⟨i,⟨h1,h2⟩,rfl⟩
  exact ⟨i,h1,rfl,h2⟩
 ·rintro ⟨i,h1,rfl,h2⟩
  exact ⟨i,⟨h1,h2⟩,rfl⟩
theorem zD6 {C B:List Al}:(chg C B).length≤C.length:=by
 unfold chg
 rw [List.length_map]
 exact Nat.le_trans (List.length_filter_le _ _) (by simp)
structure Got (L:List En) (C:List Al) (seen:List Nat) (ks:List Int):Prop where
 n:ks.Nodup
 m:∀ z,z∈ks↔∃ e∈L,e.2.2∈seen∧z=(e.1:Int)∧C[e.1]? ≠ some e.2.1
theorem Got.nil {L:List En} {C:List Al}:Got L C [] []:=⟨List.nodup_nil,fun z=>by simp⟩
theorem Got.step {L:List En} {C:List Al} {seen:List Nat} {ks:List Int} {clk:Nat} (g:Got L C seen ks) (ok:EnOK L clk) {e:En} (he:e∈left L seen):Got L C (seen++[e.2.2]) (if C[e.1]? = some e.2.1 then ks else ks++[(e.1:Int)]):=by
 obtain ⟨h1,h2⟩:=zCo.1 he
 obtain ⟨inj,injk⟩:=En.inj ok
 have hm:∀ z:Int,(∃ x∈L,x.2.2∈seen++[e.2.2]∧z=(x.1:Int)∧C[x.1]? ≠ some x.2.1)↔z∈ks∨(z=(e.1:Int)∧C[e.1]? ≠ some e.2.1):=fun z=>by
  rw [g.m]
  constructor
  ·rintro ⟨x,hx,k1,k2,k3⟩
   rcases List.mem_append.1 k1 with k|k
   ·exact .inl ⟨x,hx,k,k2,k3⟩
   ·have:=inj x hx e h1 (List.mem_singleton.1 k)
    subst this
    exact .inr ⟨k2,k3⟩
  ·rintro (⟨x,hx,k1,k2,k3⟩|⟨k2,k3⟩)
   ·exact ⟨x,hx,List.mem_append_left _ k1,k2,k3⟩
   ·exact ⟨e,h1,by simp,k2,k3⟩
 by_cases c:C[e.1]? = some e.2.1
 ·rw [if_pos c]
  exact ⟨g.n,fun z=>by rw [hm z];simp [c]⟩
 ·rw [if_neg c]
  refine ⟨?_,fun z=>by rw [hm z];simp [c]⟩
  refine List.nodup_append.2 ⟨g.n,by simp,fun a ha b hb=>?_⟩
  rw [List.mem_singleton.1 hb]
  intro q
  subst q
  obtain ⟨x,hx,k1,k2,k3⟩:=(g.m _).1 ha
  have:=injk x hx e h1 (by omega)
  subst this
  exact h2 k1
theorem Got.fin {h:List Ob} {mid clk:Nat} {L:List En} {B C:List Al} {seen:List Nat} {ks:List Int} (g:Got L C seen ks) (k:MK h mid L clk B C) (all:∀ e∈L,e.2.2∈seen):zor ks=chg C B:=by
 have hm:∀ z,z∈ks↔z∈chg C B:=fun z=>by
  rw [g.m,zDK]
  constructor
  ·rintro ⟨e,he,k1,rfl,k3⟩
   exact ⟨e.1,k.hL e he,rfl,by rw [k.y e he];exact k3⟩
  ·rintro ⟨i,hi,rfl,k3⟩
   by_cases c:∃ e∈L,e.1=i
   ·obtain ⟨e,he,rfl⟩:=c
    exact ⟨e,he,all e he,rfl,by rw [←k.y e he];exact k3⟩
   ·exact absurd (k.n i fun e he q=>c ⟨e,he,q⟩).symm k3
 have hp:ks.Perm (chg C B):=(List.perm_ext_iff_of_nodup g.n (zEX.imp fun {a b} h=>by omega)).2 hm
 exact List.Perm.eq_of_pairwise (le:=(·≤·)) (fun a b _ _ h1 h2=>Int.le_antisymm h1 h2) (znq ks) (zEX.imp fun {a b} h=>by omega) ((zoj ks).trans hp)
abbrev iL (ks:List Int):List V:=ks.map (V.int .i64)
variable {K:Cx} (hK:∀ f F,T f=some F→K.T f=some F)
include hK
omit hK in
theorem zEb {h:List Ob} {tid cid sid mid:Nat} {C:List Al} {S:List Int} {ov:V} (a:TB h tid cid sid C S ov) {L:List En} {clk:Nat} (ok:EnOK L clk) (hL:∀ e∈L,e.1<C.length) (hln:L.length≤1000000) (hm:h[mid]? = some (.map (enL L) clk)) (Q:Rs→Prop)
  (hQ:∀ seen ks,(∀ e∈L,e.2.2∈seen)→Got L C seen ks→Q (.nrm,[(0,.ptr tid 0 0 1),(3,zpg 1 (h.length+1) (iL ks)),(8,.mp h.length),(10,.bool false)],zon 1 (h++[.dead]) (iL ks))) :
  ∀ (k:Nat) (seen:List Nat) (last:Nat) (fr:Fr) (ks:List Int),(left L seen).length=k→ks.length+k≤L.length→clk≤last→get fr 0=.ptr tid 0 0 1→get fr 3=zpg 1 (h.length+1) (iL ks)→get fr 8=.mp h.length→Got L C seen ks →
  zFf K zam h.length mid clk Q k seen last fr (zon 1 (h++[.itr mid seen clk last]) (iL ks)):=by
 have hml:=(List.getElem?_eq_some_iff.1 hm).1
 have hcl:=(List.getElem?_eq_some_iff.1 a.c).1
 have hsl:=(List.getElem?_eq_some_iff.1 a.s).1
 have htl:=(List.getElem?_eq_some_iff.1 a.t).1
 have old:∀ (j:Nat) (x:Ob) (ks:List Int),j<h.length→(zon 1 (h++[x]) (iL ks))[j]? = h[j]?:=fun j x ks hj=>by rw [zxO (by simp;omega),zsO hj]
 have itr:∀ (x:Ob) (ks:List Int),(zon 1 (h++[x]) (iL ks))[h.length]? = some x:=fun x ks=>by rw [zxO (by simp)];simp
 have l1:∀ x:Ob,h.length+1=(h++[x]).length:=fun x=>by simp
 intro k
 induction k with
 | zero=>
  intro seen last fr ks hk hkl hlast f0 f3 f8 g
  have hall:left L seen=[]:=List.length_eq_zero_iff.1 hk
  refine ⟨f8,enL L,clk,by rw [old mid _ _ hml];exact hm,itr _ _,hlast,?_,?_,?_⟩
  ·intro e he
   obtain ⟨x,hx,rfl⟩:=List.mem_map.1 he
   exact ok.c x hx
  ·rw [zxc,hall];rfl
  ·refine ⟨[(0,.ptr tid 0 0 1),(3,zpg 1 (h.length+1) (iL ks)),(8,.mp h.length),(10,.bool false)],?_,rfl,?_⟩
   ·simp [zFh,zam,f0,f3,f8]
   ·rw [zxS]
    refine hQ seen ks (fun e he=>?_) g
    by_cases c:e.2.2∈seen
    ·exact c
    ·have:=zCo.2 ⟨he,c⟩
     rw [hall] at this
     simp at this
 | succ k ih=>
  intro seen last fr ks hk hkl hlast f0 f3 f8 g
  refine ⟨f8,enL L,clk,by rw [old mid _ _ hml];exact hm,itr _ _,hlast,?_,?_,Nat.le_refl _,?_,?_⟩
  ·intro e he
   obtain ⟨x,hx,rfl⟩:=List.mem_map.1 he
   exact ok.c x hx
  ·rw [zxc]
   intro q
   have:left L seen=[]:=by simpa using q
   rw [this] at hk
   simp at hk
  ·rw [zCw];exact ok.b
  ·rw [zxc]
   intro e he
   obtain ⟨x,hx,rfl⟩:=List.mem_map.1 he
   obtain ⟨hxL,hxs⟩:=zCo.1 hx
   have hstep:=g.step ok hx
   have hcnt:=zvg ok.b hx
   obtain ⟨i,v,b⟩:=x
   have hi:=hL _ hxL
   simp only at hi hxs hstep hcnt
   simp only [enE]
   rw [zxS]
   obtain ⟨w,kw1,kw2⟩:=app_eq (z:=1) (b:=8) (h:=h++[Ob.itr mid (seen++[b]) clk clk]) (xs:=iL ks) (y:=iv i) (by simp;omega) (by simp;omega)
   rw [←l1] at kw1
   have e3:iL ks++[iv i]=iL (ks++[(i:Int)]):=by simp
   rw [e3] at kw1 kw2
   obtain ⟨h1,hh1⟩:∃ h1,h1=zon 1 (h++[Ob.itr mid (seen++[b]) clk clk]) (iL ks):=⟨_,rfl⟩
   have tb1:TB h1 tid cid sid C S ov:=a.keep fun j hj=>by
    rw [hh1,old _ _ _ (by rcases hj with rfl|rfl|rfl<;>assumption)]
   rw [←hh1] at kw1 kw2 ⊢
   obtain ⟨a1,a2,a3,n1,n2,n3,sl⟩:=tb1
   have hi2:(i:Int)<C.length:=by omega
   obtain ⟨y,hy⟩:∃ y,y=C[i]:=⟨_,rfl⟩
   have h3:C[i]? = some y:=by simp [hi,hy]
   have h4:∀ h:i<C.length,C[i]'h=y:=fun _=>hy.symm
   rw [h3] at hstep
   by_cases c:y=v
   ·subst c
    rw [if_pos rfl] at hstep
    refine ⟨[(0,.ptr tid 0 0 1),(3,zpg 1 (h.length+1) (iL ks)),(8,.mp h.length),(10,.bool true)],[(0,.ptr tid 0 0 1),(3,zpg 1 (h.length+1) (iL ks)),(4,iv i),(5,en y),(8,.mp h.length)],.nrm,[(0,.ptr tid 0 0 1),(3,zpg 1 (h.length+1) (iL ks)),(4,iv i),(8,.mp h.length),(22,.bool false)],h1,?_,rfl,rfl,?_,?_,.inl rfl,?_⟩
    ·simp [zFh,zam,f0,f3,f8]
    ·simp [insD,zam]
    ·simp [zam,zbx,a1,a2,hi,hi2,h3,h4,bnA]
    ·rw [hh1];exact ih (seen++[b]) clk _ ks (by omega) (by omega) (Nat.le_refl _) rfl rfl rfl hstep
   ·rw [if_neg (by simpa using c)] at hstep
    refine ⟨[(0,.ptr tid 0 0 1),(3,zpg 1 (h.length+1) (iL ks)),(8,.mp h.length),(10,.bool true)],[(0,.ptr tid 0 0 1),(3,zpg 1 (h.length+1) (iL ks)),(4,iv i),(5,en v),(8,.mp h.length)],.nrm,[(0,.ptr tid 0 0 1),(3,zpg 1 (h.length+1) (iL (ks++[(i:Int)]))),(8,.mp h.length)],_,?_,rfl,rfl,?_,?_,.inl rfl,ih (seen++[b]) clk _ (ks++[(i:Int)]) (by omega) (by simp;omega) (Nat.le_refl _) rfl rfl rfl hstep⟩
    ·simp [zFh,zam,f0,f3,f8]
    ·simp [insD,zam]
    ·have kbs:zii (.int .i64 0) [iv (i:Int)]=some (.sl 1 [iv (i:Int)]):=rfl
     simp only [zam]
     simp [kbs,zbx,a1,a2,hi,hi2,h3,h4,bnA,c,kw1,kw2]
end Go.RR.TU
/- Changed; trails as a whole. -/
namespace Go.RR.TU
open Go Go.RR Go.RR.M
theorem srt_C1 {a:List V} {h:List Ob} {r:Out×List Ob} (e:zzS a h=some r):acw C0 zbm a h=some r:=acw_H rfl (by
 show HN C0 TN1 zbm a h=some r
 unfold HN
 exact e)
theorem zBN {h:List Ob} {ks:List Int} (hk:ks.length<4611686018427387904):acw C0 zbm [zpg 1 h.length (iL ks)] (zon 1 h (iL ks))=some (.ret (.tup []),zon 1 h (iL (zor ks))):=by
 refine srt_C1 ?_
 have hs:=zfF ks
 by_cases e:ks=[]
 ·subst e;rfl
 ·have e2:zor ks≠[]:=by
   intro q
   rw [q] at hs
   exact e (List.length_eq_zero_iff.1 hs.symm)
  simp [zpg,zon,e,e2,zzS,zxH,hk]
theorem zEz {j:Nat} {ks:List Int}:zpg 1 j (iL ks)=zpg 1 j (iL (zor ks)):=by
 have hs:=zfF ks
 by_cases e:ks=[]
 ·subst e;rfl
 ·have e2:zor ks≠[]:=by
   intro q
   rw [q] at hs
   exact e (List.length_eq_zero_iff.1 hs.symm)
  simp [zpg,e,e2,hs]
theorem zrG:∀ {l m:List Nat},l.Nodup→(∀ z∈l,z∈m)→l.length≤m.length
 | [],m,_,_=>Nat.zero_le _
 | x::r,m,hn,hs=>by
  obtain ⟨h1,h2⟩:=List.nodup_cons.1 hn
  have hx:=hs x (by simp)
  have ih:=zrG (m:=m.erase x) h2 fun z hz=>(List.mem_erase_of_ne (fun q:z=x=>h1 (by rw [←q];exact hz))).2 (hs z (by simp [hz]))
  rw [List.length_erase_of_mem hx] at ih
  have:=List.length_pos_of_mem hx
  simp only [List.length_cons]
  omega
theorem zDx {h:List Ob} {tid cid sid oid m tot mb kb:Nat} {Lb:List En} {B C:List Al} {S:List Int} {xs:List V} (a:TB h tid cid sid C S (.own oid 0 (m+1) tot)) (o:h[oid]? = some (.row 1 xs)) (ht:xs.length=tot) (hm1:m≤1000000)
  (xb:xs[m]? = some (.mp mb)) (kb':MK h mb Lb kb B C) (hln:Lb.length≤1000000) :
  zDv C0 zaP [.ptr tid 0 0 1] h=some (.ret (zpg 1 (h.length+1) (iL (chg C B))),zon 1 (h++[.dead]) (iL (chg C B))):=by
 have kl:=lastT hK1 a o ht (by omega) xb
 refine zDj ?_
 refine ⟨(.nrm,[(0,.ptr tid 0 0 1)],h),by simp,?_⟩
 refine ⟨(.nrm,[(0,.ptr tid 0 0 1),(3,.nsl 1)],h),by simp,?_⟩
 refine ⟨[(7,.mp mb),(6,.ptr tid 0 0 1),(0,.ptr tid 0 0 1),(3,.nsl 1)],h,mb,enL Lb,kb,by simp [zam,kl],rfl,kb'.m,?_⟩
 have el:(enL Lb).length=Lb.length:=by simp
 rw [el]
 refine zEb a kb'.ok kb'.hL hln kb'.m _ (fun seen ks all g=>?_) Lb.length [] kb _ [] (by rw [zCp]) (by simp) (Nat.le_refl _) rfl rfl rfl Got.nil
 have hfin:=g.fin kb' all
 have hl:ks.length<4611686018427387904:=by
  rw [←zfF ks,hfin]
  have hcl:(chg C B).length≤Lb.length:=by
   rw [←hfin,zfF]
   have h1:(ks.map Int.toNat).Nodup:=by
    refine (List.pairwise_map).2 (g.n.imp_of_mem fun {x y} hx hy hne q=>?_)
    obtain ⟨_,_,_,rfl,_⟩:=(g.m x).1 hx
    obtain ⟨_,_,_,rfl,_⟩:=(g.m y).1 hy
    exact hne (by simp at q;omega)
   have h2:∀ z∈ks.map Int.toNat,z∈Lb.map (·.1):=fun z hz=>by
    obtain ⟨w,hw,rfl⟩:=List.mem_map.1 hz
    obtain ⟨e,he,_,rfl,_⟩:=(g.m w).1 hw
    exact List.mem_map.2 ⟨e,he,by simp⟩
   have:=zrG h1 h2
   simpa using this
  omega
 have ks1:=zBN (h:=h++[Ob.dead]) hl
 rw [List.length_append,List.length_singleton,hfin] at ks1
 have e2:=zEz (j:=h.length+1) (ks:=ks)
 rw [hfin] at e2
 refine ⟨(.ret,[(2,zpg 1 (h.length+1) (iL (chg C B)))],zon 1 (h++[.dead]) (iL (chg C B))),?_,?_⟩
 ·simp [ks1]
  exact e2
 ·unfold zpg
  split<;>simp [fin,zaP]
end Go.RR.TU
/- Trails as a whole: what they are, and what is turned back. -/
namespace Go.RR.TU
open Go Go.RR Go.RR.M
abbrev Mt:=Nat×List En×Nat
def Ch (h:List Ob):List Mt→List (List Al)→List Al→Prop
 | [],[],_=>True
 | q::ms,B::Os,C=>MK h q.1 q.2.1 q.2.2 B C∧Ch h ms Os B
 | _,_,_=>False
theorem Ch.keep {h h':List Ob}:∀ {Ms:List Mt} {Os:List (List Al)} {C:List Al},Ch h Ms Os C→(∀ j∈Ms.map (·.1),h'[j]? = h[j]?)→Ch h' Ms Os C
 | [],[],_,_,_=>trivial
 | q::ms,B::Os,C,⟨a,b⟩,k=>⟨a.keep (k q.1 (by simp)),b.keep fun j hj=>k j (by simp at hj ⊢;exact .inr hj)⟩
 | [],_::_,_,a,_=>a.elim
 | _::_,[],_,a,_=>a.elim
theorem Ch.len {h:List Ob}:∀ {Ms:List Mt} {Os:List (List Al)} {C:List Al},Ch h Ms Os C→Ms.length=Os.length
 | [],[],_,_=>rfl
 | q::ms,B::Os,C,⟨a,b⟩=>by simp [b.len]
 | [],_::_,_,a=>a.elim
 | _::_,[],_,a=>a.elim
theorem Ch.mem {h:List Ob}:∀ {Ms:List Mt} {Os:List (List Al)} {C:List Al},Ch h Ms Os C→∀ j∈Ms.map (·.1),∃ es c,h[j]? = some (Ob.map es c)
 | [],[],_,_,_,hj=>by simp at hj
 | q::ms,B::Os,C,⟨a,b⟩,j,hj=>by
  rw [List.map_cons] at hj
  rcases List.mem_cons.1 hj with rfl|h
  ·exact ⟨_,_,a.m⟩
  ·exact b.mem j h
 | [],_::_,_,a,_,_=>a.elim
 | _::_,[],_,a,_,_=>a.elim
structure TX (h:List Ob) (tid cid sid oid:Nat) (xs:List V) (Ms:List Mt) (C:List Al) (S:List Int) (Os:List (List Al)):Prop where
 a:TB h tid cid sid C S (.own oid 0 Ms.length xs.length)
 o:h[oid]? = some (.row 1 xs)
 x:xs.take Ms.length=Ms.reverse.map fun q=>.mp q.1
 ch:Ch h Ms Os C
 nd:(Ms.map (·.1)).Nodup
 oc:oid≠cid
 os:oid≠sid
 ot:oid≠tid
 ne:Os≠[]
abbrev foot (tid cid sid oid:Nat) (Ms:List Mt):List Nat:=tid::cid::sid::oid::Ms.map (·.1)
theorem TX.keep {h h':List Ob} {tid cid sid oid:Nat} {xs:List V} {Ms:List Mt} {C:List Al} {S:List Int} {Os:List (List Al)} (t:TX h tid cid sid oid xs Ms C S Os) (k:∀ j∈foot tid cid sid oid Ms,h'[j]? = h[j]?):TX h' tid cid sid oid xs Ms C S Os:=
 ⟨t.a.keep fun j hj=>k j (by simp [foot];rcases hj with h|h|h<;>simp [h]),by rw [k oid (by simp [foot])];exact t.o,t.x,t.ch.keep fun j hj=>k j (by simp [foot] at hj ⊢;exact .inr (.inr (.inr (.inr hj)))),t.nd,t.oc,t.os,t.ot,t.ne⟩
theorem TX.lt {h:List Ob} {tid cid sid oid:Nat} {xs:List V} {Ms:List Mt} {C:List Al} {S:List Int} {Os:List (List Al)} (t:TX h tid cid sid oid xs Ms C S Os):∀ j∈foot tid cid sid oid Ms,j<h.length:=by
 intro j hj
 simp only [foot,List.mem_cons] at hj
 rcases hj with rfl|rfl|rfl|rfl|hj
 ·exact (List.getElem?_eq_some_iff.1 t.a.t).1
 ·exact (List.getElem?_eq_some_iff.1 t.a.c).1
 ·exact (List.getElem?_eq_some_iff.1 t.a.s).1
 ·exact (List.getElem?_eq_some_iff.1 t.o).1
 ·obtain ⟨es,c,e⟩:=t.ch.mem j hj
  exact (List.getElem?_eq_some_iff.1 e).1
theorem TX.top {h:List Ob} {tid cid sid oid:Nat} {xs:List V} {q:Mt} {ms:List Mt} {C:List Al} {S:List Int} {Os:List (List Al)} (t:TX h tid cid sid oid xs (q::ms) C S Os):xs[ms.length]? = some (.mp q.1):=by
 have:=t.x
 have e:(xs.take (q::ms).length)[ms.length]? = xs[ms.length]?:=by simp
 rw [←e,this]
 simp
def TR (h:List Ob) (tid:Nat) (F:List Nat) (C:List Al) (S:List Int) (Os:List (List Al)):Prop:=∃ cid sid oid xs Ms,TX h tid cid sid oid xs Ms C S Os∧F=foot tid cid sid oid Ms
theorem TR.keep {h h':List Ob} {tid:Nat} {F:List Nat} {C:List Al} {S:List Int} {Os:List (List Al)} (t:TR h tid F C S Os) (k:∀ j∈F,h'[j]? = h[j]?):TR h' tid F C S Os:=by
 obtain ⟨cid,sid,oid,xs,Ms,t,rfl⟩:=t
 exact ⟨cid,sid,oid,xs,Ms,t.keep k,rfl⟩
theorem TR.lt {h:List Ob} {tid:Nat} {F:List Nat} {C:List Al} {S:List Int} {Os:List (List Al)} (t:TR h tid F C S Os):∀ j∈F,j<h.length:=by
 obtain ⟨cid,sid,oid,xs,Ms,t,rfl⟩:=t
 exact t.lt
structure Mv (n:Nat) (h h':List Ob) (F F':List Nat):Prop where
 l:h.length≤h'.length
 k:∀ j,j<h.length→j∉F→h'[j]? = h[j]?
 f:∀ j∈F',j∈F∨h.length≤j
 u:h'.length≤h.length+n
theorem chg_C {a:List V} {h:List Ob} {r:Out×List Ob} (e:zDv C0 zaP a h=some r):acw M.C zav a h=some r:=acw_H rfl (by
 show HN C0 TN1 zav a h=some r
 unfold HN
 exact e)
theorem hKC:∀ f F,T f=some F→M.C.T f=some F:=fun _ _ h=>h
end Go.RR.TU
/- Trails as a whole: Set, Save, what is read, what was changed. -/
namespace Go.RR.TU
open Go Go.RR Go.RR.M
theorem zuY {m:Nat} {xs:List V} {y:V} (h:m≤xs.length):(ovr m xs [y]).length=if m=xs.length then m+1 else xs.length:=by
 unfold ovr
 simp
 split<;>omega
theorem zBz {m:Nat} {xs:List V} {y:V} (h:m≤xs.length):(ovr m xs [y]).take (m+1)=xs.take m++[y]:=by
 unfold ovr
 rw [List.append_assoc,List.take_append]
 simp [Nat.min_eq_left h]
 rw [List.take_of_length_le (by simp;omega)]
theorem zBT {h:List Ob} {oid m:Nat} {xs:List V} {v y:V} (o:h[oid]? = some (.row 1 xs)) (hm:m≤xs.length) (hm2:m≤1000000) (hv:src h v=some (1,[y])):zit h.length h 1 8 (.own oid 0 m xs.length) v=some (.own oid 0 (m+1) (ovr m xs [y]).length,some (oid,.row 1 (ovr m xs [y]))):=by
 unfold zit
 rw [zuY hm]
 by_cases c:m=xs.length
 ·subst c
  have c1:(xs.length+1)*8≤70368744177664:=by omega
  have c2:xs.length+1≤70368744177664:=by omega
  have e:ovr xs.length xs [y]=comb 0 xs [y]:=by simp [ovr,comb]
  simp only [op1,zrF,hv,if_true,zaF,o,reduceCtorEq,if_false,List.cons_ne_self,List.length_singleton,Nat.zero_add,true_and,c1,c2,and_self,e]
 ·have c1:m+1≤xs.length:=by omega
  simp only [op1,zrF,hv,if_true,zaF,o,List.length_singleton,Nat.zero_add,true_and,c,c1,false_and,if_false]
  simp
theorem TR.chg {h:List Ob} {tid:Nat} {F:List Nat} {B C:List Al} {S:List Int} {Os:List (List Al)} (t:TR h tid F C S (B::Os)) (hO:Os.length≤999999) (hC:C.length≤1000):acw M.C zav [.ptr tid 0 0 1] h=some (.ret (zpg 1 (h.length+1) (iL (chg C B))),zon 1 (h++[.dead]) (iL (chg C B))):=by
 obtain ⟨cid,sid,oid,xs,Ms,t,rfl⟩:=t
 have hl:=t.ch.len
 match Ms,t,hl with
 | [],t,hl=>simp at hl
 | q::ms,t,hl=>
 have hml:ms.length=Os.length:=by simpa using hl
 have t1:=t.top
 obtain ⟨a,o,x,ch,nd,oc,os,ot,ne⟩:=t
 obtain ⟨kB,chr⟩:=ch
 have hln:q.2.1.length≤1000000:=by
  have:=zrG kB.ok.k (m:=List.range C.length) fun z hz=>by
   obtain ⟨e,he,rfl⟩:=List.mem_map.1 hz
   exact List.mem_range.2 (kB.hL e he)
  simp at this
  omega
 exact chg_C (zDx a o rfl (by omega) t1 kB hln)
theorem saveT {h:List Ob} {tid:Nat} {F:List Nat} {C:List Al} {S:List Int} {Os:List (List Al)} (t:TR h tid F C S Os) (hO:Os.length≤999990) :
  ∃ h' F',acw M.C zbt [.ptr tid 0 0 1] h=some (.ret (iv Os.length),h')∧TR h' tid F' C S (C::Os)∧Mv 2 h h' F F':=by
 obtain ⟨cid,sid,oid,xs,Ms,t,rfl⟩:=t
 have lt:=t.lt
 have hl:=t.ch.len
 obtain ⟨a,o,x,ch,nd,oc,os,ot,ne⟩:=t
 have lx:Ms.length≤xs.length:=by
  have:=congrArg List.length x
  simp at this
  omega
 have ltid:tid<h.length:=lt tid (by simp [foot])
 have lcid:cid<h.length:=lt cid (by simp [foot])
 have lsid:sid<h.length:=lt sid (by simp [foot])
 have loid:oid<h.length:=lt oid (by simp [foot])
 obtain ⟨h1,hh1⟩:∃ h1,h1=h++[Ob.map [] 0]:=⟨_,rfl⟩
 obtain ⟨h2,hh2⟩:∃ h2,h2=h1++[Ob.row 1 [.mp h.length]]:=⟨_,rfl⟩
 obtain ⟨h3,hh3⟩:∃ h3,h3=h2.set oid (.row 1 (ovr Ms.length xs [.mp h.length])):=⟨_,rfl⟩
 obtain ⟨h4,hh4⟩:∃ h4,h4=h3.set tid (.row 3 [.agg [.own cid 0 C.length C.length,.own sid 0 C.length C.length,.own oid 0 (Ms.length+1) (ovr Ms.length xs [.mp h.length]).length]]):=⟨_,rfl⟩
 have L1:h1.length=h.length+1:=by rw [hh1];simp
 have L2:h2.length=h.length+2:=by rw [hh2];simp [L1]
 have L3:h3.length=h.length+2:=by rw [hh3,List.length_set,L2]
 have e1:∀ j,j<h.length→h2[j]? = h[j]?:=fun j hj=>by rw [hh2,zsO (by omega),hh1,zsO hj]
 have e3:∀ j,j<h.length→j≠oid→h3[j]? = h[j]?:=fun j hj hn=>by rw [hh3,List.getElem?_set_ne (Ne.symm hn),e1 j hj]
 have e4:∀ j,j<h.length→j≠oid→j≠tid→h4[j]? = h[j]?:=fun j hj hn hn2=>by rw [hh4,List.getElem?_set_ne (Ne.symm hn2),e3 j hj hn]
 have e5:h4[h.length]? = some (.map [] 0):=by rw [hh4,List.getElem?_set_ne (by omega),hh3,List.getElem?_set_ne (by omega),hh2,zsO (by omega),hh1];simp
 have tb:TB h4 tid cid sid C S (.own oid 0 (Ms.length+1) (ovr Ms.length xs [.mp h.length]).length):=by
  refine ⟨by rw [hh4,List.getElem?_set_self (by omega)],?_,?_,a.n1,a.n2,a.n3,a.sl⟩
  ·rw [e4 cid lcid (Ne.symm oc) (Ne.symm a.n1)];exact a.c
  ·rw [e4 sid lsid (Ne.symm os) (Ne.symm a.n2)];exact a.s
 have o4:h4[oid]? = some (.row 1 (ovr Ms.length xs [.mp h.length])):=by rw [hh4,List.getElem?_set_ne (Ne.symm ot),hh3,List.getElem?_set_self (by omega)]
 have km:=marksT hKC (m:=Ms.length+1) tb o4 rfl (by omega)
 have e6:((Ms.length+1:Nat):Int)-1=Ms.length:=by omega
 rw [e6] at km
 have ka:zit h2.length h2 1 8 (.own oid 0 Ms.length xs.length) (.own (h.length+1) 0 1 1)=some (.own oid 0 (Ms.length+1) (ovr Ms.length xs [.mp h.length]).length,some (oid,.row 1 (ovr Ms.length xs [.mp h.length]))):=by
  refine zBT (by rw [e1 oid loid];exact o) lx (by omega) ?_
  have:h2[h.length+1]? = some (.row 1 [.mp h.length]):=by rw [hh2,←L1];simp
  simp [src,elems,zaF,this]
 rw [L2] at ka
 have u1:wr h (some (h.length,.map [] 0))=h1:=by rw [hh1];simp [wr]
 have u2:wr h1 (some (h.length+1,.row 1 [.mp h.length]))=h2:=by rw [hh2];simp [wr,L1]
 have u3:wr h2 (some (oid,.row 1 (ovr Ms.length xs [.mp h.length])))=h3:=by rw [zfi (by omega),hh3]
 have hh2':h2=h++[Ob.map [] 0,Ob.row 1 [.mp h.length]]:=by rw [hh2,hh1];simp
 rw [hh2'] at ka u3
 have t3:h3[tid]? = some (.row 3 [.agg [.own cid 0 C.length C.length,.own sid 0 C.length C.length,.own oid 0 Ms.length xs.length]]):=by rw [e3 tid ltid (Ne.symm ot)];exact a.t
 have u4:wr h3 (some (tid,.row 3 [.agg [.own cid 0 C.length C.length,.own sid 0 C.length C.length,.own oid 0 (Ms.length+1) (ovr Ms.length xs [.mp h.length]).length]]))=h4:=by rw [zfi (by omega),hh4]
 have kmk:∀ nid (hh:List Ob),opJ nid hh .mkm []=some (.mp nid,some (nid,.map [] 0)):=fun nid hh=>zux
 have at0:=a.t
 refine ⟨h4,foot tid cid sid oid ((h.length,[],0)::Ms),?_,⟨cid,sid,oid,ovr Ms.length xs [.mp h.length],(h.length,[],0)::Ms,⟨tb,o4,?_,⟨⟨e5,⟨by simp,by simp,by simp⟩,by simp,fun _ _=>rfl,rfl⟩,ch.keep fun j hj=>?_⟩,?_,oc,os,ot,by simp⟩,rfl⟩,⟨?_,fun j hj hn=>?_,fun j hj=>?_,by rw [hh4,List.length_set,L3];omega⟩⟩
 ·rw [zbd (hKC _ _ zk5) rfl,←hl]
  simp [zaa,zcz,zeZ,at0,kmk,ka,u3,t3,u4,km]
 ·rw [List.length_cons,zBz lx,x]
  simp
 ·obtain ⟨es,c,e⟩:=ch.mem j hj
  exact e4 j (lt j (by simp [foot] at hj ⊢;exact .inr (.inr (.inr (.inr hj))))) (fun q=>by rw [q,o] at e;cases e) (fun q=>by rw [q,a.t] at e;cases e)
 ·refine List.nodup_cons.2 ⟨fun q=>?_,nd⟩
  have:=lt h.length (by simp [foot] at q ⊢;exact .inr (.inr (.inr (.inr q))))
  omega
 ·rw [hh4,List.length_set,L3];omega
 ·simp only [foot,List.mem_cons,not_or] at hn
  exact e4 j hj hn.2.2.2.1 hn.1
 ·simp only [foot,List.map_cons,List.mem_cons] at hj ⊢
  rcases hj with q|q|q|q|q|q<;>simp [q]
end Go.RR.TU
/- Trails as a whole: Set, New, Len; nothing to turn back. -/
namespace Go.RR.TU
open Go Go.RR Go.RR.M
theorem setT {h:List Ob} {tid:Nat} {F:List Nat} {C:List Al} {S:List Int} {Os:List (List Al)} (t:TR h tid F C S Os) (hS:∀ s∈S,0≤s∧s≤999999) (hO:Os.length≤999999) (i:Nat) (hi:i<C.length) (x:Al) :
  ∃ h',acw M.C zbc [.ptr tid 0 0 1,iv i,en x] h=some (.ret (iv 0),h')∧TR h' tid F (C.set i x) (zzd C S i x) Os∧Mv 0 h h' F F:=by
 obtain ⟨cid,sid,oid,xs,Ms,t,rfl⟩:=t
 have lt:=t.lt
 have hl:=t.ch.len
 match Ms,Os,t,lt,hl with
 | [],[],t,lt,hl=>exact absurd rfl t.ne
 | [],_::_,t,lt,hl=>simp at hl
 | _::_,[],t,lt,hl=>simp at hl
 | q::ms,B::Os,t,lt,hl=>
 obtain ⟨mid,L,clk⟩:=q
 have hml:ms.length=Os.length:=by simpa using hl
 simp only [List.length_cons] at hO
 have t1:=t.top
 obtain ⟨a,o,x0,ch,nd,oc,os,ot,ne⟩:=t
 obtain ⟨kB,chr⟩:=ch
 have kt:=there hKC a i
 have hi2:(i:Int)<C.length:=by omega
 simp [hi2] at kt
 have kl:=lastT hKC a o rfl (by omega) t1
 simp only at kB kl
 have b1:mid≠cid:=fun e=>by have:=kB.m;simp only [e,a.c] at this;cases this
 have b2:mid≠sid:=fun e=>by have:=kB.m;simp only [e,a.s] at this;cases this
 have b3:mid≠tid:=fun e=>by have:=kB.m;simp only [e,a.t] at this;cases this
 have b4:mid≠oid:=fun e=>by have:=kB.m;simp only [e,o] at this;cases this
 have lmid:mid<h.length:=lt mid (by simp [foot])
 have nms:mid∉ms.map (·.1):=by
  simp only [List.map_cons,List.nodup_cons] at nd
  exact nd.1
 have chrne:∀ j∈ms.map (·.1),j≠tid∧j≠cid∧j≠sid∧j≠oid∧j≠mid:=fun j hj=>by
  obtain ⟨es,c,e⟩:=chr.mem j hj
  exact ⟨fun q=>by (rw [q,a.t] at e;cases e),fun q=>by (rw [q,a.c] at e;cases e),fun q=>by (rw [q,a.s] at e;cases e),fun q=>by (rw [q,o] at e;cases e),fun q=>nms (q▸hj)⟩
 have nth:∀ j:Nat,j≠i→(C.set i x)[j]? = C[j]?:=fun j hj=>List.getElem?_set_ne (Ne.symm hj)
 by_cases c:∃ e∈L,e.1=i
 ·obtain ⟨e,he,hei⟩:=c
  obtain ⟨j,m1,m2⟩:=ztU (n:=0) kB.ok.k he hei
  have klk:∀ nid,opJ nid h (.lku (some .i64) (en zA) true) [.mp mid,iv i]=some (.tup [en e.2.1,.bool true],none):=fun nid=>o_lkt kB.m rfl m1
  obtain ⟨h2,kp,tb2,same,len⟩:=put hKC a i hi x (fun s hs=>by have:=hS s hs;omega)
  refine ⟨h2,?_,⟨cid,sid,oid,xs,(mid,L,clk)::ms,⟨tb2,by rw [same oid oc os];exact o,x0,⟨⟨by rw [same mid b1 b2];exact kB.m,kB.ok,kB.y,fun k hk=>?_,by rw [List.length_set];exact kB.l⟩,chr.keep fun j hj=>?_⟩,nd,oc,os,ot,ne⟩,rfl⟩,⟨by omega,fun j hj hn=>?_,fun j hj=>.inl hj,by omega⟩⟩
  ·rw [zbd (hKC _ _ zfA) rfl]
   simp [zaa,zbI,zcJ,kt,kl,klk,kp]
  ·have:k≠i:=fun q=>hk e he (by rw [hei,q])
   rw [nth k this]
   exact kB.n k hk
  ·exact same j (chrne j hj).2.1 (chrne j hj).2.2.1
  ·simp only [foot,List.mem_cons,not_or] at hn
   exact same j hn.2.1 hn.2.2.1
 ·have c':∀ e∈L,e.1≠i:=fun e he q=>c ⟨e,he,q⟩
  have klk:∀ nid,opJ nid h (.lku (some .i64) (en zA) true) [.mp mid,iv i]=some (.tup [en zA,.bool false],none):=fun nid=>o_lkt0 kB.m rfl (zqv c')
  obtain ⟨y,hy⟩:∃ y,y=C[i]:=⟨_,rfl⟩
  have h3:C[i]? = some y:=by simp [hi,hy]
  have h4:∀ h:i<C.length,C[i]'h=y:=fun _=>hy.symm
  have kmp:∀ nid,opJ nid h (.mpu (some .i64)) [.mp mid,iv i,en y]=some (.und,some (mid,.map (enL (L++[(i,y,clk)])) (clk+1))):=fun nid=>by
   rw [o_mpu kB.m rfl rfl rfl (zqv c')]
   simp [enE]
  obtain ⟨h1,hh1⟩:∃ h1,h1=h.set mid (.map (enL (L++[(i,y,clk)])) (clk+1)):=⟨_,rfl⟩
  have u1:wr h (some (mid,.map (enL (L++[(i,y,clk)])) (clk+1)))=h1:=by rw [zfi lmid,hh1]
  have u1':wr h (some (mid,.map (List.map enE L++[enE (i,y,clk)]) (clk+1)))=h1:=by rw [←u1];simp
  have tb1:TB h1 tid cid sid C S (.own oid 0 (ms.length+1) xs.length):=a.keep fun j hj=>by
   rw [hh1,List.getElem?_set_ne (by rcases hj with rfl|rfl|rfl<;>assumption)]
  obtain ⟨h2,kp,tb2,same,len⟩:=put hKC tb1 i hi x (fun s hs=>by have:=hS s hs;omega)
  have same':∀ j,j≠cid→j≠sid→j≠mid→h2[j]? = h[j]?:=fun j k1 k2 k3=>by rw [same j k1 k2,hh1,List.getElem?_set_ne (Ne.symm k3)]
  have hm2:h2[mid]? = some (.map (enL (L++[(i,y,clk)])) (clk+1)):=by rw [same mid b1 b2,hh1,List.getElem?_set_self lmid]
  have ok':EnOK (L++[(i,y,clk)]) (clk+1):=by
   refine ⟨?_,?_,fun e he=>?_⟩
   ·rw [List.map_append,List.nodup_append]
    refine ⟨kB.ok.k,by simp,fun a ha b hb=>?_⟩
    obtain ⟨e,he,rfl⟩:=List.mem_map.1 ha
    simp at hb
    rw [hb]
    exact c' e he
   ·rw [List.map_append,List.nodup_append]
    refine ⟨kB.ok.b,by simp,fun a ha b hb=>?_⟩
    obtain ⟨e,he,rfl⟩:=List.mem_map.1 ha
    simp at hb
    rw [hb]
    exact Nat.ne_of_lt (kB.ok.c e he)
   ·rcases List.mem_append.1 he with h|h
    ·exact Nat.lt_succ_of_lt (kB.ok.c e h)
    ·rw [List.mem_singleton.1 h];exact Nat.lt_succ_self _
  refine ⟨h2,?_,⟨cid,sid,oid,xs,(mid,L++[(i,y,clk)],clk+1)::ms,⟨tb2,by rw [same' oid oc os (Ne.symm b4)];exact o,by simpa using x0,⟨⟨hm2,ok',fun e he=>?_,fun k hk=>?_,by rw [List.length_set];exact kB.l⟩,chr.keep fun j hj=>?_⟩,nd,oc,os,ot,ne⟩,rfl⟩,⟨by rw [len,hh1,List.length_set];omega,fun j hj hn=>?_,fun j hj=>.inl hj,by rw [len,hh1,List.length_set];omega⟩⟩
  ·obtain ⟨a1,a2,a3,n1,n2,n3,sl⟩:=a
   rw [zbd (hKC _ _ zfA) rfl]
   simp [zaa,zbI,zcJ,kt,kl,klk,kmp,u1',kp,a1,a2,hi,hi2,h3,h4]
  ·rcases List.mem_append.1 he with h|h
   ·exact kB.y e h
   ·rw [List.mem_singleton.1 h,kB.n i c'];exact h3
  ·have:k≠i:=fun q=>hk (i,y,clk) (by simp) q.symm
   rw [nth k this]
   exact kB.n k fun e he=>hk e (by simp [he])
  ·obtain ⟨z1,z2,z3,z4,z5⟩:=chrne j hj
   exact same' j z2 z3 z5
  ·simp only [foot,List.map_cons,List.mem_cons,not_or] at hn
   exact same' j hn.2.1 hn.2.2.1 hn.2.2.2.2.1
theorem newT (n:Nat) (hn:n≤1000) (h:List Ob):∃ h' tid F,acw M.C zdL [iv n] h=some (.ret (.tup [.ptr tid 0 0 1,iv 0]),h')∧TR h' tid F (List.replicate n zA) (List.replicate n 0) [List.replicate n zA]∧Mv 5 h h' [] F:=by
 have c1:¬((n:Int)<0):=by omega
 have c2:¬((1000:Int)<n):=by omega
 have c3:(n:Int)*8≤70368744177664:=by omega
 have c4:(n:Int)≤70368744177664:=by omega
 refine ⟨h++[.row 1 (List.replicate n (en zA)),.row 1 (List.replicate n (iv 0)),.map [] 0,.row 1 [.mp (h.length+2)],.row 3 [.agg [.own h.length 0 n n,.own (h.length+1) 0 n n,.own (h.length+3) 0 1 1]]],h.length+4,foot (h.length+4) h.length (h.length+1) (h.length+3) [(h.length+2,[],0)],?_,⟨h.length,h.length+1,h.length+3,[.mp (h.length+2)],[(h.length+2,[],0)],⟨⟨?_,?_,?_,by omega,by omega,by omega,by simp⟩,?_,by simp,⟨⟨?_,⟨by simp,by simp,by simp⟩,by simp,fun _ _=>rfl,rfl⟩,trivial⟩,by simp,by omega,by omega,by omega,by simp⟩,rfl⟩,⟨by simp,fun j hj _=>zsO hj,fun j hj=>.inr ?_,by simp⟩⟩
 ·have q1:∀ k m:Nat,(m==m+(k+1))=false:=fun k m=>by rw [beq_eq_false_iff_ne];omega
  have q2:∀ k m:Nat,(m+(k+1)==m)=false:=fun k m=>by rw [beq_eq_false_iff_ne];omega
  have d1:=q1 0 h.length
  have d2:=q1 1 h.length
  have d3:=q1 2 h.length
  have d4:=q1 3 h.length
  have f1:=q2 0 h.length
  have f2:=q2 1 h.length
  have f3:=q2 2 h.length
  have f4:=q2 3 h.length
  simp only [Nat.reduceAdd] at d1 d2 d3 d4 f1 f2 f3 f4
  rw [zbd (hKC _ _ zqd) rfl]
  simp [zaa,zgk,zkB,c1,c2,c3,c4,zux,d1,d2,d3,d4,f1,f2,f3,f4]
 ·simp
 ·simp
 ·simp
 ·simp
 ·simp
 ·simp [foot] at hj;omega
end Go.RR.TU
namespace Go.RR.FX
open Go Go.RR Go.RR.M
open Go.RR.TU (Mv)
theorem zyf:∀ {L:List Em} {i:Nat} (h:i<L.length) (nd:(zdl L).Nodup) (y:Int),gM (L.eraseIdx i) y=if y=L[i].1 then none else gM L y
 | e::r,0,h,nd,y=>by
  have nd2:=List.nodup_cons.1 (show (e.1::zdl r).Nodup from nd)
  simp only [List.eraseIdx_cons_zero,List.getElem_cons_zero,gM]
  by_cases c:y=e.1
  ·rw [if_pos c,c]
   exact zAo.2 nd2.1
  ·rw [if_neg c,if_neg (fun q=>c q.symm)]
 | e::r,i+1,h,nd,y=>by
  have nd2:=List.nodup_cons.1 (show (e.1::zdl r).Nodup from nd)
  have hi:i<r.length:=by simpa using h
  simp only [List.eraseIdx_cons_succ,List.getElem_cons_succ,gM,zyf hi nd2.2]
  have hm:r[i].1∈zdl r:=List.mem_map.2 ⟨r[i],List.getElem_mem hi,rfl⟩
  by_cases c:e.1=y
  ·rw [if_pos c,if_pos c,if_neg]
   intro q
   rw [←c] at q
   rw [q] at nd2
   exact nd2.1 hm
  ·rw [if_neg c,if_neg c]
theorem zyA {L:List Em} {i:Nat}:zdl (L.eraseIdx i)=(zdl L).eraseIdx i:=by
 unfold zdl
 induction L generalizing i with
 | nil=>rfl
 | cons e r ih=>cases i with
  | zero=>rfl
  | succ i=>simp [ih]
theorem o_del {id c:Nat} {h:List Ob} {L:List Em} {x v:Int} (e:h[id]? = some (.map (mI L) c)) (nd:(zdl L).Nodup) (hx:gM L x=some v):∃ L',(∀ nid,opJ nid h (.mdl (some .i64)) [.mp id,iv x]=some (.tup [],some (id,.map (mI L') c)))∧(∀ y,gM L' y=if y=x then none else gM L y)∧(zdl L').Nodup:=by
 obtain ⟨i,b,f,hi,hb,k⟩:=zpz (n:=0) hx
 rw [Nat.zero_add] at f
 have hk:L[i].1=x:=by
  have h1:=(k 0).2
  have h2:(zdl (L.set i (x,0,b)))[i]? = some x:=by simp [zdl,hi]
  rw [h1] at h2
  simpa [zdl,hi] using h2
 refine ⟨L.eraseIdx i,fun nid=>?_,fun y=>?_,?_⟩
 ·have e1:(mI L).eraseIdx i=mI (L.eraseIdx i):=TU.zvw _ _ _
  rw [←e1]
  simp [opJ,zgc,e,ziO,f]
 ·rw [zyf hi nd,hk]
 ·rw [zyA]
  exact nd.sublist (List.eraseIdx_sublist _ _)
structure QX (h:List Ob) (qid mid:Nat) (lv:V) (L:List Em) (c:Nat) (lst:List Int):Prop where
 q:h[qid]? = some (.row 2 [.agg [lv,.mp mid]])
 m:h[mid]? = some (.map (mI L) c)
 g:∀ y,gM L y=if y∈lst then some 1 else none
 nd:(zdl L).Nodup
def QL (h:List Ob) (lv:V) (lst:List Int):List Nat→Prop
 | []=>lv=.nsl 1∧lst=[]
 | oid::_=>∃ off xs,lv=.own oid off lst.length (off+lst.length)∧h[oid]? = some (.row 1 xs)∧xs.length=off+lst.length∧xs.drop off=lst.map (V.int .i64)
def QR (h:List Ob) (qid:Nat) (F:List Nat) (lst:List Int):Prop:=∃ mid lv L c O,QX h qid mid lv L c lst∧QL h lv lst O∧O.length≤1∧F=qid::mid::O
theorem QR.keep {h h':List Ob} {qid:Nat} {F:List Nat} {lst:List Int} (q:QR h qid F lst) (k:∀ j∈F,h'[j]? = h[j]?):QR h' qid F lst:=by
 obtain ⟨mid,lv,L,c,O,a,b,o,rfl⟩:=q
 refine ⟨mid,lv,L,c,O,⟨?_,?_,a.g,a.nd⟩,?_,o,rfl⟩
 ·rw [k _ (by simp)];exact a.q
 ·rw [k _ (by simp)];exact a.m
 ·cases O with
  | nil=>exact b
  | cons oid r=>
   obtain ⟨off,xs,b1,b2,b3⟩:=b
   exact ⟨off,xs,b1,by rw [k _ (by simp)];exact b2,b3⟩
theorem QR.lt {h:List Ob} {qid:Nat} {F:List Nat} {lst:List Int} (q:QR h qid F lst):∀ j∈F,j<h.length:=by
 obtain ⟨mid,lv,L,c,O,a,b,o,rfl⟩:=q
 intro j hj
 simp only [List.mem_cons] at hj
 rcases hj with rfl|rfl|hj
 ·exact (List.getElem?_eq_some_iff.1 a.q).1
 ·exact (List.getElem?_eq_some_iff.1 a.m).1
 ·match O,b,o with
  | [],b,o=>simp at hj
  | oid::r,b,o=>
   obtain ⟨off,xs,b1,b2,b3⟩:=b
   have:r=[]:=List.length_eq_zero_iff.1 (by simpa using o)
   subst this
   have:j=oid:=by simpa using hj
   subst this
   exact (List.getElem?_eq_some_iff.1 b2).1
theorem pop0 {h:List Ob} {qid:Nat} {F:List Nat} (q:QR h qid F []):acw C za7 [.ptr qid 0 0 1] h=some (.ret (.tup [iv 0,.bool false]),h):=by
 obtain ⟨mid,lv,L,c,O,a,b,o,rfl⟩:=q
 have aq:=a.q
 rw [zbd (CT ziZ) rfl]
 cases O with
 | nil=>
  obtain ⟨rfl,-⟩:=b
  simp [zaa,zb3,zdb,aq]
 | cons oid r=>
  obtain ⟨off,xs,rfl,b2,b3⟩:=b
  have b3':xs.length=off:=by simpa using b3.1
  simp [zaa,zb3,zdb,aq,b2,b3']
theorem pop1 {h:List Ob} {qid:Nat} {F:List Nat} {x:Int} {r:List Int} (q:QR h qid F (x::r)) (hnd:(x::r).Nodup) (hl:r.length≤1000000):∃ h',acw C za7 [.ptr qid 0 0 1] h=some (.ret (.tup [iv x,.bool true]),h')∧QR h' qid F r∧Mv 0 h h' F F:=by
 obtain ⟨mid,lv,L,c,O,a,b,o,rfl⟩:=q
 have aq:=a.q
 have am:=a.m
 have nd2:=List.nodup_cons.1 hnd
 cases O with
 | nil=>
  obtain ⟨-,b⟩:=b
  cases b
 | cons oid O=>
  obtain ⟨off,xs,rfl,b2,b3,b4⟩:=b
  have hO:O=[]:=List.length_eq_zero_iff.1 (by simpa using o)
  subst hO
  simp only [List.length_cons] at b3
  have hoff:off<xs.length:=by omega
  have hx:xs[off]? = some (iv x):=by
   have:(xs.drop off)[0]? = some (iv x):=by rw [b4];rfl
   rwa [List.getElem?_drop,Nat.add_zero] at this
  have hx2:∀ h:off<xs.length,xs[off]'h=iv x:=fun h=>(List.getElem?_eq_some_iff.1 hx).2
  obtain ⟨L',o1,o2,o3⟩:=o_del (h:=h.set qid (.row 2 [.agg [.own oid (off+1) r.length (off+(r.length+1)),.mp mid]])) (id:=mid) (c:=c) (L:=L) (x:=x) (v:=1) (by
   have:qid≠mid:=fun e=>by rw [e,am] at aq;cases aq
   rw [List.getElem?_set_ne this];exact am) a.nd (by rw [a.g];simp)
  have hqm:qid≠mid:=fun e=>by rw [e,am] at aq;cases aq
  have hqo:qid≠oid:=fun e=>by rw [e,b2] at aq;cases aq
  have hmo:mid≠oid:=fun e=>by rw [e,b2] at am;cases am
  have lq:qid<h.length:=(List.getElem?_eq_some_iff.1 aq).1
  have lm:mid<h.length:=(List.getElem?_eq_some_iff.1 am).1
  refine ⟨(h.set qid (.row 2 [.agg [.own oid (off+1) r.length (off+(r.length+1)),.mp mid]])).set mid (.map (mI L') c),?_,⟨mid,_,L',c,[oid],⟨?_,?_,?_,o3⟩,⟨off+1,xs,rfl,?_,by omega,?_⟩,by simp,rfl⟩,⟨by simp,fun j hj hn=>?_,fun j hj=>.inl hj,by simp⟩⟩
  ·have bd:bounds (r.length+1) (some 1) none=some (1,r.length+1):=by
    unfold bounds
    rw [if_pos (by simp;omega)]
    simp
   have w1:wr h (some (qid,.row 2 [.agg [.own oid (off+1) r.length (off+(r.length+1)),.mp mid]]))=h.set qid (.row 2 [.agg [.own oid (off+1) r.length (off+(r.length+1)),.mp mid]]):=zfi lq
   have w2:∀ o,wr (h.set qid (.row 2 [.agg [.own oid (off+1) r.length (off+(r.length+1)),.mp mid]])) (some (mid,o))=(h.set qid (.row 2 [.agg [.own oid (off+1) r.length (off+(r.length+1)),.mp mid]])).set mid o:=fun o=>zfi (by simpa using lm)
   have ne0:((r.length:Int)+1==0)=false:=by rw [beq_eq_false_iff_ne];omega
   have s1:∀ o,(h.set qid o)[qid]? = some o:=fun o=>List.getElem?_set_self lq
   have s2:∀ o,(h.set qid o)[oid]? = some (.row 1 xs):=fun o=>by rw [List.getElem?_set_ne hqo];exact b2
   rw [zbd (CT ziZ) rfl]
   simp [zaa,zb3,zdb,aq,b2,b3,hx,hx2,hoff,bd,w1,w2,s1,s2,ne0,o1,oint]
  ·rw [List.getElem?_set_ne (fun e=>hqm e.symm),List.getElem?_set_self lq]
   have:off+(r.length+1)=off+1+r.length:=by omega
   rw [this]
  ·rw [List.getElem?_set_self (by simpa using lm)]
  ·intro y
   rw [o2,a.g]
   by_cases e:y=x
   ·rw [if_pos e,e,if_neg nd2.1]
   ·rw [if_neg e]
    simp [e]
  ·rw [List.getElem?_set_ne hmo,List.getElem?_set_ne hqo];exact b2
  ·rw [←List.drop_drop,b4]
   rfl
  ·simp only [List.mem_cons,List.not_mem_nil,or_false,not_or] at hn
   rw [List.getElem?_set_ne (fun e=>hn.2.1 e.symm),List.getElem?_set_ne (fun e=>hn.1 e.symm)]
theorem zrR {off:Nat} {xs:List V} {y:V} (h:off≤xs.length):(comb off xs [y]).length=xs.length+1:=by
 unfold comb
 split
 ·simp
 ·simp;omega
theorem zz2 {off:Nat} {xs:List V} {y:V} (h:off≤xs.length):(comb off xs [y]).drop off=xs.drop off++[y]:=by
 unfold comb
 split
 ·rename_i e;subst e;simp
 ·rw [List.append_assoc,List.drop_append_of_le_length (by simp)]
  simp
theorem zDu {nid oid off len tot:Nat} {h:List Ob} {xs:List V} {y:V} (hx:h[oid]? = some (.row 1 xs)) (ht:tot=xs.length) (hl:off+len=tot) (hb:len≤1000000):zit nid h 1 8 (.own oid off len tot) (.sl 1 [y])=some (.own oid off (len+1) (tot+1),some (oid,.row 1 (comb off xs [y]))):=by
 have hy:src h (.sl 1 [y])=some (1,[y]):=rfl
 have hr:zaF h oid tot=some (1,xs):=by simp [zaF,hx,ht]
 have h1:(len+[y].length)*8≤70368744177664:=by simp;omega
 have h2:len+[y].length≤70368744177664:=by simp;omega
 have h0:¬([y]:List V)=[]:=by simp
 unfold zit
 simp only [op1,zrF,hy,if_true,hr,h0,if_false,hl,true_and,h1,h2,and_self]
 rfl
theorem pushS {h:List Ob} {qid:Nat} {F:List Nat} {x:Int} {lst:List Int} (q:QR h qid F lst) (hx:x∈lst):acw C zaX [.ptr qid 0 0 1,iv x] h=some (.ret (.tup []),h):=by
 obtain ⟨mid,lv,L,c,O,a,b,o,rfl⟩:=q
 have aq:=a.q
 have hl:∀ nid,opJ nid h (.lku (some .i64) (iv 0) false) [.mp mid,iv x]=some (iv 1,none):=fun nid=>by
  have:=zyP (nid:=nid) (x:=x) a.m
  rw [a.g,if_pos hx] at this
  exact this
 rw [zbd (CT zeA) rfl]
 simp [zaa,zbK,zcI,aq,hl]
theorem pushN {h:List Ob} {qid:Nat} {F:List Nat} {x:Int} {lst:List Int} (q:QR h qid F lst) (hx:x∉lst) (hll:lst.length≤1000000):∃ h' F',acw C zaX [.ptr qid 0 0 1,iv x] h=some (.ret (.tup []),h')∧QR h' qid F' (lst++[x])∧Mv 1 h h' F F':=by
 obtain ⟨mid,lv,L,c,O,a,b,o,rfl⟩:=q
 have aq:=a.q
 have am:=a.m
 have hl:∀ nid,opJ nid h (.lku (some .i64) (iv 0) false) [.mp mid,iv x]=some (iv 0,none):=fun nid=>by
  have:=zyP (nid:=nid) (x:=x) a.m
  rw [a.g,if_neg hx] at this
  exact this
 have hqm:qid≠mid:=fun e=>by rw [e,am] at aq;cases aq
 have lq:qid<h.length:=(List.getElem?_eq_some_iff.1 aq).1
 have lm:mid<h.length:=(List.getElem?_eq_some_iff.1 am).1
 have k4:zii (.int .i64 0) [iv x]=some (.sl 1 [iv x]):=rfl
 obtain ⟨L',c',o1,g1,g2⟩:=zyY (nid:=0) (h:=h) (id:=mid) (L:=L) (c:=c) (x:=x) (w:=1) am
 have hg:∀ y,gM L' y=if y∈lst++[x] then some 1 else none:=fun y=>by
  rw [g1,a.g]
  by_cases e:y=x
  ·rw [if_pos e,if_pos (by simp [e])]
  ·rw [if_neg e]
   simp [e]
 have hnd:(zdl L').Nodup:=by
  rw [g2,if_neg (by rw [←zAo,a.g,if_neg hx])]
  rw [List.nodup_append]
  refine ⟨a.nd,by simp,fun u hu w hw=>?_⟩
  have:w=x:=by simpa using hw
  subst this
  intro e
  subst e
  have:=zAo.1 (show gM L u=none by rw [a.g,if_neg hx])
  exact this hu
 cases O with
 | nil=>
  obtain ⟨rfl,rfl⟩:=b
  obtain ⟨R,hR⟩:∃ R,R=Ob.row 2 [.agg [.own h.length 0 1 1,.mp mid]]:=⟨_,rfl⟩
  have o1':∀ nid,opJ nid (h.set qid R++[Ob.row 1 [iv x]]) (.mpu (some .i64)) [.mp mid,iv x,iv 1]=some (.und,some (mid,.map (mI L') c')):=fun nid=>by
   rw [←o1]
   exact zma (by rw [List.getElem?_append_left (by simpa using lm),List.getElem?_set_ne hqm])
  have ap:∀ nid,zit nid h 1 8 (.nsl 1) (.sl 1 [iv x])=some (.own nid 0 1 1,some (nid,.row 1 [iv x])):=fun nid=>by
   simp [zit,op1,src,elems]
  refine ⟨((h.set qid R)++[Ob.row 1 [iv x]]).set mid (.map (mI L') c'),[qid,mid,h.length],?_,⟨mid,.own h.length 0 1 1,L',c',[h.length],⟨?_,?_,hg,hnd⟩,⟨0,[iv x],rfl,?_,rfl,rfl⟩,by simp,rfl⟩,⟨by simp,fun j hj hn=>?_,fun j hj=>?_,by simp⟩⟩
  ·have w1:wr (h++[Ob.row 1 [iv x]]) (some (qid,R))=h.set qid R++[Ob.row 1 [iv x]]:=zq3 lq
   have w2:∀ o,wr (h.set qid R++[Ob.row 1 [iv x]]) (some (mid,o))=(h.set qid R++[Ob.row 1 [iv x]]).set mid o:=fun o=>zfi (by simp;omega)
   have s0:∀ t,(h++t)[qid]? = some (.row 2 [.agg [.nsl 1,.mp mid]]):=fun t=>zat aq
   have s00:∀ t h',(h++t)[qid]'h'=.row 2 [.agg [.nsl 1,.mp mid]]:=fun t h'=>(List.getElem?_eq_some_iff.1 (s0 t)).2
   have s1:∀ t,(h.set qid R++t)[qid]? = some R:=fun t=>zat (List.getElem?_set_self lq)
   have s11:∀ t h',(h.set qid R++t)[qid]'h'=R:=fun t h'=>(List.getElem?_eq_some_iff.1 (s1 t)).2
   rw [hR] at w1 w2 s1 s11 o1' ⊢
   rw [zbd (CT zeA) rfl]
   simp [zaa,zbK,zcI,aq,hl,k4,ap,w1,w2,s0,s00,s1,s11,o1']
  ·rw [List.getElem?_set_ne (fun e=>hqm e.symm),zat (List.getElem?_set_self lq),hR]
  ·rw [List.getElem?_set_self (by simp;omega)]
  ·rw [List.getElem?_set_ne (by omega),List.getElem?_append_right (by simp)];simp
  ·simp only [List.mem_cons,List.not_mem_nil,or_false,not_or] at hn
   rw [List.getElem?_set_ne (fun e=>hn.2 e.symm),List.getElem?_append_left (by simpa using hj),List.getElem?_set_ne (fun e=>hn.1 e.symm)]
  ·simp only [List.mem_cons,List.not_mem_nil,or_false] at hj ⊢
   omega
 | cons oid O=>
  obtain ⟨off,xs,rfl,b2,b3,b4⟩:=b
  have hO:O=[]:=List.length_eq_zero_iff.1 (by simpa using o)
  subst hO
  have hqo:qid≠oid:=fun e=>by rw [e,b2] at aq;cases aq
  have hmo:mid≠oid:=fun e=>by rw [e,b2] at am;cases am
  have lo:oid<h.length:=(List.getElem?_eq_some_iff.1 b2).1
  obtain ⟨R,hR⟩:∃ R,R=Ob.row 2 [.agg [.own oid off (lst.length+1) (off+lst.length+1),.mp mid]]:=⟨_,rfl⟩
  obtain ⟨Y,hY⟩:∃ R,R=Ob.row 1 (comb off xs [iv x]):=⟨_,rfl⟩
  have ap:∀ nid,zit nid h 1 8 (.own oid off lst.length (off+lst.length)) (.sl 1 [iv x])=some (.own oid off (lst.length+1) (off+lst.length+1),some (oid,Y)):=fun nid=>by
   rw [hY];exact zDu b2 b3.symm rfl hll
  have o1':∀ nid,opJ nid ((h.set oid Y).set qid R) (.mpu (some .i64)) [.mp mid,iv x,iv 1]=some (.und,some (mid,.map (mI L') c')):=fun nid=>by
   rw [←o1]
   exact zma (by rw [List.getElem?_set_ne hqm,List.getElem?_set_ne (fun e=>hmo e.symm)])
  refine ⟨((h.set oid Y).set qid R).set mid (.map (mI L') c'),[qid,mid,oid],?_,⟨mid,.own oid off (lst.length+1) (off+lst.length+1),L',c',[oid],⟨?_,?_,hg,hnd⟩,⟨off,comb off xs [iv x],by simp only [List.length_append,List.length_cons,List.length_nil];rfl,?_,?_,?_⟩,by simp,rfl⟩,⟨by simp,fun j hj hn=>?_,fun j hj=>.inl hj,by simp⟩⟩
  ·have w0:wr h (some (oid,Y))=h.set oid Y:=zfi lo
   have w1:∀ o,wr (h.set oid Y) (some (qid,o))=(h.set oid Y).set qid o:=fun o=>zfi (by simpa using lq)
   have w2:∀ o,wr ((h.set oid Y).set qid R) (some (mid,o))=((h.set oid Y).set qid R).set mid o:=fun o=>zfi (by simpa using lm)
   have s0:(h.set oid Y)[qid]? = some (.row 2 [.agg [.own oid off lst.length (off+lst.length),.mp mid]]):=by rw [List.getElem?_set_ne (fun e=>hqo e.symm)];exact aq
   have s1:((h.set oid Y).set qid R)[qid]? = some R:=List.getElem?_set_self (by simpa using lq)
   rw [hR] at w2 s1 o1' ⊢
   rw [zbd (CT zeA) rfl]
   simp [zaa,zbK,zcI,aq,hl,k4,ap,w0,w1,w2,s0,s1,o1']
  ·rw [List.getElem?_set_ne (fun e=>hqm e.symm),List.getElem?_set_self (by simpa using lq),hR]
  ·rw [List.getElem?_set_self (by simpa using lm)]
  ·rw [List.getElem?_set_ne hmo,List.getElem?_set_ne hqo,List.getElem?_set_self lo,hY]
  ·rw [zrR (by omega)];simp;omega
  ·rw [zz2 (by omega),b4];simp
  ·simp only [List.mem_cons,List.not_mem_nil,or_false,not_or] at hn
   rw [List.getElem?_set_ne (fun e=>hn.2.1 e.symm),List.getElem?_set_ne (fun e=>hn.1 e.symm),List.getElem?_set_ne (fun e=>hn.2.2 e.symm)]
end Go.RR.FX
namespace Go.RR.FX
open Go Go.RR Go.RR.M
open Go.RR.TU (Mv TR zzd)
theorem push {h:List Ob} {qid:Nat} {F:List Nat} {x:Int} {lst:List Int} (q:QR h qid F lst) (hll:lst.length≤1000000):∃ h' F',acw C zaX [.ptr qid 0 0 1,iv x] h=some (.ret (.tup []),h')∧QR h' qid F' (if x∈lst then lst else lst++[x])∧Mv 1 h h' F F':=by
 by_cases c:x∈lst
 ·rw [if_pos c]
  exact ⟨h,F,pushS q c,q,Nat.le_refl _,fun _ _ _=>rfl,fun _ h=>.inl h,Nat.le_succ _⟩
 ·rw [if_neg c]
  exact pushN q c hll
structure Mw (h h':List Ob) (F F':List Nat):Prop where
 l:h.length≤h'.length
 k:∀ j,j<h.length→j∉F→h'[j]? = h[j]?
 f:∀ j∈F',j∈F∨h.length≤j
theorem Mw.of {n:Nat} {h h':List Ob} {F F':List Nat} (m:Mv n h h' F F'):Mw h h' F F':=⟨m.l,m.k,m.f⟩
theorem Mw.refl {h:List Ob} {F:List Nat}:Mw h h F F:=⟨Nat.le_refl _,fun _ _ _=>rfl,fun _ h=>.inl h⟩
theorem Mw.grow {h t:List Ob} {F:List Nat}:Mw h (h++t) F F:=⟨by simp,fun j hj _=>List.getElem?_append_left hj,fun _ h=>.inl h⟩
theorem Mw.trans {h h1 h2:List Ob} {F F1 F2:List Nat} (a:Mw h h1 F F1) (b:Mw h1 h2 F1 F2):Mw h h2 F F2:=by
 refine ⟨Nat.le_trans a.l b.l,fun j hj hn=>?_,fun j hj=>?_⟩
 ·rw [b.k j (Nat.lt_of_lt_of_le hj a.l) (fun q=>?_),a.k j hj hn]
  rcases a.f j q with h|h
  ·exact hn h
  ·omega
 ·rcases b.f j hj with h|h
  ·exact a.f j h
  ·exact .inr (Nat.le_trans a.l h)
def zcO (l:Ds):List Int:=l.map fun d=>(d.live:Int)
def StB (S:List Int) (i:Nat) (b:Int):Prop:=∀ (j:Nat) (h:j<S.length),0≤S[j]∧S[j]≤if j<i then b+1 else b
theorem StB.all {S:List Int} {i:Nat} {b:Int} (h:StB S i b):∀ s∈S,0≤s∧s≤b+1:=fun s hs=>by
 obtain ⟨j,hj,rfl⟩:=List.mem_iff_getElem.1 hs
 have:=h j hj
 split at this<;>omega
theorem StB.put {C S:List Int} {i:Nat} {x b:Int} (h:StB S i b):StB (zzd C S i x) (i+1) b:=fun j hj=>by
 unfold zzd at hj ⊢
 by_cases c:C[i]? = some x
 ·simp only [c,if_true] at hj ⊢
  have:=h j hj
  refine ⟨this.1,?_⟩
  have h2:=this.2
  split at h2<;>split<;>omega
 ·simp only [c,if_false] at hj ⊢
  have hj2:j<S.length:=by simpa using hj
  have h1:=h j hj2
  rw [List.getElem_set]
  by_cases e:i=j
  ·subst e
   rw [if_pos rfl,if_pos (by omega),List.getD_eq_getElem?_getD,List.getElem?_eq_getElem hj2]
   simp only [Option.getD_some]
   have h2:=h1.2
   rw [if_neg (by omega)] at h2
   omega
  ·rw [if_neg e]
   refine ⟨h1.1,?_⟩
   have h2:=h1.2
   split at h2<;>split<;>omega
theorem zy9 {l:Ds} (hl:l.length≤1000) {tid:Nat} {F:List Nat} {Os:List (List Int)} (hO:Os.length≤999999) (b:Int) (hb:0≤b∧b≤999990):∀ (n i:Nat) (C:List Int) (S:List Int) (h:List Ob),i+n=l.length→TR h tid F C S Os→C.length=l.length→C.take i=(zcO l).take i→StB S i b →
  ∃ h' S',evw M.C y0 zkY [(3,.ptr tid 0 0 1),(13,dsV l),(14,iv l.length),(15,iv i)] h=some (.ext 0,[(3,.ptr tid 0 0 1),(13,dsV l),(14,iv l.length),(15,iv l.length),(16,.bool false)],h')∧TR h' tid F (zcO l) S' Os∧StB S' l.length b∧Mw h h' F F:=by
 intro n
 induction n with
 | zero=>
  intro i C S h hin t hC hC2 hS
  have:i=l.length:=by omega
  subst this
  have e:C=zcO l:=by
   have h1:C.take l.length=C:=List.take_of_length_le (by omega)
   have h2:(zcO l).take l.length=zcO l:=List.take_of_length_le (by simp [zcO])
   rw [h1,h2] at hC2
   exact hC2
  subst e
  rw [zpx]
  refine ⟨h,S,?_,t,hS,Mw.refl⟩
  simp [ziM]
 | succ n ih=>
  intro i C S h hin t hC hC2 hS
  have hlt:i<l.length:=by omega
  obtain ⟨d,hd⟩:∃ d,d=l[i]:=⟨_,rfl⟩
  have hd1:l[i]? = some d:=by simp [hlt,hd]
  have hd2:∀ h:i<l.length,l[i]'h=d:=fun _=>hd.symm
  have hi4:(i:Int)<l.length:=by omega
  have hwr:=zac hlt (by omega)
  have t1:TR (h++[.row 2 [zaj d]]) tid F C S Os:=t.keep fun j hj=>List.getElem?_append_left (t.lt j hj)
  obtain ⟨h2,e2,t2,m2⟩:=TU.setT t1 (fun s hs=>by have:=hS.all s hs;omega) hO i (by omega) (d.live:Int)
  have hL2:(C.set i (d.live:Int)).take (i+1)=(zcO l).take (i+1):=by
   have hCi:i<C.length:=by omega
   have hLi:i<(zcO l).length:=by simp [zcO,hlt]
   rw [List.take_succ_eq_append_getElem (by simpa using hCi),List.take_succ_eq_append_getElem hLi,List.take_set_of_le (Nat.le_refl _),hC2]
   simp [zcO,hd]
  obtain ⟨h',S',e3,t3,b3,m3⟩:=ih (i+1) (C.set i (d.live:Int)) (zzd C S i (d.live:Int)) h2 (by omega) t2 (by simpa using hC) hL2 hS.put
  simp only [Int.natCast_add,Int.cast_ofNat_Int] at e3
  refine ⟨h',S',?_,t3,b3,(Mw.grow.trans (Mw.of m2)).trans m3⟩
  rw [←e3,zpx]
  simp [ziM,hlt,hd1,hd2,hi4,hwr,e2]
theorem zCa {l:Ds} (hl:l.length≤1000) {tid:Nat} {F:List Nat} {Os:List (List Int)} (hO:Os.length≤999999) (b:Int) (hb:0≤b∧b≤999990) (q0 q7 q11:V):∀ (n i:Nat) (C:List Int) (S:List Int) (h:List Ob),i+n=l.length→TR h tid F C S Os→C.length=l.length→C.take i=(zcO l).take i→StB S i b →
  ∃ h' S',evw M.C y0 zm2 [(0,q0),(7,q7),(9,dsV l),(10,.ptr tid 0 0 1),(11,q11),(64,dsV l),(65,iv l.length),(66,iv i)] h=some (.ext 4,[(0,q0),(7,q7),(9,dsV l),(10,.ptr tid 0 0 1),(11,q11),(64,dsV l),(65,iv l.length),(66,iv l.length),(67,.bool false)],h')∧TR h' tid F (zcO l) S' Os∧StB S' l.length b∧Mw h h' F F:=by
 intro n
 induction n with
 | zero=>
  intro i C S h hin t hC hC2 hS
  have:i=l.length:=by omega
  subst this
  have e:C=zcO l:=by
   have h1:C.take l.length=C:=List.take_of_length_le (by omega)
   have h2:(zcO l).take l.length=zcO l:=List.take_of_length_le (by simp [zcO])
   rw [h1,h2] at hC2
   exact hC2
  subst e
  rw [zs9]
  refine ⟨h,S,?_,t,hS,Mw.refl⟩
  simp [zl0]
 | succ n ih=>
  intro i C S h hin t hC hC2 hS
  have hlt:i<l.length:=by omega
  obtain ⟨d,hd⟩:∃ d,d=l[i]:=⟨_,rfl⟩
  have hd1:l[i]? = some d:=by simp [hlt,hd]
  have hd2:∀ h:i<l.length,l[i]'h=d:=fun _=>hd.symm
  have hi4:(i:Int)<l.length:=by omega
  have hwr:=zac hlt (by omega)
  have t1:TR (h++[.row 2 [zaj d]]) tid F C S Os:=t.keep fun j hj=>List.getElem?_append_left (t.lt j hj)
  obtain ⟨h2,e2,t2,m2⟩:=TU.setT t1 (fun s hs=>by have:=hS.all s hs;omega) hO i (by omega) (d.live:Int)
  have hL2:(C.set i (d.live:Int)).take (i+1)=(zcO l).take (i+1):=by
   have hCi:i<C.length:=by omega
   have hLi:i<(zcO l).length:=by simp [zcO,hlt]
   rw [List.take_succ_eq_append_getElem (by simpa using hCi),List.take_succ_eq_append_getElem hLi,List.take_set_of_le (Nat.le_refl _),hC2]
   simp [zcO,hd]
  obtain ⟨h',S',e3,t3,b3,m3⟩:=ih (i+1) (C.set i (d.live:Int)) (zzd C S i (d.live:Int)) h2 (by omega) t2 (by simpa using hC) hL2 hS.put
  simp only [Int.natCast_add,Int.cast_ofNat_Int] at e3
  refine ⟨h',S',?_,t3,b3,(Mw.grow.trans (Mw.of m2)).trans m3⟩
  rw [←e3,zs9]
  simp [zl0,hlt,hd1,hd2,hi4,hwr,e2]
theorem lives {l:Ds} (hl:l.length≤1000) (h:List Ob):∃ h' tid F S,acw M.C zmn [dsV l] h=some (.ret (.ptr tid 0 0 1),h')∧TR h' tid F (zcO l) S [List.replicate l.length 0]∧(∀ s∈S,0≤s∧s≤1)∧Mw h h' [] F:=by
 obtain ⟨h1,tid,F,e1,t1,m1⟩:=TU.newT l.length hl h
 obtain ⟨h2,S,e2,t2,b2,m2⟩:=zy9 hl (by simp) 0 (by omega) l.length 0 (List.replicate l.length 0) (List.replicate l.length 0) h1 (by omega) t1 (by simp) (by simp) (fun j hj=>by simp)
 simp only [Int.cast_ofNat_Int] at e2
 refine ⟨h2,tid,F,S,?_,t2,fun s hs=>by have:=b2.all s hs;omega,(Mw.of m1).trans m2⟩
 rw [zbd (CT zwI) rfl]
 simp [zaa,zo2,zsy,e1,e2]
end Go.RR.FX
namespace Go.RR.FX
open Go Go.RR Go.RR.M
open Go.RR.TU (Mv TR zzd chg iL)
structure WQ (cs:List Con) (lst:List Int):Prop where
 nd:lst.Nodup
 r:∀ x∈lst,∃ k:Nat,k<cs.length∧x=k
theorem WQ.len {cs:List Con} {lst:List Int} (w:WQ cs lst):lst.length≤cs.length:=by
 have h1:(lst.map Int.toNat).Nodup:=by
  rw [List.nodup_iff_pairwise_ne,List.pairwise_map]
  refine List.Pairwise.imp_of_mem (fun {a b} ha hb hne q=>?_) w.nd
  obtain ⟨k,-,rfl⟩:=w.r a ha
  obtain ⟨m,-,rfl⟩:=w.r b hb
  simp at q
  exact hne (by rw [q])
 have h2:=TU.zrG (m:=List.range cs.length) h1 fun z hz=>by
  obtain ⟨x,hx,rfl⟩:=List.mem_map.1 hz
  obtain ⟨k,hk,rfl⟩:=w.r x hx
  simpa using hk
 simpa using h2
theorem WQ.add {cs:List Con} {lst:List Int} (w:WQ cs lst) {k:Nat} (hk:k<cs.length):WQ cs (if (k:Int)∈lst then lst else lst++[(k:Int)]):=by
 by_cases c:(k:Int)∈lst
 ·rw [if_pos c];exact w
 ·rw [if_neg c]
  refine ⟨?_,fun x hx=>?_⟩
  ·rw [List.nodup_append]
   refine ⟨w.nd,by simp,fun u hu y hy=>?_⟩
   have:y=(k:Int):=by simpa using hy
   subst this
   intro e
   subst e
   exact c hu
  ·rcases List.mem_append.1 hx with h|h
   ·exact w.r x h
   ·exact ⟨k,hk,by simpa using h⟩
structure More (cs:List Con) (p:Nat→Prop) (lst lst':List Int):Prop where
 e:∃ t,lst'=lst++t
 h:∀ k:Nat,k<cs.length→p k→(k:Int)∈lst'
theorem zBF {cs:List Con} (hcl:cs.length≤1000) (hcs:∀ c∈cs,c150 c) (qid:Nat) (v:Int) (q9 q10 q11 q78 q79 q80:V):∀ (n i:Nat) (lst:List Int) (F:List Nat) (h:List Ob),i+n=cs.length→QR h qid F lst→WQ cs lst →
  ∃ h' F' lst',evw M.C y0 zng [(0,zaW cs),(7,.ptr qid 0 0 1),(9,q9),(10,q10),(11,q11),(17,iv v),(78,q78),(79,q79),(80,q80),(84,zaW cs),(85,iv cs.length),(86,iv i)] h =
   some (.ext 8,[(0,zaW cs),(7,.ptr qid 0 0 1),(9,q9),(10,q10),(11,q11),(17,iv v),(78,q78),(79,q79),(80,q80),(84,zaW cs),(85,iv cs.length),(86,iv cs.length),(87,.bool false)],h')∧QR h' qid F' lst'∧WQ cs lst'∧More cs (fun k=>i≤k∧∃ c,cs[k]? = some c∧v∈c.vars) lst lst'∧Mw h h' F F':=by
 intro n
 induction n with
 | zero=>
  intro i lst F h hin q w
  have:i=cs.length:=by omega
  subst this
  rw [zo7]
  refine ⟨h,F,lst,?_,q,w,⟨⟨[],by simp⟩,fun k hk hp=>by omega⟩,Mw.refl⟩
  simp [zjd]
 | succ n ih=>
  intro i lst F h hin q w
  have hlt:i<cs.length:=by omega
  obtain ⟨c,hc⟩:∃ c,c=cs[i]:=⟨_,rfl⟩
  have hc1:cs[i]? = some c:=by simp [hlt,hc]
  have hc2:∀ h:i<cs.length,cs[i]'h=c:=fun _=>hc.symm
  have hi4:(i:Int)<cs.length:=by omega
  have hwr:=zac hlt (by omega)
  have h150:=hcs c (by rw [hc];exact List.getElem_mem hlt)
  have kc:=fun h=>zpP c.vars v (by have:=h150.1;omega) h
  have q1:QR (h++[.row 6 [zaq c]]) qid F lst:=q.keep fun j hj=>List.getElem?_append_left (q.lt j hj)
  cases hcc:(c.vars.any fun y=>v==y) with
  | false=>
   rw [hcc] at kc
   obtain ⟨h',F',lst',e,a1,a2,a3,a4⟩:=ih (i+1) lst F _ (by omega) q1 w
   simp only [Int.natCast_add,Int.cast_ofNat_Int] at e
   refine ⟨h',F',lst',?_,a1,a2,⟨a3.e,fun k hk hp=>?_⟩,Mw.grow.trans a4⟩
   ·rw [←e,zo7]
    simp [zjd,hlt,hc1,hc2,hi4,hwr,kc]
   ·obtain ⟨p1,d,p2,p3⟩:=hp
    by_cases ek:k=i
    ·subst ek
     rw [hc1] at p2
     cases p2
     have:(c.vars.any fun y=>v==y)=true:=List.any_eq_true.2 ⟨v,p3,by simp⟩
     rw [this] at hcc
     cases hcc
    ·exact a3.h k hk ⟨by omega,d,p2,p3⟩
  | true=>
   rw [hcc] at kc
   obtain ⟨h2,F2,e2,q2,m2⟩:=push (x:=(i:Int)) q1 (by have:=w.len;omega)
   obtain ⟨h',F',lst',e,a1,a2,a3,a4⟩:=ih (i+1) _ F2 h2 (by omega) q2 (w.add hlt)
   simp only [Int.natCast_add,Int.cast_ofNat_Int] at e
   refine ⟨h',F',lst',?_,a1,a2,⟨?_,fun k hk hp=>?_⟩,(Mw.grow.trans (Mw.of m2)).trans a4⟩
   ·rw [←e,zo7]
    simp [zjd,hlt,hc1,hc2,hi4,hwr,kc,e2]
   ·obtain ⟨t,ht⟩:=a3.e
    rw [ht]
    split
    ·exact ⟨t,rfl⟩
    ·exact ⟨[(i:Int)]++t,by rw [List.append_assoc]⟩
   ·obtain ⟨p1,d,p2,p3⟩:=hp
    by_cases ek:k=i
    ·subst ek
     obtain ⟨t,ht⟩:=a3.e
     rw [ht,List.mem_append]
     left
     split
     ·assumption
     ·simp
    ·exact a3.h k hk ⟨by omega,d,p2,p3⟩
theorem zDZ {cs:List Con} (hcl:cs.length≤1000) (hcs:∀ c∈cs,c150 c) (qid:Nat) (ks:List Int) (hkl:ks.length≤1000) (aid:Nat) (q9 q10 q11:V):∀ (n j:Nat) (lst:List Int) (F:List Nat) (h:List Ob),j+n=ks.length→QR h qid F lst→WQ cs lst→aid∉F→h[aid]? = some (.row 1 (iL ks)) →
  ∃ h' F' lst',evw M.C y0 zhD [(0,zaW cs),(7,.ptr qid 0 0 1),(9,q9),(10,q10),(11,q11),(78,.own aid 0 ks.length ks.length),(79,iv ks.length),(80,iv j)] h =
   some (.ext 6,[(0,zaW cs),(7,.ptr qid 0 0 1),(9,q9),(10,q10),(11,q11),(78,.own aid 0 ks.length ks.length),(79,iv ks.length),(80,iv ks.length),(81,.bool false)],h')∧QR h' qid F' lst'∧WQ cs lst'∧More cs (fun k=>∃ c,cs[k]? = some c∧∃ v∈ks.drop j,v∈c.vars) lst lst'∧Mw h h' F F':=by
 intro n
 induction n with
 | zero=>
  intro j lst F h hjn q w ha hr
  have:j=ks.length:=by omega
  subst this
  rw [zpk]
  refine ⟨h,F,lst,?_,q,w,⟨⟨[],by simp⟩,fun k hk hp=>?_⟩,Mw.refl⟩
  ·simp [zjh]
  ·obtain ⟨c,-,v,hv,-⟩:=hp
   simp at hv
 | succ n ih=>
  intro j lst F h hjn q w ha hr
  have hlt:j<ks.length:=by omega
  obtain ⟨v,hv⟩:∃ v,v=ks[j]:=⟨_,rfl⟩
  have hv1:ks[j]? = some v:=by simp [hlt,hv]
  have hv2:∀ h:j<ks.length,ks[j]'h=v:=fun _=>hv.symm
  have hj4:(j:Int)<ks.length:=by omega
  have hwr:=zac hlt (by omega)
  obtain ⟨h1,F1,lst1,e1,q1,w1,m1,x1⟩:=zBF hcl hcs qid v q9 q10 q11 (.own aid 0 ks.length ks.length) (iv ks.length) (iv j) cs.length 0 lst F h (by omega) q w
  simp only [Int.cast_ofNat_Int] at e1
  have hal:aid<h.length:=(List.getElem?_eq_some_iff.1 hr).1
  have ha1:aid∉F1:=fun c=>by
   rcases x1.f _ c with k|k
   ·exact ha k
   ·omega
  obtain ⟨h',F',lst',e2,q2,w2,m2,x2⟩:=ih (j+1) lst1 F1 h1 (by omega) q1 w1 ha1 (by rw [x1.k _ hal ha];exact hr)
  simp only [Int.natCast_add,Int.cast_ofNat_Int] at e2
  refine ⟨h',F',lst',?_,q2,w2,⟨?_,fun k hk hp=>?_⟩,x1.trans x2⟩
  ·rw [←e2,zpk]
   simp [zjh,hlt,hv1,hv2,hj4,hwr,hr,e1]
  ·obtain ⟨t1,ht1⟩:=m1.e
   obtain ⟨t2,ht2⟩:=m2.e
   exact ⟨t1++t2,by rw [ht2,ht1,List.append_assoc]⟩
  ·obtain ⟨c,hc,u,hu,huc⟩:=hp
   rw [List.drop_eq_getElem_cons hlt,←hv] at hu
   rcases List.mem_cons.1 hu with rfl|hu
   ·have:=m1.h k hk ⟨by omega,c,hc,huc⟩
    obtain ⟨t2,ht2⟩:=m2.e
    rw [ht2]
    exact List.mem_append_left _ this
   ·exact m2.h k hk ⟨c,hc,u,hu,huc⟩
end Go.RR.FX
namespace Go.RR.FX
open Go Go.RR Go.RR.M
open Go.RR.TU (chg)
theorem TU_nodup_le':∀ {l m:List Int},l.Nodup→(∀ z∈l,z∈m)→l.length≤m.length
 | [],m,_,_=>Nat.zero_le _
 | x::l,m,hn,hs=>by
  have h2:=List.nodup_cons.1 hn
  have hx:=hs x (by simp)
  have:=TU_nodup_le' (l:=l) (m:=m.erase x) h2.2 fun z hz=>(List.mem_erase_of_ne (fun e=>h2.1 (by rw [←e];exact hz))).2 (hs z (by simp [hz]))
  rw [List.length_erase_of_mem hx] at this
  have:0<m.length:=List.length_pos_of_mem hx
  simp only [List.length_cons]
  omega
def tot (l:Ds):Nat:=(l.map zfV).sum
theorem zsq {d:Dm} (h:zcX d=true):(zag d).Nodup:=(zhC h).imp (fun {a b} h=>by omega)
theorem LeD.size {a b:Dm} (h:LeD a b):zfV a≤zfV b:=TU_nodup_le' (zsq h.ma) h.s
theorem LeD.lt {a b:Dm} (h:LeD a b) (hne:a≠b):zfV a<zfV b:=by
 rcases Nat.lt_or_ge (zfV a) (zfV b) with k|k
 ·exact k
 ·refine absurd (h.anti ⟨h.mb,h.ma,h.v.symm,fun x hx=>?_⟩) hne
  rcases Classical.em (x∈zag a) with q|q
  ·exact q
  ·have:=TU_nodup_le' (l:=x::zag a) (m:=zag b) (List.nodup_cons.2 ⟨q,zsq h.ma⟩) (fun z hz=>by
    rcases List.mem_cons.1 hz with rfl|hz
    ·exact hx
    ·exact h.s z hz)
   simp only [List.length_cons] at this
   unfold zfV at k
   omega
theorem zsg:∀ {a b:Ds},LeL a b→tot a≤tot b∧(a≠b→tot a<tot b)
 | [],[],_=>⟨Nat.le_refl _,fun h=>absurd rfl h⟩
 | [],_::_,h=>by have:=h.1;simp at this
 | _::_,[],h=>by have:=h.1;simp at this
 | x::a,y::b,h=>by
  have h0:LeD x y:=h.2 0 (by simp) (by simp)
  have hr:LeL a b:=⟨by have:=h.1;simpa using this,fun i h1 h2=>by
   have:=h.2 (i+1) (by simpa using h1) (by simpa using h2)
   simpa using this⟩
  obtain ⟨k1,k2⟩:=zsg hr
  have e1:tot (x::a)=zfV x+tot a:=by simp [tot]
  have e2:tot (y::b)=zfV y+tot b:=by simp [tot]
  have s:=h0.size
  rw [e1,e2]
  refine ⟨by omega,fun hne=>?_⟩
  by_cases c:x=y
  ·subst c
   have:=k2 (fun q=>hne (by rw [q]))
   omega
  ·have:=h0.lt c
   omega
theorem zEh {a b:Dm} (h:LeD a b) (e:a.live=b.live):a=b:=by
 obtain ⟨v,l⟩:=a
 obtain ⟨v',l'⟩:=b
 have:=h.v
 simp only at this e
 rw [this,e]
theorem zDL {a b:Ds} (h:LeL a b) {u:Int} (hu:0≤u∧u<b.length) (hn:u∉chg (zcO a) (zcO b)) (h1:u.toNat<a.length) (h2:u.toNat<b.length):a[u.toNat]=b[u.toNat]:=by
 refine zEh (h.2 _ h1 h2) ?_
 rcases Classical.em (a[u.toNat].live=b[u.toNat].live) with k|k
 ·exact k
 ·refine absurd (TU.zDK.2 ⟨u.toNat,by simpa [zcO] using h1,by omega,?_⟩) hn
  unfold zcO
  rw [List.getElem?_map,List.getElem?_map,List.getElem?_eq_getElem h1,List.getElem?_eq_getElem h2]
  intro q
  simp only [Option.map_some,Option.some.injEq] at q
  exact k (Int.ofNat.inj q)
theorem zyp {cs:List Con} {l:Ds} {k:Nat} {lst lst':List Int} (ok:okL l) (hR:RCs cs l.length) {ck:Con} (hk:cs[k]? = some ck) (inv:∀ (i:Nat) (c:Con),cs[i]? = some c→i≠k→(i:Int)∉lst→zai c l=l) (m:More cs (fun i=>∃ c,cs[i]? = some c∧∃ v∈chg (zcO (zai ck l)) (zcO l),v∈c.vars) lst lst') :
  ∀ (i:Nat) (c:Con),cs[i]? = some c→(i:Int)∉lst'→zai c (zai ck l)=zai ck l:=by
 intro i c hc hn
 have hle:=zkT (c:=ck) ok
 have hcm:c∈cs:=List.mem_of_getElem? hc
 have hR1:=hR c hcm
 have same:∀ u∈c.vars,∀ (h1:u.toNat<l.length) (h2:u.toNat<(zai ck l).length),l[u.toNat]=(zai ck l)[u.toNat]:=fun u hu h1 h2=>by
  refine (zDL hle (hR1.b u hu) (fun q=>?_) h2 h1).symm
  exact hn (m.h i (List.getElem?_eq_some_iff.1 hc).1 ⟨c,hc,u,q,hu⟩)
 by_cases e:i=k
 ·subst e
  obtain rfl:c=ck:=by rw [hc] at hk;exact Option.some.inj hk
  have:zai c l=l:=by
   refine List.ext_getElem zby fun j h1 h2=>?_
   by_cases hv:(j:Int)∈c.vars
   ·have:=same j hv (by simpa using h2) (by simpa using h1)
    simpa using this.symm
   ·exact ztR ok h2 hv
  rw [this,this]
 ·refine zAl ok hle.okl zby.symm hR1 same (inv i c hc e fun q=>hn ?_)
  obtain ⟨t,ht⟩:=m.e
  rw [ht]
  exact List.mem_append_left _ q
end Go.RR.FX
namespace Go.RR.FX
open Go Go.RR Go.RR.M
open Go.RR.TU (Mv TR zzd chg iL)
theorem zo3 {l:Ds} (ok:okL l) (hn:l.length≤1000):zmK l:=⟨hn,fun d hd=>zaB (ok d hd)⟩
theorem zsf {l:Ds} (ok:okL l):zfR l=true:=List.all_eq_true.2 ok
theorem run_l3 {cs:List Con} (hcl:cs.length≤1000) (hcs:∀ c∈cs,c150 c) (qid:Nat) (ks:List Int) (hkl:ks.length≤1000) (q9 q10 q11:V) (lst:List Int) (F:List Nat) (h:List Ob) (q:QR h qid F lst) (w:WQ cs lst) :
  ∃ h' F' lst',(if ks=[] then evw M.C y0 zhD [(0,zaW cs),(7,.ptr qid 0 0 1),(9,q9),(10,q10),(11,q11),(78,.nsl 1),(79,iv 0),(80,iv 0)] (h++[.dead]) =
   some (.ext 6,[(0,zaW cs),(7,.ptr qid 0 0 1),(9,q9),(10,q10),(11,q11),(78,.nsl 1),(79,iv 0),(80,iv 0),(81,.bool false)],h')
   else evw M.C y0 zhD [(0,zaW cs),(7,.ptr qid 0 0 1),(9,q9),(10,q10),(11,q11),(78,.own (h.length+1) 0 ks.length ks.length),(79,iv ks.length),(80,iv 0)] (h++[.dead,.row 1 (iL ks)]) =
   some (.ext 6,[(0,zaW cs),(7,.ptr qid 0 0 1),(9,q9),(10,q10),(11,q11),(78,.own (h.length+1) 0 ks.length ks.length),(79,iv ks.length),(80,iv ks.length),(81,.bool false)],h')) ∧
   QR h' qid F' lst'∧WQ cs lst'∧More cs (fun k=>∃ c,cs[k]? = some c∧∃ v∈ks,v∈c.vars) lst lst'∧(ks=[]→lst'=lst)∧Mw h h' F F':=by
 by_cases c:ks=[]
 ·subst c
  refine ⟨h++[.dead],F,lst,?_,q.keep fun j hj=>List.getElem?_append_left (q.lt j hj),w,⟨⟨[],by simp⟩,fun k hk hp=>?_⟩,fun _=>rfl,Mw.grow⟩
  ·rw [if_pos rfl,zpk]
   simp [zjh]
  ·obtain ⟨c,-,v,hv,-⟩:=hp
   simp at hv
 ·obtain ⟨h',F',lst',e,a1,a2,a3,a4⟩:=zDZ hcl hcs qid ks hkl (h.length+1) q9 q10 q11 ks.length 0 lst F (h++[.dead,.row 1 (iL ks)]) (by omega) (q.keep fun j hj=>List.getElem?_append_left (q.lt j hj)) w (fun m=>by have:=q.lt _ m;omega) (by simp)
  simp only [Int.cast_ofNat_Int,List.drop_zero] at e a3
  exact ⟨h',F',lst',by rw [if_neg c];exact e,a1,a2,a3,fun e=>absurd e c,Mw.grow.trans a4⟩
inductive zq5 (cs:List Con) (l:Ds):Nat→Ds→Prop where
 | refl:zq5 cs l 0 l
 | step {n:Nat} {r:Ds} {c:Con} (h:zq5 cs l n r) (hc:c∈cs):zq5 cs l (n+1) (zai c r)
theorem zq5.cons {cs:List Con} {l r:Ds} {c:Con} {n:Nat} (hc:c∈cs) (h:zq5 cs (zai c l) n r):zq5 cs l (n+1) r:=by
 induction h with
 | refl=>exact .step .refl hc
 | step _ h2 ih=>exact .step ih h2
theorem zCJ {cs:List Con} (hcl:cs.length≤1000) (hcs:∀ c∈cs,c150 c) {m0:Nat} (hm0:m0≤1000) (hRB:∀ c∈cs,zaC c m0=true) (qid tid:Nat):∀ (N:Nat) (l:Ds) (k:Nat) (ck:Con) (lst:List Int) (steps:Nat) (h:List Ob) (FQ FT:List Nat) (S:List Int) (Os:List (List Int)) (b:Nat),
  cs.length*tot l+lst.length+1≤N→okL l→l.length=m0→cs[k]? = some ck→(k:Int)∉lst→WQ cs lst→(∀ (i:Nat) (c:Con),cs[i]? = some c→i≠k→(i:Int)∉lst→zai c l=l)→QR h qid FQ lst→TR h tid FT (zcO l) S Os→(∀ j∈FQ,j∉FT)→(∀ s∈S,0≤s∧s≤b)→b+N≤900000→Os.length+N≤900000→steps+N≤900000 →
  ∃ h' l' n',evw M.C y0 zd5 [(0,zaW cs),(7,.ptr qid 0 0 1),(9,dsV l),(10,.ptr tid 0 0 1),(11,iv steps),(12,iv k),(13,.bool true)] h =
   some (.ext 2,[(0,zaW cs),(7,.ptr qid 0 0 1),(9,dsV l'),(10,.ptr tid 0 0 1),(11,iv n'),(12,iv 0),(45,.bool false)],h')∧Steps cs l l'∧fixed cs l'∧∃ m:Nat,n'=(m:Int)∧steps+lst.length+1≤m∧m≤steps+(cs.length*tot l+lst.length+1)∧zq5 cs l (m-steps) l':=by
 intro N
 induction N with
 | zero=>intro l k ck lst steps h FQ FT S Os b hN;omega
 | succ N ih=>
  intro l k ck lst steps h FQ FT S Os b hN ok hlm hk hkn w inv q t dj hS hb hO hst
  have hcm:ck∈cs:=List.mem_of_getElem? hk
  have hkl:=(List.getElem?_eq_some_iff.1 hk).1
  have hk2:∀ h:k<cs.length,cs[k]'h=ck:=fun _=>(List.getElem?_eq_some_iff.1 hk).2
  have hk4:(k:Int)<cs.length:=by omega
  have hR:RCs cs l.length:=fun c hc=>RC.of (by rw [hlm];exact hRB c hc)
  have es:=fun h=>zrP ck (hcs ck hcm) l (zo3 ok (by omega)) h
  have eF:zru ck l=(zai ck l,0):=by
   unfold zru
   rw [hlm,hRB ck hcm,zsf ok]
   rfl
  rw [eF] at es
  obtain ⟨l',hl'⟩:∃ l',l'=zai ck l:=⟨_,rfl⟩
  have hle:LeL l' l:=by rw [hl'];exact zkT ok
  have hlen:l'.length=l.length:=hle.1
  obtain ⟨h1,FT1,e1,t1,m1⟩:=TU.saveT t (by omega)
  obtain ⟨h2,S2,e2,t2,b2,m2⟩:=zCa (l:=l') (by omega) (Os:=zcO l::Os) (by simp;omega) b (by omega) (zaW cs) (.ptr qid 0 0 1) (iv ((steps+1:Nat):Int)) l'.length 0 (zcO l) S h1 (by omega) t1 (by simp [zcO,hlen]) (by simp) (fun j hj=>by
   rw [if_neg (by omega)]
   exact hS _ (List.getElem_mem hj))
  obtain ⟨ks,hks⟩:∃ ks,ks=chg (zcO l') (zcO l):=⟨_,rfl⟩
  have hkl2:ks.length≤1000:=by
   have:=TU.zD6 (C:=zcO l') (B:=zcO l)
   rw [←hks] at this
   simp [zcO] at this
   omega
  have e3:=t2.chg (by omega) (by simp [zcO];omega)
  rw [←hks] at e3
  have m12:Mw h h2 FT FT1:=(Mw.of m1).trans m2
  have q2:QR h2 qid FQ lst:=q.keep fun j hj=>m12.k j (q.lt j hj) (dj j hj)
  obtain ⟨h5,FQ5,lst',e5,q5,w5,mo,mo0,m5⟩:=run_l3 hcl hcs qid ks hkl2 (dsV l') (.ptr tid 0 0 1) (iv ((steps+1:Nat):Int)) lst FQ h2 q2 w
  have dj2:∀ j∈FQ,j∉FT1:=fun j hj hf=>by
   rcases m12.f j hf with r|r
   ·exact dj j hj r
   ·have:=q.lt j hj;omega
  have t5:TR h5 tid FT1 (zcO l') S2 (zcO l::Os):=t2.keep fun j hj=>m5.k j (t2.lt j hj) fun r=>dj2 j r hj
  have dj5:∀ j∈FQ5,j∉FT1:=fun j hj hf=>by
   rcases m5.f j hj with r|r
   ·exact dj2 j r hf
   ·have:=t2.lt j hf;omega
  have nf:=zyp (lst':=lst') ok hR hk inv (by rw [←hl',←hks];exact mo)
  rw [←hl'] at nf
  obtain ⟨ex,hex⟩:=mo.e
  have hlge:lst.length≤lst'.length:=by rw [hex];simp
  have hmes:cs.length*tot l'+lst'.length≤cs.length*tot l+lst.length:=by
   by_cases c:ks=[]
   ·rw [mo0 c]
    have:=Nat.mul_le_mul_left cs.length (zsg hle).1
    omega
   ·have hne:l'≠l:=fun e=>by
     apply c
     rw [hks,e]
     unfold chg
     simp
    have h1:=(zsg hle).2 hne
    have h2:=w5.len
    have h3:cs.length*(tot l'+1)≤cs.length*tot l:=Nat.mul_le_mul_left _ h1
    rw [Nat.mul_add] at h3
    omega
  have hwr:IntKind.i64.wrap ((steps:Int)+1)=((steps+1:Nat):Int):=by rw [wrap64 (by omega) (by omega)];omega
  simp only [Int.natCast_add,Int.cast_ofNat_Int] at e2 e5 hwr
  have one:∀ (r:V×V) (h6:List Ob) (z:Option Rs),acw M.C za7 [.ptr qid 0 0 1] h5=some (.ret (.tup [r.1,r.2]),h6)→evw M.C y0 zd5 [(0,zaW cs),(7,.ptr qid 0 0 1),(9,dsV l'),(10,.ptr tid 0 0 1),(11,iv ((steps:Int)+1)),(12,r.1),(13,r.2)] h6=z→evw M.C y0 zd5 [(0,zaW cs),(7,.ptr qid 0 0 1),(9,dsV l),(10,.ptr tid 0 0 1),(11,iv steps),(12,iv k),(13,.bool true)] h=z:=fun r h6 z e6 e7=>by
   rw [←e7]
   conv=>lhs;rw [zpm]
   rw [←hl'] at es
   by_cases c:ks=[]
   ·rw [if_pos c] at e5
    have e3':acw M.C zav [.ptr tid 0 0 1] h2=some (.ret (.nsl 1),h2++[.dead]):=by rw [e3,c];rfl
    simp [zgU,hk,hk2,hk4,hkl,es,hwr,e1,e2,e3',e5,e6]
   ·rw [if_neg c] at e5
    have e3':acw M.C zav [.ptr tid 0 0 1] h2=some (.ret (.own (h2.length+1) 0 ks.length ks.length),h2++[.dead,.row 1 (iL ks)]):=by
     rw [e3]
     simp [zpg,zon,c,iL]
    simp [zgU,hk,hk2,hk4,hkl,es,hwr,e1,e2,e3',e5,e6]
  cases hc:lst' with
  | nil=>
   rw [hc] at q5 nf hlge
   have e6:=pop0 q5
   have e7:evw M.C y0 zd5 [(0,zaW cs),(7,.ptr qid 0 0 1),(9,dsV l'),(10,.ptr tid 0 0 1),(11,iv ((steps:Int)+1)),(12,iv 0),(13,.bool false)] h5=some (.ext 2,[(0,zaW cs),(7,.ptr qid 0 0 1),(9,dsV l'),(10,.ptr tid 0 0 1),(11,iv ((steps:Int)+1)),(12,iv 0),(45,.bool false)],h5):=by
    rw [zpm]
    simp [zgU]
   refine ⟨h5,l',(steps:Int)+1,one (iv 0,.bool false) h5 _ e6 e7,by rw [hl'];exact .step .refl hcm,fun c hcc=>?_,steps+1,by omega,by have:lst.length≤0:=hlge;omega,by omega,by rw [show steps+1-steps=1 by omega,hl'];exact .step .refl hcm⟩
   obtain ⟨i,hi,rfl⟩:=List.mem_iff_getElem.1 hcc
   exact nf i _ (List.getElem?_eq_getElem hi) (by simp)
  | cons x r=>
   rw [hc] at q5 nf hlge w5 hmes
   simp only [List.length_cons] at hlge hmes
   obtain ⟨k',hk',rfl⟩:=w5.r x (by simp)
   have nd2:=List.nodup_cons.1 w5.nd
   have wl:=w5.len
   simp only [List.length_cons] at wl
   obtain ⟨h6,e6,q6,m6⟩:=pop1 q5 w5.nd (by omega)
   obtain ⟨h',lf,n',e9,s9,f9,m,hm1,hm2,hm3,hm4⟩:=ih l' k' cs[k'] r (steps+1) h6 FQ5 FT1 S2 (zcO l::Os) (b+1) (by omega) (hle.okl) (by omega) (List.getElem?_eq_getElem hk') nd2.1 ⟨nd2.2,fun y hy=>w5.r y (by simp [hy])⟩ (fun i c hi hne hnr=>nf i c hi (by simp only [List.mem_cons,not_or];exact ⟨by omega,hnr⟩)) q6 (t5.keep fun j hj=>m6.k j (t5.lt j hj) fun r=>dj5 j r hj) dj5 (fun s hs=>by have:=b2.all s hs;omega) (by omega) (by simp;omega) (by omega)
   simp only [Int.natCast_add,Int.cast_ofNat_Int] at e9
   refine ⟨h',lf,n',one (iv k',.bool true) h6 _ e6 e9,(Steps.step .refl hcm).trans (by rw [←hl'];exact s9),f9,m,hm1,by omega,by omega,by rw [show m-steps=(m-(steps+1))+1 by omega];exact zq5.cons hcm (by rw [←hl'];exact hm4)⟩
theorem zBH {cs:List Con} (hcl:cs.length≤1000) (qid:Nat) (q1:V):∀ (n i:Nat) (lst:List Int) (F:List Nat) (h:List Ob),i+n=cs.length→QR h qid F lst→WQ cs lst→(∀ k:Nat,k<i→(k:Int)∈lst)→(∀ k:Nat,(k:Int)∈lst→k<i)→lst.length=i →
  ∃ h' F' lst',evw M.C y0 znv [(0,zaW cs),(1,q1),(7,.ptr qid 0 0 1),(28,iv cs.length),(29,iv i)] h =
   some (.ext 0,[(0,zaW cs),(1,q1),(7,.ptr qid 0 0 1),(28,iv cs.length),(29,iv cs.length),(30,.bool false)],h')∧QR h' qid F' lst'∧WQ cs lst'∧(∀ k:Nat,k<cs.length→(k:Int)∈lst')∧lst'.length=cs.length∧Mw h h' F F':=by
 intro n
 induction n with
 | zero=>
  intro i lst F h hin q w a1 a2 a3
  have:i=cs.length:=by omega
  subst this
  rw [zsA]
  refine ⟨h,F,lst,?_,q,w,a1,a3,Mw.refl⟩
  simp [zl7]
 | succ n ih=>
  intro i lst F h hin q w a1 a2 a3
  have hlt:i<cs.length:=by omega
  have hi4:(i:Int)<cs.length:=by omega
  have hwr:=zac hlt (by omega)
  have hni:(i:Int)∉lst:=fun m=>by have:=a2 i m;omega
  obtain ⟨h1,F1,e1,qq,m1⟩:=pushN q hni (by omega)
  have w1:=w.add hlt
  rw [if_neg hni] at w1
  obtain ⟨h',F',lst',e2,q2,w2,c1,c2,m2⟩:=ih (i+1) (lst++[(i:Int)]) F1 h1 (by omega) qq w1 (fun k hk=>by
   by_cases c:k=i
   ·subst c;simp
   ·exact List.mem_append_left _ (a1 k (by omega))) (fun k hk=>by
   rcases List.mem_append.1 hk with h|h
   ·have:=a2 k h;omega
   ·have:(k:Int)=i:=by simpa using h
    omega) (by simp;omega)
  simp only [Int.natCast_add,Int.cast_ofNat_Int] at e2
  refine ⟨h',F',lst',?_,q2,w2,c1,c2,(Mw.of m1).trans m2⟩
  rw [←e2,zsA]
  simp [zl7,hlt,hi4,hwr,e1]
theorem tot_bd {l:Ds} (hl:l.length≤16):tot l≤1024:=by
 have:∀ l:Ds,tot l≤l.length*64:=fun l=>by
  induction l with
  | nil=>simp [tot]
  | cons d r ih=>
   have h1:tot (d::r)=zfV d+tot r:=by simp [tot]
   have h2:=zbz d
   rw [h1,List.length_cons,Nat.succ_mul]
   unfold zfV
   omega
 have:=this l
 omega
def zEo (cs:List Con) (l:Ds) (a:Ds) (n e:Int):Prop:=
 if zbH cs l=true then e=0∧Steps cs l a∧fixed cs a∧∃ m:Nat,n=m∧cs.length≤m∧m≤cs.length*(tot l+1)∧zq5 cs l m a else a=[]∧n=0∧e=1
theorem zuJ (cs:List Con) (hcl:cs.length≤20) (hcs:∀ c∈cs,c150 c) (l:Ds) (hl:zmK l):∃ a n e,zEo cs l a n e∧∀ h,acw C zeD [zaW cs,dsV l] h=some (.ret (.tup [dsV a,iv n,iv e]),h):=by
 have kr:=fun h=>zv7 cs hcs (by omega) l hl h
 cases hr:zbH cs l with
 | false=>
  rw [hr] at kr
  refine ⟨[],0,1,by unfold zEo;rw [hr,if_neg (by simp)];exact ⟨rfl,rfl,rfl⟩,fun h=>?_⟩
  refine zap (h':=[]) (v:=.tup [.nsl 2,iv 0,iv 1]) (v':=.tup [dsV [],iv 0,iv 1]) (CT ztj) rfl rfl ?_ rfl (by simp)
  simp [zaa,zlC,zpL,kr]
 | true=>
  rw [hr] at kr
  have hr2:=hr
  unfold zbH at hr2
  simp only [Bool.and_eq_true,decide_eq_true_eq] at hr2
  obtain ⟨⟨h16,hRB⟩,hma⟩:=hr2
  have hRB:=List.all_eq_true.1 hRB
  have ok:=zgu hma
  have kc:=fun h=>ztZ ok (by omega) h
  have q0:QR [.map (mI []) 0,.row 2 [.agg [.nsl 1,.mp 0]]] 1 [1,0] []:=⟨0,.nsl 1,[],0,[],⟨rfl,rfl,fun y=>by simp [gM],by simp [zdl]⟩,⟨rfl,rfl⟩,by simp,rfl⟩
  obtain ⟨h1,F1,lst,e1,q1,w1,c1,c2,m1⟩:=zBH (cs:=cs) (by omega) 1 (dsV l) cs.length 0 [] [1,0] [.map (mI []) 0,.row 2 [.agg [.nsl 1,.mp 0]]] (by omega) q0 ⟨List.nodup_nil,fun x hx=>by simp at hx⟩ (fun k hk=>by omega) (fun k hk=>by simp at hk) rfl
  simp only [Int.cast_ofNat_Int,List.map_nil] at e1
  obtain ⟨h2,tid,FT,S,e2,t2,s2,m2⟩:=lives (l:=l) (by omega) h1
  have q2:QR h2 1 F1 lst:=q1.keep fun j hj=>m2.k j (q1.lt j hj) (by simp)
  have dj2:∀ j∈F1,j∉FT:=fun j hj hf=>by
   rcases m2.f j hf with r|r
   ·simp at r
   ·have:=q1.lt j hj;omega
  unfold zEo
  simp only [hr,if_true]
  have fin:∀ (a:Ds) (n:Int) (h3:List Ob),zpt (evw C y0) zlC [zaW cs,dsV l] []=some (.ret (.tup [dsV a,iv n,iv 0]),h3)→∀ h,acw C zeD [zaW cs,dsV l] h=some (.ret (.tup [dsV a,iv n,iv 0]),h):=fun a n h3 e h=>
   zap (h':=h3) (v:=.tup [dsV a,iv n,iv 0]) (v':=.tup [dsV a,iv n,iv 0]) (CT ztj) rfl rfl e rfl (by simp)
  cases hc:lst with
  | nil=>
   rw [hc] at q2 c2
   have e3:=pop0 q2
   have hcs0:cs=[]:=List.length_eq_zero_iff.1 c2.symm
   refine ⟨l,0,0,⟨rfl,.refl,fun c hcc=>by rw [hcs0] at hcc;simp at hcc,0,rfl,by rw [hcs0];simp,Nat.zero_le _,.refl⟩,fin l 0 h2 ?_⟩
   have e4:evw M.C y0 zd5 [(0,zaW cs),(7,.ptr 1 0 0 1),(9,dsV l),(10,.ptr tid 0 0 1),(11,iv 0),(12,iv 0),(13,.bool false)] h2=some (.ext 2,[(0,zaW cs),(7,.ptr 1 0 0 1),(9,dsV l),(10,.ptr tid 0 0 1),(11,iv 0),(12,iv 0),(45,.bool false)],h2):=by
    rw [zpm]
    simp [zgU]
   simp [zaa,zlC,zpL,kr,zux,e1,kc,e2,e3,e4]
  | cons x r=>
   rw [hc] at q2 c2 w1 c1
   obtain ⟨k,hk,rfl⟩:=w1.r x (by simp)
   have nd2:=List.nodup_cons.1 w1.nd
   simp only [List.length_cons] at c2
   obtain ⟨h3,e3,q3,m3⟩:=pop1 q2 w1.nd (by omega)
   have tb:=tot_bd h16
   have t3:TR h3 tid FT (zcO l) S [List.replicate l.length 0]:=t2.keep fun j hj=>m3.k j (t2.lt j hj) fun r=>dj2 j r hj
   have hN:cs.length*tot l≤20*1024:=Nat.mul_le_mul hcl tb
   obtain ⟨h4,lf,n',e4,s4,f4,m,hm1,hm2,hm3,hm4⟩:=zCJ (cs:=cs) (by omega) hcs (m0:=l.length) (by omega) hRB 1 tid (cs.length*tot l+r.length+1) l k cs[k] r 0 h3 F1 FT S [List.replicate l.length 0] 1 (Nat.le_refl _) ok rfl (List.getElem?_eq_getElem hk) nd2.1 ⟨nd2.2,fun y hy=>w1.r y (by simp [hy])⟩ (fun i c hi hne hnr=>absurd (c1 i (List.getElem?_eq_some_iff.1 hi).1) (by simp only [List.mem_cons,not_or];exact ⟨by omega,hnr⟩)) q3 t3 dj2 (fun s hs=>by have:=s2 s hs;omega) (by omega) (by simp;omega) (by omega)
   simp only [Int.cast_ofNat_Int] at e4
   refine ⟨lf,n',0,⟨rfl,s4,f4,m,hm1,by omega,by rw [Nat.mul_add];omega,hm4⟩,fin lf n' h4 ?_⟩
   simp [zaa,zlC,zpL,kr,zux,e1,kc,e2,e3,e4]
end Go.RR.FX
namespace Go.RR.FX
open Go Go.RR Go.RR.M
theorem zyc {α:Type} [DecidableEq α]:∀ {l m:List α},all2 (fun a b=>decide (a=b)) l m=decide (l=m)
 | [],[]=>rfl
 | [],_::_=>rfl
 | _::_,[]=>rfl
 | x::r,y::s=>by
  simp only [all2,zyc (l:=r) (m:=s)]
  rw [←Bool.decide_and]
  exact decide_eq_decide.2 (by simp)
theorem zDT (a b:Ds) (ha:a.length≤1000) (hv:∀ d∈a,d.vals.length≤1000000) (h:List Ob):acw C zao [dsV a,dsV b,.fn (.func zgX) [] []] h=some (.ret (.bool (decide (a=b))),h):=by
 rw [←zyc]
 exact zzL (C:=C) (n:=zao) (CT zbU) (enc:=zaj) (q:=fun a b=>decide (a=b)) (g:=zgX) (first:=[]) (cap:=[]) a b (by omega) (fun _=>⟨rfl,rfl⟩) ⟨_,rfl,rfl⟩ (f':=.fn (.func zgX) [] []) (h:=h) rfl (fun x hx y _ h=>zCP x y (hv x hx) h)
def ordI (n:Int) (L:Nat):Nat:=((n.tmod L+L).tmod L).toNat
theorem zEI {n:Int} {L:Nat} (h:0<L):(ordI n L:Int)=(n.tmod L+L).tmod L∧ordI n L<L∧(-(L:Int)<n.tmod L∧n.tmod L<L):=by
 have hL:(0:Int)<L:=by omega
 have h1:=Int.tmod_lt_of_pos n hL
 have h2:-(L:Int)<n.tmod L:=by
  have:=Int.lt_tmod_of_pos n hL
  exact this
 have h3:=Int.tmod_lt_of_pos (n.tmod L+L) hL
 have h4:0≤(n.tmod L+L).tmod L:=Int.tmod_nonneg _ (by omega)
 unfold ordI
 exact ⟨by omega,by omega,h2,h1⟩
theorem zCU {cs:List Con} (hcl:cs.length≤20) (hpos:0<cs.length) (hcs:∀ c∈cs,c150 c) {m0:Nat} (hm0:m0≤1000) (hRB:∀ c∈cs,zaC c m0=true) (ord:List Int) (hol:ord.length≤1000):∀ (n i:Nat) (l:Ds) (more:Bool) (h:List Ob),i+n=ord.length→okL l→l.length=m0 →
  ∃ l' more',evw C y0 zho [(0,zaW cs),(2,zab ord),(8,dsV l),(9,.bool more),(24,zab ord),(25,iv ord.length),(26,iv i)] h =
   some (.ext 2,[(0,zaW cs),(2,zab ord),(8,dsV l'),(9,.bool more'),(24,zab ord),(25,iv ord.length),(26,iv ord.length),(27,.bool false)],h)∧Steps cs l l'∧LeL l' l∧(more'=true→more=true∨tot l'<tot l):=by
 intro n
 induction n with
 | zero=>
  intro i l more h hin ok hlm
  have:i=ord.length:=by omega
  subst this
  rw [zpC]
  refine ⟨l,more,?_,.refl,LeL.refl ok,fun h=>.inl h⟩
  simp [zfP]
 | succ n ih=>
  intro i l more h hin ok hlm
  have hlt:i<ord.length:=by omega
  obtain ⟨x,hx⟩:∃ x,x=ord[i]:=⟨_,rfl⟩
  have hx1:ord[i]? = some x:=by simp [hlt,hx]
  have hx2:∀ h:i<ord.length,ord[i]'h=x:=fun _=>hx.symm
  have hi4:(i:Int)<ord.length:=by omega
  have hwr:=zac hlt (by omega)
  obtain ⟨o1,o2,o3,o4⟩:=zEI (n:=x) hpos
  obtain ⟨p,hp⟩:∃ p,p=ordI x cs.length:=⟨_,rfl⟩
  rw [←hp] at o1 o2
  have w2:IntKind.i64.wrap (x.tmod cs.length+cs.length)=x.tmod cs.length+cs.length:=wrap64 (by omega) (by omega)
  have hL0:¬cs=[]:=fun e=>by rw [e] at hpos;simp at hpos
  obtain ⟨c,hc⟩:∃ c,c=cs[p]:=⟨_,rfl⟩
  have hcm:c∈cs:=by rw [hc];exact List.getElem_mem o2
  have hc1:cs[p]? = some c:=by simp [o2,hc]
  have hc2:∀ h:p<cs.length,cs[p]'h=c:=fun _=>hc.symm
  have hp4:(p:Int)<cs.length:=by omega
  have es:=fun h=>zrP c (hcs c hcm) l (zo3 ok (by omega)) h
  have eF:zru c l=(zai c l,0):=by
   unfold zru
   rw [hlm,hRB c hcm,zsf ok]
   rfl
  rw [eF] at es
  obtain ⟨l',hl'⟩:∃ l',l'=zai c l:=⟨_,rfl⟩
  have hle:LeL l' l:=by rw [hl'];exact zkT ok
  rw [←hl'] at es
  have ee:=fun h=>zDT l' l (by have:=hle.1;omega) (fun d hd=>(zaB (hle.okl d hd)).2) h
  have hst:Steps cs l l':=by rw [hl'];exact .step .refl hcm
  obtain ⟨lf,mf,e2,s2,le2,k2⟩:=ih (i+1) l' (more||!(decide (l'=l))) h (by omega) hle.okl (by have:=hle.1;omega)
  simp only [Int.natCast_add,Int.cast_ofNat_Int] at e2
  refine ⟨lf,mf,?_,hst.trans s2,le2.trans hle,fun hm=>?_⟩
  ·rw [←e2,zpC]
   cases more with
   | true=>simp [zfP,hlt,hx1,hx2,hi4,hwr,hL0,w2,←o1,o2,hc1,hc2,hp4,es]
   | false=>simp [zfP,hlt,hx1,hx2,hi4,hwr,hL0,w2,←o1,o2,hc1,hc2,hp4,es,ee]
  ·have t1:=(zsg le2).1
   have t2:=(zsg hle)
   rcases k2 hm with k|k
   ·simp only [Bool.or_eq_true,Bool.not_eq_true',decide_eq_false_iff_not] at k
    rcases k with k|k
    ·exact .inl k
    ·have:=t2.2 k
     exact .inr (by omega)
   ·exact .inr (by omega)
theorem zDG {cs:List Con} (hcl:cs.length≤20) (hpos:0<cs.length) (hcs:∀ c∈cs,c150 c) {m0:Nat} (hm0:m0≤1000) (hRB:∀ c∈cs,zaC c m0=true) (ord:List Int) (hol:ord.length≤1000) (h:List Ob):∀ (n:Nat) (l:Ds),tot l≤n→okL l→l.length=m0 →
  ∃ l',evw C y0 zbv [(0,zaW cs),(2,zab ord),(8,dsV l),(9,.bool true)] h =
   some (.ext 0,[(0,zaW cs),(2,zab ord),(8,dsV l'),(23,.bool false)],h)∧Steps cs l l'∧LeL l' l:=by
 have key:∀ (l l':Ds) (m:Bool) (z:Option Rs),(evw C y0 zho [(0,zaW cs),(2,zab ord),(8,dsV l),(9,.bool false),(24,zab ord),(25,iv ord.length),(26,iv 0)] h =
   some (.ext 2,[(0,zaW cs),(2,zab ord),(8,dsV l'),(9,.bool m),(24,zab ord),(25,iv ord.length),(26,iv ord.length),(27,.bool false)],h))→evw C y0 zbv [(0,zaW cs),(2,zab ord),(8,dsV l'),(9,.bool m),(24,zab ord),(25,iv ord.length),(26,iv ord.length),(27,.bool false)] h=z→evw C y0 zbv [(0,zaW cs),(2,zab ord),(8,dsV l),(9,.bool true)] h=z:=fun l l' m z e1 e2=>by
  rw [←e2]
  conv=>lhs;rw [zge]
  simp [zeq,e1]
 have norm:∀ (l':Ds) (m:Bool),evw C y0 zbv [(0,zaW cs),(2,zab ord),(8,dsV l'),(9,.bool m),(24,zab ord),(25,iv ord.length),(26,iv ord.length),(27,.bool false)] h=evw C y0 zbv [(0,zaW cs),(2,zab ord),(8,dsV l'),(9,.bool m)] h:=fun l' m=>by
  rw [zge]
  conv=>rhs;rw [zge]
  congr 1
  unfold zeq
  rw [zDJ,zDJ]
  congr 1
  simp
 have stop:∀ l':Ds,evw C y0 zbv [(0,zaW cs),(2,zab ord),(8,dsV l'),(9,.bool false)] h=some (.ext 0,[(0,zaW cs),(2,zab ord),(8,dsV l'),(23,.bool false)],h):=fun l'=>by
  rw [zge]
  simp [zeq]
 intro n
 induction n with
 | zero=>
  intro l hn ok hlm
  obtain ⟨l',m,e,s,le,k⟩:=zCU hcl hpos hcs hm0 hRB ord hol ord.length 0 l false h (by omega) ok hlm
  simp only [Int.cast_ofNat_Int] at e
  cases m with
  | true=>rcases k rfl with q|q;cases q;omega
  | false=>exact ⟨l',key l l' false _ e (by rw [norm,stop]),s,le⟩
 | succ n ih=>
  intro l hn ok hlm
  obtain ⟨l',m,e,s,le,k⟩:=zCU hcl hpos hcs hm0 hRB ord hol ord.length 0 l false h (by omega) ok hlm
  simp only [Int.cast_ofNat_Int] at e
  cases m with
  | false=>exact ⟨l',key l l' false _ e (by rw [norm,stop]),s,le⟩
  | true=>
   have hlt:tot l'<tot l:=by rcases k rfl with q|q;cases q;exact q
   obtain ⟨lf,e2,s2,le2⟩:=ih l' (by omega) le.okl (by have:=le.1;omega)
   exact ⟨lf,key l l' true _ e (by rw [norm];exact e2),s.trans s2,le2.trans le⟩
def OrdA (cs:List Con) (l:Ds) (a:Ds) (e:Int):Prop:=
 if zbH cs l=true then e=0∧Steps cs l a∧fixed cs a else a=[]∧e=1
theorem zwl (cs:List Con) (hcl:cs.length≤20) (hcs:∀ c∈cs,c150 c) (l:Ds) (hl:zmK l) (ord:List Int) (hol:ord.length≤1000):∃ a e,OrdA cs l a e∧∀ h,acw C zgQ [zaW cs,dsV l,zab ord] h=some (.ret (.tup [dsV a,iv e]),h):=by
 have kr:=fun h=>zv7 cs hcs (by omega) l hl h
 cases hr:zbH cs l with
 | false=>
  rw [hr] at kr
  refine ⟨[],1,by unfold OrdA;rw [hr,if_neg (by simp)];exact ⟨rfl,rfl⟩,fun h=>?_⟩
  refine zap (h':=[]) (v:=.tup [.nsl 2,iv 1]) (v':=.tup [dsV [],iv 1]) (CT ztg) rfl rfl ?_ rfl (by simp)
  simp [zaa,zfl,zjr,kr]
 | true=>
  rw [hr] at kr
  have hr2:=hr
  unfold zbH at hr2
  simp only [Bool.and_eq_true,decide_eq_true_eq] at hr2
  obtain ⟨⟨h16,hRB⟩,hma⟩:=hr2
  have hRB2:=List.all_eq_true.1 hRB
  have ok:=zgu hma
  have kc:=fun h=>ztZ ok (by omega) h
  unfold OrdA
  simp only [hr,if_true]
  have last:∀ l':Ds,Steps cs l l'→LeL l' l→∃ a n,(∀ h,acw C zeD [zaW cs,dsV l'] h=some (.ret (.tup [dsV a,iv n,iv 0]),h))∧Steps cs l a∧fixed cs a:=fun l' s le=>by
   have ok':=le.okl
   obtain ⟨a,n,e,A,k⟩:=zuJ cs hcl hcs l' (zo3 ok' (by have:=le.1;omega))
   have hr':zbH cs l'=true:=by
    unfold zbH
    rw [le.1,hRB,zsf ok']
    simp [h16]
   unfold zEo at A
   rw [hr',if_pos rfl] at A
   obtain ⟨rfl,s2,f2,-⟩:=A
   exact ⟨a,n,k,s.trans s2,f2⟩
  have fin:∀ (a:Ds) (h3:List Ob),zpt (evw C y0) zfl [zaW cs,dsV l,zab ord] []=some (.ret (.tup [dsV a,iv 0]),h3)→∀ h,acw C zgQ [zaW cs,dsV l,zab ord] h=some (.ret (.tup [dsV a,iv 0]),h):=fun a h3 e h=>
   zap (h':=h3) (v:=.tup [dsV a,iv 0]) (v':=.tup [dsV a,iv 0]) (CT ztg) rfl rfl e rfl (by simp)
  rcases Nat.eq_zero_or_pos cs.length with h0|hpos
  ·have hcs0:cs=[]:=List.length_eq_zero_iff.1 h0
   obtain ⟨a,n,k,s,f⟩:=last l .refl (LeL.refl ok)
   refine ⟨a,0,⟨rfl,s,f⟩,fin a [] ?_⟩
   have stop:evw C y0 zbv [(0,zaW cs),(2,zab ord),(8,dsV l),(9,.bool false)] []=some (.ext 0,[(0,zaW cs),(2,zab ord),(8,dsV l),(23,.bool false)],[]):=by
    rw [zge]
    simp [zeq]
   have hg:¬(0:Int)<cs.length:=by omega
   subst hcs0
   simp [zaa,zfl,zjr] at kr stop k ⊢
   simp [zaa,zfl,zjr,kr,kc,stop,k]
  ·obtain ⟨l',e1,s1,le1⟩:=zDG hcl hpos hcs (m0:=l.length) (by omega) hRB2 ord hol [] (tot l) l (Nat.le_refl _) ok rfl
   obtain ⟨a,n,k,s,f⟩:=last l' s1 le1
   refine ⟨a,0,⟨rfl,s,f⟩,fin a [] ?_⟩
   simp [zaa,zfl,zjr,kr,kc,hpos,e1,k]
def zBm (d:Dm):Bool:=decide (150<(d.vals.length:Int))
def l12L (l:Ds):Bool:=decide (20<(l.length:Int))||l.any zBm
theorem zCF {l:Ds} (hl:l.length≤1000):∀ (n i:Nat) (h:List Ob),i+n=l.length →
  ∃ fr' h',evw C y0 zig [(28,dsV l),(29,iv l.length),(30,iv i)] h=some (if (l.drop i).any zBm=true then (.ret,[(4,.bool true)],h') else (.ext 0,fr',h')):=by
 intro n
 induction n with
 | zero=>
  intro i h hin
  have:i=l.length:=by omega
  subst this
  refine ⟨[(28,dsV l),(29,iv l.length),(30,iv l.length),(31,.bool false)],h,?_⟩
  rw [zjC,List.drop_length]
  simp [zdW]
 | succ n ih=>
  intro i h hin
  have hlt:i<l.length:=by omega
  obtain ⟨d,hd⟩:∃ d,d=l[i]:=⟨_,rfl⟩
  have hd1:l[i]? = some d:=by simp [hlt,hd]
  have hd2:∀ h:i<l.length,l[i]'h=d:=fun _=>hd.symm
  have hi4:(i:Int)<l.length:=by omega
  have hwr:=zac hlt (by omega)
  obtain ⟨fr',h',ih⟩:=ih (i+1) (h++[.row 2 [zaj d]]) (by omega)
  simp only [Int.natCast_add,Int.cast_ofNat_Int] at ih
  rw [List.drop_eq_getElem_cons hlt,List.any_cons,←hd]
  by_cases c:(150:Int)<d.vals.length
  ·have e:zBm d=true:=by unfold zBm;simpa using c
   refine ⟨[],h++[.row 2 [zaj d]],?_⟩
   rw [e,Bool.true_or,if_pos rfl,zjC]
   simp [zdW,hlt,hd1,hd2,hi4,c]
  ·have e:zBm d=false:=by unfold zBm;simpa using c
   refine ⟨fr',h',?_⟩
   rw [e,Bool.false_or,←ih,zjC]
   simp [zdW,hlt,hd1,hd2,hi4,hwr,c]
def zCon:V:=.agg [iv 0,.nsl 1,.nsl 1,iv 0,iv 0,.nsl 1]
def zts:V:=.agg [iv 0,.sl 1 [],.sl 1 [],iv 0,iv 0,.sl 1 []]
theorem zwK (l:Ds) (hl:l.length≤9223372036854775807) (h:List Ob):acw C zix [zCon,dsV l] h=some (.ret (.bool (l12L l)),h):=by
 unfold l12L
 by_cases c:(20:Int)<l.length
 ·have e:decide ((20:Int)<l.length)=true:=by simpa using c
  rw [e,Bool.true_or]
  refine zap (a2:=[zts,dsV l]) (h':=[.row 6 [zts]]) (v:=.bool true) (v':=.bool true) (CT zpy) rfl rfl ?_ rfl (by simp)
  simp [zaa,zgi,ziS,zts,c]
 ·have e:decide ((20:Int)<l.length)=false:=by simpa using c
  rw [e,Bool.false_or]
  obtain ⟨fr',h',k⟩:=zCF (l:=l) (by omega) l.length 0 [.row 6 [zts]] (by omega)
  rw [List.drop_zero] at k
  simp only [Int.cast_ofNat_Int] at k
  refine zap (a2:=[zts,dsV l]) (h':=h') (v:=.bool (l.any zBm)) (v':=.bool (l.any zBm)) (CT zpy) rfl rfl ?_ rfl (by simp)
  unfold zts at k ⊢
  cases hb:l.any zBm with
  | true=>
   rw [hb,if_pos rfl] at k
   simp [zaa,zgi,ziS,c,k]
  | false=>
   rw [hb,if_neg (by simp)] at k
   simp [zaa,zgi,ziS,c,k]
def l17L (cs:List Con) (l:Ds):Bool:=(zph cs []||decide (20<(cs.length:Int)))||l12L l
theorem zEs (cs:List Con) (h:List Ob):acw C zfM [zaW cs,.nsl 1] h=some (.ret (.bool (zph cs [])),h):=
 zgG (a2:=[zaW cs,zab []]) (CT zqg) rfl rfl rfl (gLarge cs [] []) rfl
theorem zwN (cs:List Con) (l:Ds) (hl:l.length≤9223372036854775807) (h:List Ob):acw C ziK [zaW cs,dsV l] h=some (.ret (.bool (l17L cs l)),h):=by
 have k1:=fun h=>zEs cs h
 have k2:=fun h=>zwK l hl h
 unfold zCon at k2
 unfold l17L
 refine zar (v:=.bool _) (CT zuu) rfl rfl (fun _=>rfl) (by simp) ⟨[],?_⟩
 cases c1:zph cs [] with
 | true=>
  rw [c1] at k1
  simp [zaa,zfJ,ziA,k1]
 | false=>
  rw [c1] at k1
  by_cases c2:(20:Int)<cs.length
  ·have e:decide ((20:Int)<cs.length)=true:=by simpa using c2
   rw [e]
   simp [zaa,zfJ,ziA,k1,c2]
  ·have e:decide ((20:Int)<cs.length)=false:=by simpa using c2
   rw [e]
   simp [zaa,zfJ,ziA,k1,c2,k2]
theorem zEy {cs:List Con} {l:Ds} (h:l17L cs l=false) (hlive:∀ d∈l,d.live<18446744073709551616):cs.length≤20∧(∀ c∈cs,c150 c)∧zmK l∧l.length≤20:=by
 unfold l17L l12L zph at h
 simp only [Bool.or_eq_false_iff,decide_eq_false_iff_not] at h
 obtain ⟨⟨⟨h1,h2,h3⟩,h4⟩,h5,h6⟩:=h
 refine ⟨by omega,fun c hc=>?_,⟨by omega,fun d hd=>⟨hlive d hd,?_⟩⟩,by omega⟩
 ·have:=List.any_eq_false.1 h3 c hc
  unfold zmu at this
  simp only [Bool.or_eq_true,decide_eq_true_eq,not_or] at this
  exact ⟨by omega,by omega,by omega⟩
 ·have:=List.any_eq_false.1 h6 d hd
  unfold zBm at this
  simp only [decide_eq_true_eq] at this
  omega
end Go.RR.FX
namespace Go.RR
theorem st_bit {h:List Ob} {id m:Nat} {L L':List Bool} {b:Bool} (e:h[id]? = some (.row 64 [.agg (L.map V.bool)])) (hm:m<L.length) (hL:L.set m b=L'):stV h 1 (.ptr id 0 m 1) (.bool b)=some (.und,some (id,.row 64 [.agg (L'.map V.bool)])):=by
 subst hL
 have e1:zaF h id 1=some (64,[.agg (L.map V.bool)]):=by simp [zaF,e]
 have hs:(L.map V.bool).take m++V.bool b::(L.map V.bool).drop (m+1)=(L.set m b).map V.bool:=by
  rw [List.set_eq_take_append_cons_drop,if_pos hm]
  simp [List.map_take,List.map_drop]
 have hm':m+1≤L.length:=by omega
 rw [v_st rfl rfl,e1]
 simp [hm',hs]
theorem zzK {bs:List Bool} {m:Nat} (h:m<bs.length):zwF (bs.drop m)=bs[m].toNat+2*zwF (bs.drop (m+1)):=by
 rw [List.drop_eq_getElem_cons h];rfl
theorem zEd {α:Type} (pre:List α) (c b:α) (r:List α):(pre++c::r).set pre.length b=pre++b::r:=by
 rw [List.set_append_right _ _ (Nat.le_refl _),Nat.sub_self]
 rfl
end Go.RR
namespace Go.RR.M
open Go Go.RR
theorem zxL (bs:List Bool) (hb:bs.length=64):∀ (m:Nat) (k:Int),m≤64→k=m-1 →
  evw C y0 zln [(1,.ptr 0 0 0 1),(3,uv (zwF (bs.drop m))),(4,iv k)] [.row 64 [.agg (bs.map V.bool)]]=some (.ext 0,[(1,.ptr 0 0 0 1),(3,uv (zwF bs)),(4,iv (-1)),(6,.bool false)],[.row 64 [.agg (bs.map V.bool)]])
 | 0,k,hm,e=>by
  obtain rfl:k=-1:=by omega
  rw [List.drop_zero,zlM]
  simp [zgl]
 | m+1,k,hm,e=>by
  obtain rfl:k=m:=by omega
  have hlt:m<bs.length:=by omega
  have hlt':(m:Int)<64:=by omega
  have ih:=zxL bs hb m (m-1) (by omega) rfl
  rw [zzK hlt] at ih
  have hv:=zAQ (bs.drop (m+1))
  rw [List.length_drop,hb] at hv
  have hp:2 ^ (64-(m+1))≤2 ^ 63:=Nat.pow_le_pow_right (by omega) (by omega)
  obtain ⟨X,hX⟩:∃ X,X=zwF (bs.drop (m+1)):=⟨_,rfl⟩
  rw [←hX] at ih hv ⊢
  have w1:IntKind.u64.wrap (2*(X:Int))=((2*X:Nat):Int):=by rw [zlr (by omega) (by omega)];omega
  have w2:IntKind.i64.wrap ((m:Int)-1)=(m:Int)-1:=wrap64 (by omega) (by omega)
  have h3:bs[m]? = some bs[m]:=by simp [hlt]
  obtain ⟨Y,hY⟩:∃ Y,Y=2*X:=⟨_,rfl⟩
  rw [←hY] at w1
  cases hc:bs[m] with
  | true=>
   have w3:IntKind.u64.wrap ((Y:Int)+1)=((Y+1:Nat):Int):=by rw [zlr (by omega) (by omega)];omega
   rw [hc] at ih h3
   rw [←hY,show Bool.toNat true+Y=Y+1 by simp;omega] at ih
   obtain ⟨Z,hZ⟩:∃ Z,Z=Y+1:=⟨_,rfl⟩
   rw [←hZ] at ih w3
   rw [zlM,←ih]
   simp [zgl,w1,w2,w3,hc,hlt',hlt]
  | false=>
   rw [hc] at ih h3
   rw [←hY,show Bool.toNat false+Y=Y by simp] at ih
   rw [zlM,←ih]
   simp [zgl,w1,w2,hc,hlt',hlt]
theorem zAJ (bs:List Bool) (hb:bs.length=64) (h:List Ob):acw C zlT [.agg (bs.map V.bool)] h=some (.ret (uv (zwF bs)),h):=by
 have lp:=zxL bs hb 64 63 (Nat.le_refl _) rfl
 rw [List.drop_of_length_le (by omega)] at lp
 obtain ⟨B,hB⟩:∃ B,B=zwF bs:=⟨_,rfl⟩
 rw [←hB] at lp ⊢
 simp only [zwF,uv,Int.cast_ofNat_Int] at lp
 have hz:∀ g n,frz g (n+2) (.agg (bs.map V.bool))=some (.agg (bs.map V.bool)):=fun g n=>by
  simp only [frz]
  rw [znz fun x hx=>by obtain ⟨b,-,rfl⟩:=List.mem_map.1 hx;rfl]
  rfl
 have hd:dataL [V.agg (bs.map V.bool)]=true:=by
  simp only [dataL,V.data,Bool.and_true]
  exact zrW fun x hx=>by obtain ⟨b,-,rfl⟩:=List.mem_map.1 hx;rfl
 have hne:bs≠[]:=by intro e;rw [e] at hb;simp at hb
 obtain ⟨b0,br,hbr⟩:=List.exists_cons_of_ne_nil hne
 refine zap (a2:=[.agg (bs.map V.bool)]) (h':=[.row 64 [.agg (bs.map V.bool)]]) (v:=uv B) (CT zxw) rfl ?_ ?_ rfl (by rw [hd];rfl)
 ·show zdP (frz h (10+2)) _=_
  simp only [zdP,hz]
 ·have hbox:∀ g d r fr,get fr 0=.agg (bs.map V.bool)→zak (crw C y0) (⟨some d,none,.box (.t 0)⟩::r) fr g=zak (crw C y0) r ((d,.ptr g.length 0 0 1)::fr) (g++[.row 64 [.agg (bs.map V.bool)]]):=by
   intro g d r fr hg
   subst hbr
   simp [hg]
   simp at hb
   rw [hb]
  simp [zaa,zo4,ztd,hbox,lp]
end Go.RR.M
