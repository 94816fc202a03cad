/- The second reading's table for this seat: the functions that are known by the library's contracts. -/
import Derived.Test.YtlligemlmccfnaaGreatDoorR5
import Derived.Test.YtlligemlmccfnaaGreatDoorRIx
import Derived.Test.YtlligemlmccfnaaGreatDoorRN
import Derived.Laws.MathBits
import Derived.Lib.BitFns
import Derived.Shelf.Spec.TrailingZeros
import Derived.Lib.TrailingZeros
set_option linter.unusedSimpArgs false
set_option linter.unusedVariables false
set_option maxHeartbeats 8000000
set_option maxRecDepth 100000
namespace Go.RR.M
open Go Go.RR
def S (f:Nat) (a:List V):Option V:=
 if f=zas then zuW 1 8 a
 else if f=zaV then (match a with
  | [.int .u64 x]=>if 0≤x∧x<18446744073709551616 then some (.int .i64 (Go.Lib.ctz 64 x.toNat)) else none
  | _=>none)
 else if f=zcM then (match a with
  | [.int .u64 x]=>if 0≤x∧x<18446744073709551616 then some (.int .i64 (Go.Lib.bitLen x.toNat)) else none
  | _=>none)
 else none
def HB (f:Nat) (a:List V) (h:List Ob):Option (Out×List Ob):=
 if f=zbm then zzS a h
 else none
def C0:Cx:=⟨T,S,HB⟩
def TN1 (f:Nat):Option FN:=
 if f=zav then some zaP
 else none
noncomputable def C:Cx:=⟨T,S,HN C0 TN1⟩
theorem CT {f:Nat} {F:F} (h:T f=some F):C.T f=some F:=h
end Go.RR.M
namespace Go.RR
def zCT (r a b:Int):Bool:=if r=0 then decide (a=b) else if r=1 then !decide (a=b) else if r=2 then decide (a<b) else if r=3 then decide (a≤b) else if r=4 then decide (b<a) else if r=5 then decide (b≤a) else false
def zDe (n:Int):Prop:=-1048576≤n∧n≤1048576
theorem zAA {a b:Int} (ha:zDe a) (hb:zDe b):-1099511627776≤a*b∧a*b≤1099511627776:=by
 obtain ⟨a1,a2⟩:=ha
 obtain ⟨b1,b2⟩:=hb
 constructor
 ·rcases Int.le_total 0 a with h|h
  ·have h1:a*(-1048576)≤a*b:=Int.mul_le_mul_of_nonneg_left b1 h
   omega
  ·have h1:a*1048576≤a*b:=Int.mul_le_mul_of_nonpos_left h b2
   omega
 ·rcases Int.le_total 0 a with h|h
  ·have h1:a*b≤a*1048576:=Int.mul_le_mul_of_nonneg_left b2 h
   omega
  ·have h1:a*b≤a*(-1048576):=Int.mul_le_mul_of_nonpos_left h b1
   omega
end Go.RR
namespace Go.RR.M
open Go Go.RR
theorem zyL (a r b:Int) (h:List Ob):acw C zkj [iv a,iv r,iv b] h=some (.ret (.bool (zCT r a b)),h):=by
 refine zar (v:=.bool (zCT r a b)) (CT zvi) rfl rfl (fun _=>rfl) (by simp) ?_
 unfold zCT
 by_cases c0:r=0
 ·subst c0;simp [zaa,zcm,zc5,ieq]
 by_cases c1:r=1
 ·subst c1;simp [zaa,zcm,zc5,ine]
 by_cases c2:r=2
 ·subst c2;simp [zaa,zcm,zc5]
 by_cases c3:r=3
 ·subst c3;simp [zaa,zcm,zc5]
 by_cases c4:r=4
 ·subst c4;simp [zaa,zcm,zc5]
 by_cases c5:r=5
 ·subst c5;simp [zaa,zcm,zc5]
 simp [zaa,zcm,zc5,c0,c1,c2,c3,c4,c5,ieq]
end Go.RR.M
namespace Go.RR
def zcB (most:Int) (l:List Int):Bool:=l.all fun n=>decide (-most≤n)&&decide (n≤most)
theorem zyJ (most:Int) (l:List Int):(!(l.any fun n=>decide (n < -most)||decide (most<n)))=zcB most l:=by
 unfold zcB
 induction l with
 | nil=>rfl
 | cons x r ih=>
  simp only [List.any_cons,List.all_cons,Bool.not_or,ih]
  congr 1
  by_cases h1:x < -most<;>by_cases h2:most<x<;>simp [h1,h2]<;>omega
def vOK (vars:Int):List Int→List Int→Bool
 | _,[]=>true
 | pre,v::r=>decide (0≤v)&&decide (v<vars)&&!(pre.any fun x=>v==x)&&vOK vars (pre++[v]) r
end Go.RR
namespace Go.RR.M
open Go Go.RR
theorem zqU (l:List Int) (x:Int) (hl:l.length≤4611686018427387904) (h:List Ob):acw C zaz [zab l,iv x] h=some (.ret (.bool (l.any fun y=>x==y)),h):=
 contains (C:=C) (n:=zbe) (CT zgb) (CT zeu) (enc:=V.int .i64) (q:=fun a b=>a==b) zAF l x hl (fun _ _=>zqD) Fz.int h
theorem zCx (n most:Int) (h0:0≤most) (h1:most≤9223372036854775807) (h:List Ob):acw C zci [iv n,.pin (iv most) 0] h=some (.ret (.bool (decide (n < -most)||decide (most<n))),h):=by
 refine zap (h':=[]) (v:=.bool (decide (n < -most)||decide (most<n))) (CT zrA) rfl rfl ?_ rfl (by simp)
 have w1:IntKind.i64.wrap (0-most)=-most:=by rw [wrap64 (by omega) (by omega)];omega
 have w2:IntKind.i64.wrap (-most)=-most:=wrap64 (by omega) (by omega)
 by_cases c1:n < -most<;>simp [zaa,zh2,zmy,w1,w2,c1]
theorem within (l:List Int) (most:Int) (h0:0≤most) (h1:most≤9223372036854775807) (hl:l.length≤4611686018427387904) (h:List Ob):acw C zdz [zab l,iv most] h=some (.ret (.bool (zcB most l)),h):=by
 refine zap (h':=[.row 1 [iv most]]) (v:=.bool (zcB most l)) (CT ztG) rfl rfl ?_ rfl (by simp)
 have c1:=zfr (C:=C) (m:=zan) (n:=zaH) (enc:=V.int .i64) (CT zb1) (CT zbw) (g:=zci) (first:=[]) (cap:=[.pin (iv most) 0]) l hl (fun _ _=>zqD) (f':=.fn (.func zci) [] [.ptr 0 0 0 1]) (h:=[.row 1 [iv most]]) rfl (fun _=>rfl) (p:=fun n=>decide (n < -most)||decide (most<n)) (fun a _=>zCx a most h0 h1 [])
 rw [←zyJ]
 simp [zaa,zlv,zoE,c1]
theorem ztx (l:List Int) (most:Int) (h0:0≤most) (h1:most≤9223372036854775807) (hl:l.length≤4611686018427387904) :
  evw C y0 zk2 [(0,zab l),(1,iv most),(5,iv 0)] []=some (if zcB most l=true then (.ext 0,[(0,zab l),(1,iv most),(5,iv l.length),(9,.bool false)],[]) else (.ret,[(4,.bool false)],[])):=by
 have w1:IntKind.i64.wrap (0-most)=-most:=by rw [wrap64 (by omega) (by omega)];omega
 have w2:IntKind.i64.wrap (-most)=-most:=wrap64 (by omega) (by omega)
 refine zuC (C:=C) (b:=zda) l (fun i=>[(0,zab l),(1,iv most),(5,iv i)]) [] (fun n=>decide (-most≤n)&&decide (n≤most)) _ _ ?_ (by simp) (by simp) fun i hi=>?_
 ·simp [zda]
 ·have hw:=zac hi (by omega)
  by_cases c1:l[i] < -most
  ·have c1':¬(-most≤l[i]):=by omega
   simp [zda,hi,w1,w2,hw,c1,c1']
  ·have c1':-most≤l[i]:=by omega
   by_cases c2:most<l[i]
   ·have c2':¬(l[i]≤most):=by omega
    simp [zda,hi,w1,w2,hw,c1,c1',c2,c2']
   ·have c2':l[i]≤most:=by omega
    simp [zda,hi,w1,w2,hw,c1,c1',c2,c2']
theorem ztc (l:List Int) (most:Int) (h0:0≤most) (h1:most≤9223372036854775807) (hl:l.length≤4611686018427387904) (h:List Ob):acw C zgV [zab l,iv most] h=some (.ret (.bool (zcB most l)),h):=by
 refine zap (h':=[]) (v:=.bool (zcB most l)) (CT zw9) rfl rfl ?_ rfl (by simp)
 have hloop:=ztx l most h0 h1 hl
 rcases Bool.eq_false_or_eq_true (zcB most l) with hb|hb
 ·simp only [hb,if_true] at hloop
  simp [zaa,zme,zpp,hb,hloop]
 ·simp only [hb,Bool.false_eq_true,if_false] at hloop
  simp [zaa,zme,zpp,hb,hloop]
abbrev zk6 (c:Con) (vars:Int):V:=.agg [iv c.kind,zab c.vars,zab c.coefs,iv c.rel,iv c.const,zab c.nums,iv vars]
theorem zty (c:Con) (vars:Int) (hl:c.vars.length≤4611686018427387904):∀ (d i:Nat),i+d=c.vars.length →
  evw C y0 zb8 [(3,.ptr 0 0 0 1),(24,zab c.vars),(25,iv c.vars.length),(26,iv i)] [.row 7 [zk6 c vars]] =
   some (if vOK vars (c.vars.take i) (c.vars.drop i)=true then (.ext 0,[(3,.ptr 0 0 0 1),(24,zab c.vars),(25,iv c.vars.length),(26,iv c.vars.length),(27,.bool false)],[.row 7 [zk6 c vars]]) else (.ret,[(6,.bool false)],[.row 7 [zk6 c vars]])):=by
 intro d
 induction d with
 | zero=>
  intro i hi
  have:i=c.vars.length:=by omega
  subst this
  rw [zev,List.drop_length]
  simp [zaE,vOK]
 | succ d ih=>
  intro i hi
  have hlt:i<c.vars.length:=by omega
  have hw:=zac hlt (by omega)
  have ih:=ih (i+1) (by omega)
  have hc:=zqU (c.vars.take i) c.vars[i] (by rw [List.length_take];omega)
  simp only [Int.natCast_add,Int.cast_ofNat_Int,List.take_succ_eq_append_getElem hlt] at ih
  simp only [zab,List.map_take] at hc
  rw [zev,List.drop_eq_getElem_cons hlt]
  simp only [vOK]
  by_cases c1:c.vars[i]<0
  ·have c1':¬(0≤c.vars[i]):=by omega
   simp [zaE,hlt,c1,c1']
  have c1':0≤c.vars[i]:=by omega
  by_cases c2:vars≤c.vars[i]
  ·have c2':¬(c.vars[i]<vars):=by omega
   simp [zaE,hlt,c1,c1',c2,c2']
  have c2':c.vars[i]<vars:=by omega
  have hle:i≤c.vars.length:=by omega
  rcases Bool.eq_false_or_eq_true ((c.vars.take i).any fun x=>c.vars[i]==x) with hb|hb
  ·rw [hb] at hc
   simp only [hb]
   simp [zaE,hlt,c1,c1',c2,c2',hc,hle]
  ·rw [hb] at hc
   simp only [hb,c1',c2',decide_true,Bool.true_and,Bool.not_false,←ih]
   simp [zaE,hlt,c1,c1',c2,c2',hc,hle,hw]
def zfq (c:Con) (vars least most:Int):Bool:=decide (least≤c.vars.length)&&decide (c.vars.length≤most)&&vOK vars [] c.vars
theorem variables (c:Con) (vars least most:Int) (hl:c.vars.length≤4611686018427387904) (h:List Ob):acw C zax [zk6 c vars,iv least,iv most] h=some (.ret (.bool (zfq c vars least most)),h):=by
 refine zap (h':=[.row 7 [zk6 c vars]]) (v:=.bool (zfq c vars least most)) (CT zlD) rfl rfl ?_ rfl (by simp)
 have hloop:=zty c vars hl c.vars.length 0 (by omega)
 simp only [List.drop_zero,List.take_zero,Int.cast_ofNat_Int] at hloop
 unfold zfq
 by_cases c1:(c.vars.length:Int)<least
 ·have c1':¬(least≤c.vars.length):=by omega
  simp [zaa,zaR,zbb,c1,c1']
 have c1':least≤c.vars.length:=by omega
 by_cases c2:most<(c.vars.length:Int)
 ·have c2':¬((c.vars.length:Int)≤most):=by omega
  simp [zaa,zaR,zbb,c1,c1',c2,c2']
 have c2':(c.vars.length:Int)≤most:=by omega
 rcases Bool.eq_false_or_eq_true (vOK vars [] c.vars) with hb|hb
 ·simp only [hb,if_true] at hloop
  simp [zaa,zaR,zbb,c1,c1',c2,c2',hloop,hb]
 ·simp only [hb,Bool.false_eq_true,if_false] at hloop
  simp [zaa,zaR,zbb,c1,c1',c2,c2',hloop,hb]
def zw2 (c:Con) (but:Int):Bool:=decide ((c.coefs.length:Int)=c.vars.length-but)&&(zcB 1048576 c.coefs&&(!(c.coefs.any fun y=>(0:Int)==y)&&(decide (0≤c.rel)&&(decide (c.rel≤5)&&(zcB 1099511627776 [c.const]&&decide (c.nums.length=0))))))
theorem sum (c:Con) (vars but:Int) (hb0:0≤but∧but≤1) (hl:c.vars.length≤4611686018427387904) (hl2:c.coefs.length≤4611686018427387904) (h:List Ob):acw C zck [zk6 c vars,iv but] h=some (.ret (.bool (zw2 c but)),h):=by
 refine zap (h':=[.row 7 [zk6 c vars],.row 6 [zaq c]]) (v:=.bool (zw2 c but)) (CT zp5) rfl rfl ?_ rfl (by simp)
 have w1:IntKind.i64.wrap ((c.vars.length:Int)-but)=c.vars.length-but:=wrap64 (by omega) (by omega)
 have k1:=within c.coefs 1048576 (by omega) (by omega) hl2
 have k2:=zqU c.coefs 0 hl2
 have k3:=within [c.const] 1099511627776 (by omega) (by omega) (by simp)
 have k4:zii (.int .i64 0) [.int .i64 c.const]=some (zab [c.const]):=rfl
 unfold zw2
 by_cases c1:(c.coefs.length:Int)=c.vars.length-but
 ·rcases Bool.eq_false_or_eq_true (zcB 1048576 c.coefs) with c2|c2<;>rw [c2] at k1
  ·rcases Bool.eq_false_or_eq_true (c.coefs.any fun y=>(0:Int)==y) with c3|c3<;>rw [c3] at k2
   ·simp [zaa,zaO,zaZ,w1,k1,k2,c1,c2,c3]
   ·by_cases c4:0≤c.rel
    ·by_cases c5:c.rel≤5
     ·rcases Bool.eq_false_or_eq_true (zcB 1099511627776 [c.const]) with c6|c6<;>rw [c6] at k3
      ·by_cases c7:c.nums.length=0<;>simp [zaa,zaO,zaZ,w1,k1,k2,k3,k4,c1,c2,c3,c4,c5,c6,c7]
      ·simp [zaa,zaO,zaZ,w1,k1,k2,k3,k4,c1,c2,c3,c4,c5,c6]
     ·simp [zaa,zaO,zaZ,w1,k1,k2,k3,k4,c1,c2,c3,c4,c5]
    ·simp [zaa,zaO,zaZ,w1,k1,k2,k3,k4,c1,c2,c3,c4]
  ·simp [zaa,zaO,zaZ,w1,k1,k2,c1,c2]
 ·have c1':((c.coefs.length:Int)==c.vars.length-but)=false:=by simpa using c1
  simp [zaa,zaO,zaZ,w1,c1,c1']
def znA (c:Con) (least most:Int):Bool:=decide (c.coefs.length=0)&&(decide (c.rel=0)&&(decide (c.const=0)&&(decide (least≤c.nums.length)&&(decide ((c.nums.length:Int)≤most)&&zcB 1048576 c.nums))))
theorem bare (c:Con) (vars least most:Int) (hl:c.nums.length≤4611686018427387904) (h:List Ob):acw C za8 [zk6 c vars,iv least,iv most] h=some (.ret (.bool (znA c least most)),h):=by
 refine zap (h':=[.row 7 [zk6 c vars],.row 6 [zaq c]]) (v:=.bool (znA c least most)) (CT zpd) rfl rfl ?_ rfl (by simp)
 have k1:=within c.nums 1048576 (by omega) (by omega) hl
 unfold znA
 by_cases c1:c.coefs.length=0
 ·by_cases c2:c.rel=0
  ·by_cases c3:c.const=0
   ·by_cases c4:least≤c.nums.length
    ·by_cases c5:(c.nums.length:Int)≤most
     ·simp [zaa,zaU,za6,ieq,k1,c1,c2,c3,c4,c5]
     ·simp [zaa,zaU,za6,ieq,k1,c1,c2,c3,c4,c5]
    ·simp [zaa,zaU,za6,ieq,k1,c1,c2,c3,c4]
   ·simp [zaa,zaU,za6,ieq,k1,c1,c2,c3]
  ·simp [zaa,zaU,za6,ieq,k1,c1,c2]
 ·simp [zaa,zaU,za6,ieq,k1,c1]
def zu7 (c:Con):Prop:=c.vars.length≤4611686018427387904∧c.coefs.length≤4611686018427387904∧c.nums.length≤4611686018427387904
def zlt (c:Con) (vars:Int):Bool:=zfq c vars 1 8&&zw2 c 0
def zkE (c:Con) (vars:Int):Bool:=zfq c vars 3 3&&znA c 0 0
def zBY (c:Con) (vars:Int):Bool:=zfq c vars 2 9&&zw2 c 1
def zkQ (c:Con) (vars:Int):Bool:=zfq c vars 2 2&&znA c 1 96
def zlk (c:Con) (vars:Int):Bool:=zfq c vars 2 8&&znA c 0 0
def zrk (c:Con) (vars:Int):Bool:=zfq c vars 1 8&&(znA c 0 96&&decide (((c.nums.length:Int).tmod c.vars.length)=0))
theorem linear (c:Con) (vars:Int) (hl:zu7 c) (h:List Ob):acw C zcq [zk6 c vars] h=some (.ret (.bool (zlt c vars)),h):=by
 refine zap (h':=[.row 7 [zk6 c vars]]) (v:=.bool (zlt c vars)) (CT zmT) rfl rfl ?_ rfl (by simp)
 have k1:=variables c vars 1 8 hl.1
 have k2:=sum c vars 0 (by omega) hl.1 hl.2.1
 unfold zlt
 rcases Bool.eq_false_or_eq_true (zfq c vars 1 8) with c1|c1<;>rw [c1] at k1<;>simp [zaa,zdT,zhA,k1,k2,c1]
theorem product (c:Con) (vars:Int) (hl:zu7 c) (h:List Ob):acw C zca [zk6 c vars] h=some (.ret (.bool (zkE c vars)),h):=by
 refine zap (h':=[.row 7 [zk6 c vars]]) (v:=.bool (zkE c vars)) (CT zmH) rfl rfl ?_ rfl (by simp)
 have k1:=variables c vars 3 3 hl.1
 have k2:=bare c vars 0 0 hl.2.2
 unfold zkE
 rcases Bool.eq_false_or_eq_true (zfq c vars 3 3) with c1|c1<;>rw [c1] at k1<;>simp [zaa,zdG,zgC,k1,k2,c1]
theorem iff (c:Con) (vars:Int) (hl:zu7 c) (h:List Ob):acw C zdM [zk6 c vars] h=some (.ret (.bool (zBY c vars)),h):=by
 refine zap (h':=[.row 7 [zk6 c vars]]) (v:=.bool (zBY c vars)) (CT zpZ) rfl rfl ?_ rfl (by simp)
 have k1:=variables c vars 2 9 hl.1
 have k2:=sum c vars 1 (by omega) hl.1 hl.2.1
 unfold zBY
 rcases Bool.eq_false_or_eq_true (zfq c vars 2 9) with c1|c1<;>rw [c1] at k1<;>simp [zaa,zfI,zkh,k1,k2,c1]
theorem element (c:Con) (vars:Int) (hl:zu7 c) (h:List Ob):acw C zb9 [zk6 c vars] h=some (.ret (.bool (zkQ c vars)),h):=by
 refine zap (h':=[.row 7 [zk6 c vars]]) (v:=.bool (zkQ c vars)) (CT zmG) rfl rfl ?_ rfl (by simp)
 have k1:=variables c vars 2 2 hl.1
 have k2:=bare c vars 1 96 hl.2.2
 unfold zkQ
 rcases Bool.eq_false_or_eq_true (zfq c vars 2 2) with c1|c1<;>rw [c1] at k1<;>simp [zaa,zdF,zgB,k1,k2,c1]
theorem differ (c:Con) (vars:Int) (hl:zu7 c) (h:List Ob):acw C zcn [zk6 c vars] h=some (.ret (.bool (zlk c vars)),h):=by
 refine zap (h':=[.row 7 [zk6 c vars]]) (v:=.bool (zlk c vars)) (CT znL) rfl rfl ?_ rfl (by simp)
 have k1:=variables c vars 2 8 hl.1
 have k2:=bare c vars 0 0 hl.2.2
 unfold zlk
 rcases Bool.eq_false_or_eq_true (zfq c vars 2 8) with c1|c1<;>rw [c1] at k1<;>simp [zaa,zdZ,zhI,k1,k2,c1]
theorem table (c:Con) (vars:Int) (hl:zu7 c) (h:List Ob):acw C zcF [zk6 c vars] h=some (.ret (.bool (zrk c vars)),h):=by
 refine zap (h':=[.row 7 [zk6 c vars]]) (v:=.bool (zrk c vars)) (CT zoo) rfl rfl ?_ rfl (by simp)
 have k1:=variables c vars 1 8 hl.1
 have k2:=bare c vars 0 96 hl.2.2
 unfold zrk
 rcases Bool.eq_false_or_eq_true (zfq c vars 1 8) with c1|c1<;>rw [c1] at k1
 ·rcases Bool.eq_false_or_eq_true (znA c 0 96) with c2|c2<;>rw [c2] at k2
  ·have h1:(1:Int)≤c.vars.length:=by
    unfold zfq at c1
    simp only [Bool.and_eq_true,decide_eq_true_eq] at c1
    exact c1.1.1
   have h2:¬(c.vars=[]):=by intro e;rw [e] at h1;simp at h1
   have w1:IntKind.i64.wrap (((c.nums.length:Int).tmod c.vars.length))=(c.nums.length:Int).tmod c.vars.length:=by
    have:=hl.2.2
    have h3:(c.nums.length:Int).tmod c.vars.length=((c.nums.length % c.vars.length:Nat):Int):=by rfl
    have h4:c.nums.length % c.vars.length≤c.nums.length:=Nat.mod_le _ _
    rw [h3]
    exact wrap64 (by omega) (by omega)
   simp [zaa,zbN,zcG,k1,k2,c1,c2,h2,w1,ieq]
  ·simp [zaa,zbN,zcG,k1,k2,c1,c2]
 ·simp [zaa,zbN,zcG,k1,c1]
def zaC (c:Con) (vars:Int):Bool:=
 if c.kind=1 then zlt c vars else if c.kind=2 then zkE c vars else if c.kind=3 then zBY c vars else if c.kind=4 then zkQ c vars else if c.kind=5 then zlk c vars else if c.kind=6 then zrk c vars else false
theorem right (c:Con) (vars:Int) (hl:zu7 c) (h:List Ob):acw C zbR [zaq c,iv vars] h=some (.ret (.bool (zaC c vars)),h):=by
 have k1:=linear c vars hl
 have k2:=product c vars hl
 have k3:=iff c vars hl
 have k4:=element c vars hl
 have k5:=differ c vars hl
 have k6:=table c vars hl
 refine zar (v:=.bool (zaC c vars)) (CT zu1) rfl rfl (fun _=>rfl) (by simp) ?_
 unfold zaC
 by_cases c1:c.kind<1
 ·have e1:c.kind≠1:=by omega
  have e2:c.kind≠2:=by omega
  have e3:c.kind≠3:=by omega
  have e4:c.kind≠4:=by omega
  have e5:c.kind≠5:=by omega
  have e6:c.kind≠6:=by omega
  have c1':¬(1≤c.kind):=by omega
  simp [zaa,zbs,zbP,c1',e1,e2,e3,e4,e5,e6]
 by_cases c2:6<c.kind
 ·have e1:c.kind≠1:=by omega
  have e2:c.kind≠2:=by omega
  have e3:c.kind≠3:=by omega
  have e4:c.kind≠4:=by omega
  have e5:c.kind≠5:=by omega
  have e6:c.kind≠6:=by omega
  have c1':1≤c.kind:=by omega
  have c2':¬(c.kind≤6):=by omega
  simp [zaa,zbs,zbP,c1',c2',e1,e2,e3,e4,e5,e6]
 obtain ⟨kind,vs,cs,rel,const,nums⟩:=c
 dsimp only at c1 c2 k1 k2 k3 k4 k5 k6 ⊢
 have hk:kind=1∨kind=2∨kind=3∨kind=4∨kind=5∨kind=6:=by omega
 rcases hk with e|e|e|e|e|e<;>subst e
 ·simp [zaa,zbs,zbP,k1]
 ·simp [zaa,zbs,zbP,k2]
 ·simp [zaa,zbs,zbP,k3]
 ·simp [zaa,zbs,zbP,k4]
 ·simp [zaa,zbs,zbP,k5]
 ·simp [zaa,zbs,zbP,k6]
theorem zsu {α:Type} (l:List α) (p:α→Bool):(l.all fun y=>!p y)=!(l.any p):=by
 induction l with
 | nil=>rfl
 | cons x r ih=>simp only [List.all_cons,List.any_cons,Bool.not_or,ih]
theorem rr_l0 (c:Con) (vars:Int) (hl:c.vars.length≤4611686018427387904) (i:Nat) (hi:i<c.vars.length) :
  evw C y0 zhX [(1,iv vars),(2,.ptr 0 0 0 1),(5,iv c.vars.length),(6,iv i),(7,iv 0)] [.row 6 [zaq c]] =
   some (if ((c.vars.take i).any fun x=>c.vars[i]==x)=false then (.ext 2,[(1,iv vars),(2,.ptr 0 0 0 1),(5,iv c.vars.length),(6,iv i),(7,iv i),(35,.bool false)],[.row 6 [zaq c]]) else (.ret,[(4,.bool false)],[.row 6 [zaq c]])):=by
 have hle:(c.vars.take i).length=i:=by rw [List.length_take];omega
 have:=zuC (C:=C) (Y:=y0) (b:=zcQ) (c.vars.take i) (fun k=>[(1,iv vars),(2,.ptr 0 0 0 1),(5,iv c.vars.length),(6,iv i),(7,iv k)]) [.row 6 [zaq c]] (fun x=>!(c.vars[i]==x)) (.ret,[(4,.bool false)],[.row 6 [zaq c]]) (.ext 2,[(1,iv vars),(2,.ptr 0 0 0 1),(5,iv c.vars.length),(6,iv i),(7,iv i),(35,.bool false)],[.row 6 [zaq c]]) (by rw [hle];simp [zcQ]) (by simp) (by simp) fun k hk=>by
  rw [hle] at hk
  have hlt:k<c.vars.length:=by omega
  have hw:=zac hlt (by omega)
  simp only [List.getElem_take]
  by_cases e:c.vars[i]=c.vars[k]
  ·have e':c.vars[k]=c.vars[i]:=e.symm
   simp [zcQ,hi,hk,hlt,e']
  ·have e':¬(c.vars[k]=c.vars[i]):=fun h=>e h.symm
   have e2:(c.vars[k]==c.vars[i])=false:=by simpa using e'
   simp [zcQ,hi,hk,hlt,e,e',e2,hw]
 rw [zsu] at this
 simp only [Int.cast_ofNat_Int,Bool.not_eq_true'] at this
 exact this
theorem rr_l1 (c:Con) (vars:Int) (hl:c.vars.length≤4611686018427387904):∀ (d i:Nat) (fr0:Fr),i+d=c.vars.length →
  ∃ fr',evw C y0 zih [(1,iv vars),(2,.ptr 0 0 0 1),(5,iv c.vars.length),(6,iv i)] [.row 6 [zaq c]] =
   some (if vOK vars (c.vars.take i) (c.vars.drop i)=true then (.ext 0,[(1,iv vars),(2,.ptr 0 0 0 1),(5,iv c.vars.length),(6,iv c.vars.length),(15,.bool false)],[.row 6 [zaq c]]) else (.ret,fr',[.row 6 [zaq c]]))∧get fr' 4=.bool false:=by
 intro d
 induction d with
 | zero=>
  intro i fr0 hi
  have:i=c.vars.length:=by omega
  subst this
  rw [znP,List.drop_length]
  refine ⟨[(4,.bool false)],?_,rfl⟩
  simp [zb7,vOK]
 | succ d ih=>
  intro i fr0 hi
  have hlt:i<c.vars.length:=by omega
  have hw:=zac hlt (by omega)
  obtain ⟨fr',ih,hf⟩:=ih (i+1) fr0 (by omega)
  have hc:=rr_l0 c vars hl i hlt
  simp only [Int.natCast_add,Int.cast_ofNat_Int,List.take_succ_eq_append_getElem hlt] at ih
  rw [znP,List.drop_eq_getElem_cons hlt]
  simp only [vOK]
  by_cases c1:c.vars[i]<0
  ·have c1':¬(0≤c.vars[i]):=by omega
   refine ⟨[(4,.bool false)],?_,rfl⟩
   simp [zb7,hlt,c1,c1']
  have c1':0≤c.vars[i]:=by omega
  by_cases c2:vars≤c.vars[i]
  ·have c2':¬(c.vars[i]<vars):=by omega
   refine ⟨[(4,.bool false)],?_,rfl⟩
   simp [zb7,hlt,c1,c1',c2,c2']
  have c2':c.vars[i]<vars:=by omega
  rcases Bool.eq_false_or_eq_true ((c.vars.take i).any fun x=>c.vars[i]==x) with hb|hb
  ·rw [hb] at hc
   simp only [hb]
   refine ⟨[(4,.bool false)],?_,rfl⟩
   simp [zb7,hlt,c1,c1',c2,c2',hc]
  ·rw [hb] at hc
   refine ⟨fr',?_,hf⟩
   simp only [hb,c1',c2',decide_true,Bool.true_and,Bool.not_false,←ih]
   simp [zb7,hlt,c1,c1',c2,c2',hc,hw]
theorem rr_l2 (c:Con) (n but:Int) (hl:c.coefs.length≤4611686018427387904) :
  evw C y0 zio [(2,.ptr 0 0 0 1),(5,iv n),(8,iv but),(9,iv 0)] [.row 6 [zaq c]] =
   some (if (c.coefs.any fun y=>(0:Int)==y)=false then (.ext 4,[(2,.ptr 0 0 0 1),(5,iv n),(8,iv but),(9,iv c.coefs.length),(65,.bool false)],[.row 6 [zaq c]]) else (.ret,[(4,.bool false)],[.row 6 [zaq c]])):=by
 have:=zuC (C:=C) (Y:=y0) (b:=zcP) c.coefs (fun k=>[(2,.ptr 0 0 0 1),(5,iv n),(8,iv but),(9,iv k)]) [.row 6 [zaq c]] (fun x=>!((0:Int)==x)) (.ret,[(4,.bool false)],[.row 6 [zaq c]]) (.ext 4,[(2,.ptr 0 0 0 1),(5,iv n),(8,iv but),(9,iv c.coefs.length),(65,.bool false)],[.row 6 [zaq c]]) (by simp [zcP]) (by simp) (by simp) fun k hk=>by
  have hw:=zac hk (by omega)
  by_cases e:c.coefs[k]=0
  ·simp [zcP,hk,e]
  ·have e':¬(0=c.coefs[k]):=fun h=>e h.symm
   have e2:((0:Int)==c.coefs[k])=false:=by simpa using e'
   simp [zcP,hk,e,ieq,e',e2,hw]
 rw [zsu] at this
 simp only [Int.cast_ofNat_Int,Bool.not_eq_true'] at this
 exact this
set_option maxHeartbeats 4000000 in
theorem zvy (c:Con) (vars:Int) (hl:zu7 c) (h:List Ob):acw C zf8 [zaq c,iv vars] h=some (.ret (.bool (zaC c vars)),h):=by
 refine zar (v:=.bool (zaC c vars)) (CT zuz) rfl rfl (fun _=>rfl) (by simp) ?_
 obtain ⟨hl1,hl2,hl3⟩:=hl
 obtain ⟨fr',hloop,hf⟩:=rr_l1 c vars hl1 c.vars.length 0 [] (by omega)
 simp only [List.drop_zero,List.take_zero,Int.cast_ofNat_Int] at hloop
 have a1:=ztc c.coefs 1048576 (by omega) (by omega) hl2
 have a2:=ztc [c.const] 1099511627776 (by omega) (by omega) (by simp)
 have a3:=ztc c.nums 1048576 (by omega) (by omega) hl3
 have k4:zii (.int .i64 0) [.int .i64 c.const]=some (zab [c.const]):=rfl
 rcases Bool.eq_false_or_eq_true (vOK vars [] c.vars) with hb|hb
 rotate_left
 ·simp only [hb,Bool.false_eq_true,if_false] at hloop
  simp [zaa,zad,zae,hloop,hf,zaC,zlt,zkE,zBY,zkQ,zlk,zrk,zfq,hb]
 simp only [hb,if_true] at hloop
 obtain ⟨kind,vs,cs,rel,const,nums⟩:=c
 dsimp only at *
 by_cases hk1:kind=1
 ·subst hk1
  have l2:=rr_l2 ⟨1,vs,cs,rel,const,nums⟩ vs.length 0 hl2
  have w1:IntKind.i64.wrap ((vs.length:Int))=(vs.length:Int):=wrap64 (by omega) (by omega)
  have hR:zaC ⟨1,vs,cs,rel,const,nums⟩ vars=(decide (1≤(vs.length:Int))&&(decide ((vs.length:Int)≤8)&&zw2 ⟨1,vs,cs,rel,const,nums⟩ 0)):=by
   simp [zaC,zlt,zfq,hb,Bool.and_assoc]
  rw [hR]
  simp only [zw2]
  rcases Bool.eq_false_or_eq_true (cs.any fun y=>(0:Int)==y) with c0|c0<;>simp only [c0,Bool.true_eq_false,if_false,if_true] at l2
  ·simp only [c0,Bool.not_true,Bool.false_and,Bool.and_false]
   simp [zaa,zad,zae,ieq,ine,hloop,w1,k4,a1,a2,l2,c0]
  simp only [c0,Bool.not_false,Bool.true_and]
  by_cases c1:1≤(vs.length:Int)
  rotate_left
  ·simp [zaa,zad,zae,ieq,ine,hloop,w1,k4,a1,a2,l2,c0,c1]
  by_cases c2:(vs.length:Int)≤8
  rotate_left
  ·simp [zaa,zad,zae,ieq,ine,hloop,w1,k4,a1,a2,l2,c0,c1,c2]
  by_cases c3:(cs.length:Int)=(vs.length:Int)
  rotate_left
  ·simp [zaa,zad,zae,ieq,ine,hloop,w1,k4,a1,a2,l2,c0,c1,c2,c3]
  rcases Bool.eq_false_or_eq_true (zcB 1048576 cs) with c4|c4<;>rw [c4] at a1
  rotate_left
  ·simp [zaa,zad,zae,ieq,ine,hloop,w1,k4,a1,a2,l2,c0,c1,c2,c3,c4]
  by_cases c5:0≤rel
  rotate_left
  ·simp [zaa,zad,zae,ieq,ine,hloop,w1,k4,a1,a2,l2,c0,c1,c2,c3,c4,c5]
  by_cases c6:rel≤5
  rotate_left
  ·simp [zaa,zad,zae,ieq,ine,hloop,w1,k4,a1,a2,l2,c0,c1,c2,c3,c4,c5,c6]
  rcases Bool.eq_false_or_eq_true (zcB 1099511627776 [const]) with c7|c7<;>rw [c7] at a2
  rotate_left
  ·simp [zaa,zad,zae,ieq,ine,hloop,w1,k4,a1,a2,l2,c0,c1,c2,c3,c4,c5,c6,c7]
  by_cases c8:nums.length=0
  rotate_left
  ·simp [zaa,zad,zae,ieq,ine,hloop,w1,k4,a1,a2,l2,c0,c1,c2,c3,c4,c5,c6,c7,c8]
  simp [zaa,zad,zae,ieq,ine,hloop,w1,k4,a1,a2,l2,c0,c1,c2,c3,c4,c5,c6,c7,c8]
 by_cases hk3:kind=3
 ·subst hk3
  have l2:=rr_l2 ⟨3,vs,cs,rel,const,nums⟩ vs.length 1 hl2
  have w1:IntKind.i64.wrap ((vs.length:Int)-1)=(vs.length:Int)-1:=wrap64 (by omega) (by omega)
  have hR:zaC ⟨3,vs,cs,rel,const,nums⟩ vars=(decide (1≤(vs.length:Int)-1)&&(decide ((vs.length:Int)-1≤8)&&zw2 ⟨3,vs,cs,rel,const,nums⟩ 1)):=by
   simp only [zaC,zBY,zfq,hb]
   have p1:decide ((2:Int)≤(vs.length:Int))=decide (1≤(vs.length:Int)-1):=decide_eq_decide.2 (by omega)
   have p2:decide ((vs.length:Int)≤9)=decide ((vs.length:Int)-1≤8):=decide_eq_decide.2 (by omega)
   simp only [p1,p2]
   simp [Bool.and_assoc]
  rw [hR]
  simp only [zw2]
  rcases Bool.eq_false_or_eq_true (cs.any fun y=>(0:Int)==y) with c0|c0<;>simp only [c0,Bool.true_eq_false,if_false,if_true] at l2
  ·simp only [c0,Bool.not_true,Bool.false_and,Bool.and_false]
   simp [zaa,zad,zae,ieq,ine,hloop,w1,k4,a1,a2,l2,c0]
  simp only [c0,Bool.not_false,Bool.true_and]
  by_cases c1:1≤(vs.length:Int)-1
  rotate_left
  ·simp [zaa,zad,zae,ieq,ine,hloop,w1,k4,a1,a2,l2,c0,c1]
  by_cases c2:(vs.length:Int)-1≤8
  rotate_left
  ·simp [zaa,zad,zae,ieq,ine,hloop,w1,k4,a1,a2,l2,c0,c1,c2]
  by_cases c3:(cs.length:Int)=(vs.length:Int)-1
  rotate_left
  ·simp [zaa,zad,zae,ieq,ine,hloop,w1,k4,a1,a2,l2,c0,c1,c2,c3]
  rcases Bool.eq_false_or_eq_true (zcB 1048576 cs) with c4|c4<;>rw [c4] at a1
  rotate_left
  ·simp [zaa,zad,zae,ieq,ine,hloop,w1,k4,a1,a2,l2,c0,c1,c2,c3,c4]
  by_cases c5:0≤rel
  rotate_left
  ·simp [zaa,zad,zae,ieq,ine,hloop,w1,k4,a1,a2,l2,c0,c1,c2,c3,c4,c5]
  by_cases c6:rel≤5
  rotate_left
  ·simp [zaa,zad,zae,ieq,ine,hloop,w1,k4,a1,a2,l2,c0,c1,c2,c3,c4,c5,c6]
  rcases Bool.eq_false_or_eq_true (zcB 1099511627776 [const]) with c7|c7<;>rw [c7] at a2
  rotate_left
  ·simp [zaa,zad,zae,ieq,ine,hloop,w1,k4,a1,a2,l2,c0,c1,c2,c3,c4,c5,c6,c7]
  by_cases c8:nums.length=0
  rotate_left
  ·simp [zaa,zad,zae,ieq,ine,hloop,w1,k4,a1,a2,l2,c0,c1,c2,c3,c4,c5,c6,c7,c8]
  simp [zaa,zad,zae,ieq,ine,hloop,w1,k4,a1,a2,l2,c0,c1,c2,c3,c4,c5,c6,c7,c8]
 have hR:∀ b1 b2:Bool,zaC ⟨kind,vs,cs,rel,const,nums⟩ vars=(decide (cs.length=0)&&(decide (rel=0)&&(decide (const=0)&&(zcB 1048576 nums&&(decide ((nums.length:Int)≤96)&&(if kind=2 then decide ((vs.length:Int)=3)&&decide (nums.length=0) else if kind=4 then decide ((vs.length:Int)=2)&&decide (1≤(nums.length:Int)) else if kind=5 then decide (2≤(vs.length:Int))&&(decide ((vs.length:Int)≤8)&&decide (nums.length=0)) else if kind=6 then decide (1≤(vs.length:Int))&&(decide ((vs.length:Int)≤8)&&decide ((nums.length:Int).tmod vs.length=0)) else false)))))):=by
  intro b1 b2
  unfold zaC
  simp only [hk1,hk3,if_false,zkE,zkQ,zlk,zrk,zfq,znA,hb,Bool.and_true]
  have p1:decide ((nums.length:Int)≤0)=decide (nums.length=0):=decide_eq_decide.2 (by omega)
  have p0:decide ((0:Int)≤nums.length)=true:=decide_eq_true (by omega)
  have p3:(decide ((3:Int)≤vs.length)&&decide ((vs.length:Int)≤3))=decide ((vs.length:Int)=3):=by
   rw [←Bool.decide_and];exact decide_eq_decide.2 (by omega)
  have p4:(decide ((2:Int)≤vs.length)&&decide ((vs.length:Int)≤2))=decide ((vs.length:Int)=2):=by
   rw [←Bool.decide_and];exact decide_eq_decide.2 (by omega)
  simp only [p1,p0,p3,p4,Bool.true_and]
  have q1:nums.length=0→decide ((nums.length:Int)≤96)=true:=fun e=>decide_eq_true (by omega)
  by_cases e:nums.length=0
  ·have q2:decide ((1:Int)≤(nums.length:Int))=false:=decide_eq_false (by omega)
   simp only [e,q1 e,q2,decide_true,Bool.true_and,Bool.and_true]
   repeat' split
   all_goals simp [Bool.and_assoc,Bool.and_left_comm,Bool.and_comm]
  ·have q2:decide (nums.length=0)=false:=decide_eq_false e
   have q3:decide ((1:Int)≤(nums.length:Int))=true:=decide_eq_true (by omega)
   simp only [q2,q3,Bool.false_and,Bool.and_false,Bool.true_and,Bool.and_true]
   repeat' split
   all_goals simp [Bool.and_assoc,Bool.and_left_comm,Bool.and_comm]
 rw [hR true true]
 by_cases c1:cs.length=0
 rotate_left
 ·have c1':0<cs.length:=by omega
  have c1'':¬(cs=[]):=by intro e;rw [e] at c1;simp at c1
  simp [zaa,zad,zae,ieq,ine,hloop,hk1,hk3,a3,c1,c1',c1'']
 by_cases c2:rel=0
 rotate_left
 ·simp [zaa,zad,zae,ieq,ine,hloop,hk1,hk3,a3,c1,c2]
 subst c2
 by_cases c3:const=0
 rotate_left
 ·simp [zaa,zad,zae,ieq,ine,hloop,hk1,hk3,a3,c1,c3]
 subst c3
 rcases Bool.eq_false_or_eq_true (zcB 1048576 nums) with c4|c4<;>rw [c4] at a3
 rotate_left
 ·simp [zaa,zad,zae,ieq,ine,hloop,hk1,hk3,a3,c1,c4]
 by_cases c5:(nums.length:Int)≤96
 rotate_left
 ·have c5':96<(nums.length:Int):=by omega
  simp [zaa,zad,zae,ieq,ine,hloop,hk1,hk3,a3,c1,c4,c5,c5']
 have c5':¬(96<(nums.length:Int)):=by omega
 by_cases k2:kind=2
 ·subst k2
  by_cases d1:(vs.length:Int)=3
  rotate_left
  ·simp [zaa,zad,zae,ieq,ine,hloop,hk1,hk3,a3,c5',c1,c4,c5,d1]
  simp only [iv,d1] at hloop
  by_cases d2:nums.length=0
  ·simp [zaa,zad,zae,ieq,ine,hloop,hk1,hk3,a3,c5',c1,c4,c5,d1,d2]
  ·simp [zaa,zad,zae,ieq,ine,hloop,hk1,hk3,a3,c5',c1,c4,c5,d1,d2]
 by_cases k4:kind=4
 ·subst k4
  by_cases d1:(vs.length:Int)=2
  rotate_left
  ·simp [zaa,zad,zae,ieq,ine,hloop,hk1,hk3,a3,c5',c1,c4,c5,d1]
  simp only [iv,d1] at hloop
  by_cases d2:1≤(nums.length:Int)
  ·simp [zaa,zad,zae,ieq,ine,hloop,hk1,hk3,a3,c5',c1,c4,c5,d1,d2]
  ·simp [zaa,zad,zae,ieq,ine,hloop,hk1,hk3,a3,c5',c1,c4,c5,d1,d2]
 by_cases k5:kind=5
 ·subst k5
  by_cases d1:2≤(vs.length:Int)
  rotate_left
  ·simp [zaa,zad,zae,ieq,ine,hloop,hk1,hk3,a3,c5',c1,c4,c5,d1]
  by_cases d2:(vs.length:Int)≤8
  rotate_left
  ·simp [zaa,zad,zae,ieq,ine,hloop,hk1,hk3,a3,c5',c1,c4,c5,d1,d2]
  by_cases d3:nums.length=0
  ·simp [zaa,zad,zae,ieq,ine,hloop,hk1,hk3,a3,c5',c1,c4,c5,d1,d2,d3]
  ·simp [zaa,zad,zae,ieq,ine,hloop,hk1,hk3,a3,c5',c1,c4,c5,d1,d2,d3]
 by_cases k6:kind=6
 ·subst k6
  by_cases d1:1≤(vs.length:Int)
  rotate_left
  ·simp [zaa,zad,zae,ieq,ine,hloop,hk1,hk3,a3,c5',c1,c4,c5,d1]
  by_cases d2:(vs.length:Int)≤8
  rotate_left
  ·simp [zaa,zad,zae,ieq,ine,hloop,hk1,hk3,a3,c5',c1,c4,c5,d1,d2]
  have h2:¬(vs=[]):=by intro e;rw [e] at d1;simp at d1
  have w3:IntKind.i64.wrap (((nums.length:Int).tmod vs.length))=(nums.length:Int).tmod vs.length:=by
   have h3:(nums.length:Int).tmod vs.length=((nums.length % vs.length:Nat):Int):=by rfl
   have h4:nums.length % vs.length≤nums.length:=Nat.mod_le _ _
   rw [h3]
   exact wrap64 (by omega) (by omega)
  by_cases d3:(nums.length:Int).tmod vs.length=0
  ·simp [zaa,zad,zae,ieq,ine,hloop,hk1,hk3,a3,c5',c1,c4,c5,d1,d2,d3,h2,w3]
  ·simp [zaa,zad,zae,ieq,ine,hloop,hk1,hk3,a3,c5',c1,c4,c5,d1,d2,d3,h2,w3]
 simp [zaa,zad,zae,ieq,ine,hloop,hk1,hk3,a3,c5',c1,c4,c5,k2,k4,k5,k6]
end Go.RR.M
namespace Go.RR
theorem zzr {n:Int}:∀ {l pre:List Int},vOK n pre l=true→∀ v∈l,0≤v∧v<n
 | [],_,_,v,hv=>by simp at hv
 | x::r,pre,h,v,hv=>by
  simp only [vOK,Bool.and_eq_true,decide_eq_true_eq] at h
  rcases List.mem_cons.1 hv with rfl|hv
  ·exact ⟨h.1.1.1,h.1.1.2⟩
  ·exact zzr h.2 v hv
theorem zsT {m:Int} {l:List Int} (h:zcB m l=true):∀ x∈l,-m≤x∧x≤m:=by
 unfold zcB at h
 intro x hx
 have:=List.all_eq_true.1 h x hx
 simpa using this
end Go.RR
namespace Go.RR.M
open Go Go.RR
end Go.RR.M
namespace Go.RR
def lowc (b:Nat):Nat:=b&&&(b-1)
def lsts:Nat→Nat→List Nat
 | 0,_=>[]
 | n+1,b=>if b=0 then [] else Go.Lib.ctz 64 b::lsts n (lowc b)
def done:Nat→Nat→Prop
 | 0,b=>b=0
 | n+1,b=>b=0∨done n (lowc b)
theorem zEP {b:Nat} (h:b<18446744073709551616):lowc b<18446744073709551616:=Nat.lt_of_le_of_lt Nat.and_le_left h
def ziI:Nat→Nat→List Nat
 | 0,_=>[]
 | n+1,b=>if b % 2=1 then 0::(ziI n (b / 2)).map (·+1) else (ziI n (b / 2)).map (·+1)
theorem zsK:∀ n,ziI n 0=[]
 | 0=>rfl
 | n+1=>by simp [ziI,zsK n]
theorem zvW (c:Nat):lowc (2*c)=2*lowc c:=by
 by_cases h:c=0
 ·subst h;rfl
 ·have h1:(2*c&&&(2*c-1)) / 2=c&&&(c-1):=by
   rw [Nat.and_div_two,show 2*c / 2=c by omega,show (2*c-1) / 2=c-1 by omega]
  have h2:¬(2*c&&&(2*c-1)) % 2=1:=by rw [Nat.and_mod_two_eq_one];omega
  unfold lowc
  omega
theorem zyk (c:Nat):lowc (2*c+1)=2*c:=by
 have h1:(2*c+1&&&(2*c+1-1)) / 2=c:=by
  rw [Nat.and_div_two,show (2*c+1) / 2=c by omega,show (2*c+1-1) / 2=c by omega,Nat.and_self]
 have h2:¬(2*c+1&&&(2*c+1-1)) % 2=1:=by rw [Nat.and_mod_two_eq_one];omega
 unfold lowc
 omega
theorem zq7:∀ (f g x:Nat),0<x→x<2 ^ f→f≤g→Go.Lib.ctzFrom g x=Go.Lib.ctzFrom f x
 | 0,g,x,h0,h1,_=>by simp at h1;omega
 | f+1,0,x,h0,h1,h2=>by omega
 | f+1,g+1,x,h0,h1,h2=>by
  unfold Go.Lib.ctzFrom
  split
  ·rfl
  ·rw [zq7 f g (x / 2) (by omega) (by rw [Nat.pow_succ] at h1;omega) (by omega)]
theorem zBu {c:Nat} (h0:c≠0) (h:c<2 ^ 63):Go.Lib.ctz 64 (2*c)=Go.Lib.ctz 64 c+1:=by
 unfold Go.Lib.ctz
 rw [if_neg (by omega),if_neg h0,zq7 63 64 c (by omega) h (by omega)]
 show Go.Lib.ctzFrom (63+1) (2*c)=_
 rw [Go.Lib.ctzFrom,if_neg (by omega),show 2*c / 2=c by omega]
 omega
theorem zEc (c:Nat):Go.Lib.ctz 64 (2*c+1)=0:=by
 unfold Go.Lib.ctz
 rw [if_neg (by omega)]
 show Go.Lib.ctzFrom (63+1) (2*c+1)=_
 rw [Go.Lib.ctzFrom,if_pos (by omega)]
theorem zDO (b:Nat):lowc b≤b:=Nat.and_le_left
theorem zzE:∀ m,lsts m 0=[]
 | 0=>rfl
 | m+1=>by simp [lsts]
theorem zs0:∀ (m c:Nat),c<2 ^ 63→lsts m (2*c)=(lsts m c).map (·+1)
 | 0,_,_=>rfl
 | m+1,c,h=>by
  by_cases h0:c=0
  ·subst h0;simp [lsts]
  ·have hl:=zDO c
   rw [lsts,if_neg (by omega),lsts,if_neg h0,List.map_cons,zBu h0 h,zvW,zs0 m _ (by omega)]
theorem zql:∀ (n m b:Nat),n≤64→b<2 ^ n→n≤m→lsts m b=ziI n b
 | 0,m,b,_,h,_=>by
  obtain rfl:b=0:=by simp at h;exact h
  rw [zzE];rfl
 | n+1,0,b,_,h,hm=>by omega
 | n+1,m+1,b,hn,h,hm=>by
  rw [Nat.pow_succ] at h
  have hp:2 ^ n≤2 ^ 63:=Nat.pow_le_pow_right (by omega) (by omega)
  by_cases c:b % 2=1
  ·obtain ⟨k,rfl⟩:∃ k,b=2*k+1:=⟨b / 2,by omega⟩
   rw [lsts,if_neg (by omega),zEc,zyk,zs0 m k (by omega),zql n m k (by omega) (by omega) (by omega),ziI,if_pos c,show (2*k+1) / 2=k by omega]
  ·obtain ⟨k,rfl⟩:∃ k,b=2*k:=⟨b / 2,by omega⟩
   rw [zs0 (m+1) k (by omega),zql n (m+1) k (by omega) (by omega) (by omega),ziI,if_neg c,show 2*k / 2=k by omega]
theorem zBh:∀ m,done m 0
 | 0=>rfl
 | m+1=>.inl rfl
theorem zr2:∀ (m c:Nat),done m c→done m (2*c)
 | 0,c,h=>by have:c=0:=h;subst this;rfl
 | m+1,c,h=>by
  rcases h with h|h
  ·subst h;exact .inl rfl
  ·refine .inr ?_
   rw [zvW]
   exact zr2 m _ h
theorem zuT:∀ (n m b:Nat),b<2 ^ n→n≤m→done m b
 | 0,m,b,h,_=>by
  obtain rfl:b=0:=by simp at h;exact h
  exact zBh m
 | n+1,0,b,h,hm=>by omega
 | n+1,m+1,b,h,hm=>by
  rw [Nat.pow_succ] at h
  by_cases c:b % 2=1
  ·obtain ⟨k,rfl⟩:∃ k,b=2*k+1:=⟨b / 2,by omega⟩
   refine .inr ?_
   rw [zyk]
   exact zr2 m k (zuT n m k (by omega) (by omega))
  ·obtain ⟨k,rfl⟩:∃ k,b=2*k:=⟨b / 2,by omega⟩
   exact zr2 (m+1) k (zuT n (m+1) k (by omega) (by omega))
theorem zs7:∀ (n m b:Nat),b<2 ^ n→n≤m→ziI m b=ziI n b
 | 0,m,b,h,_=>by
  obtain rfl:b=0:=by simp at h;exact h
  rw [zsK];rfl
 | n+1,0,b,h,hm=>by omega
 | n+1,m+1,b,h,hm=>by
  rw [Nat.pow_succ] at h
  rw [ziI,ziI,zs7 n m (b / 2) (by omega) (by omega)]
theorem zuR:∀ (n b k:Nat),k∈ziI n b→k<n
 | 0,b,k,h=>by simp [ziI] at h
 | n+1,b,k,h=>by
  unfold ziI at h
  have key:k∈(ziI n (b / 2)).map (·+1)→k<n+1:=fun h=>by
   obtain ⟨j,hj,rfl⟩:=List.mem_map.1 h
   have:=zuR n _ j hj
   omega
  split at h
  ·rcases List.mem_cons.1 h with rfl|h
   ·omega
   ·exact key h
  ·exact key h
theorem zrS:∀ (n b:Nat),(ziI n b).length≤n
 | 0,b=>by simp [ziI]
 | n+1,b=>by
  have:=zrS n (b / 2)
  unfold ziI
  split<;>simp<;>omega
theorem zuq:∀ (n b:Nat),(ziI n b).length=Go.Lib.popAux n b
 | 0,b=>rfl
 | n+1,b=>by
  unfold ziI Go.Lib.popAux
  split
  ·rename_i h;simp [zuq n,h];omega
  ·rename_i h
   have:b % 2=0:=by omega
   simp [zuq n,this]
theorem zxM:∀ (n b:Nat),b<2 ^ n→(ziI n b=[]↔b=0)
 | 0,b,h=>by simp at h;simp [ziI,h]
 | n+1,b,h=>by
  rw [Nat.pow_succ] at h
  have ih:=zxM n (b / 2) (by omega)
  unfold ziI
  split
  ·simp;omega
  ·rw [List.map_eq_nil_iff,ih];omega
def zdH:List Int→Nat→List Int
 | [],_=>[]
 | v::r,b=>if b % 2=1 then v::zdH r (b / 2) else zdH r (b / 2)
theorem zlA:∀ (l:List Int) (b:Nat),(ziI l.length b).map (fun k=>l.getD k 0)=zdH l b
 | [],b=>rfl
 | v::r,b=>by
  have ih:=zlA r (b / 2)
  have e:((ziI r.length (b / 2)).map (·+1)).map (fun k=>(v::r).getD k 0)=zdH r (b / 2):=by
   rw [List.map_map,←ih]
   rfl
  show (ziI (r.length+1) b).map _=_
  unfold ziI zdH
  split
  ·rw [List.map_cons,e];rfl
  ·exact e
theorem zvt (l:List Int) (b:Nat):(zdH l b).length=(ziI l.length b).length:=by rw [←zlA,List.length_map]
theorem znE:∀ (l:List Int) (b:Nat) (v:Int),v∈zdH l b→v∈l
 | [],b,v,h=>by simp [zdH] at h
 | x::r,b,v,h=>by
  unfold zdH at h
  split at h
  ·rcases List.mem_cons.1 h with rfl|h
   ·simp
   ·exact List.mem_cons_of_mem _ (znE r _ v h)
  ·exact List.mem_cons_of_mem _ (znE r _ v h)
def zcY (p:Int→Bool):List Int→Nat→Nat
 | [],_=>0
 | v::r,b=>(if b % 2=1∧p v=true then 1 else 0)+2*zcY p r (b / 2)
theorem zyh (p:Int→Bool):∀ (l:List Int) (b:Nat),zcY p l b<2 ^ l.length
 | [],b=>by simp [zcY]
 | v::r,b=>by
  have ih:=zyh p r (b / 2)
  unfold zcY
  rw [List.length_cons,Nat.pow_succ]
  split<;>omega
theorem zo1 {p q:Int→Bool}:∀ (l:List Int) (b:Nat),(∀ v∈zdH l b,p v=q v)→zcY p l b=zcY q l b
 | [],b,_=>rfl
 | v::r,b,h=>by
  unfold zcY
  unfold zdH at h
  by_cases c:b % 2=1
  ·rw [if_pos c] at h
   rw [zo1 r (b / 2) (fun x hx=>h x (List.mem_cons_of_mem _ hx)),h v (by simp)]
  ·rw [if_neg c] at h
   rw [zo1 r (b / 2) h]
   simp [c]
theorem or_pow {a j:Nat} (h:a<2 ^ j):a|||2 ^ j=a+2 ^ j:=by
 rw [Nat.or_comm,←Nat.mul_one (2 ^ j),←Nat.two_pow_add_eq_or_of_lt h]
 omega
theorem zog (p:Int→Bool):∀ (l:List Int) (b j acc:Nat) (f:Nat→Int),(∀ k,k<l.length→f (k+j)=l.getD k 0)→acc<2 ^ j→((ziI l.length b).map (·+j)).foldl (fun a k=>if p (f k)=true then a|||2 ^ k else a) acc=acc+2 ^ j*zcY p l b
 | [],b,j,acc,f,hf,h=>by simp [ziI,zcY]
 | v::r,b,j,acc,f,hf,h=>by
  have e:∀ L:List Nat,(L.map (·+1)).map (·+j)=L.map (·+(j+1)):=fun L=>by
   rw [List.map_map]
   apply List.map_congr_left
   intro k _
   simp only [Function.comp]
   omega
  have hf':∀ k,k<r.length→f (k+(j+1))=r.getD k 0:=fun k hk=>by
   have:=hf (k+1) (by simp;omega)
   rw [show k+(j+1)=k+1+j by omega,this]
   rfl
  have hv:f j=v:=by
   have:=hf 0 (by simp)
   rw [Nat.zero_add] at this
   exact this
  show ((ziI (r.length+1) b).map (·+j)).foldl _ acc=_
  unfold ziI zcY
  have hp:2 ^ (j+1)=2 ^ j*2:=Nat.pow_succ ..
  by_cases c:b % 2=1
  ·rw [if_pos c,List.map_cons,List.foldl_cons,Nat.zero_add,hv,e]
   by_cases c2:p v=true
   ·rw [if_pos c2,or_pow h,zog p r (b / 2) (j+1) _ f hf' (by omega),if_pos ⟨c,c2⟩,hp,Nat.mul_assoc,Nat.mul_add,Nat.mul_one]
    omega
   ·rw [if_neg c2,zog p r (b / 2) (j+1) _ f hf' (by omega),if_neg (fun h=>c2 h.2),hp,Nat.mul_assoc,Nat.zero_add]
  ·rw [if_neg c,e,zog p r (b / 2) (j+1) _ f hf' (by omega),if_neg (fun h=>c h.1),hp,Nat.mul_assoc,Nat.zero_add]
def val:List Nat→Nat
 | []=>0
 | a::r=>a+256*val r
def zzi (m:Nat):Nat→Nat
 | 0=>0
 | k+1=>m+256*zzi m k
theorem znp (a c m M:Nat) (ha:a<256) (hm:m<256):(a+256*c)&&&(m+256*M)=(a&&&m)+256*(c&&&M):=by
 have h8:(256:Nat)=2 ^ 8:=rfl
 have hx:a&&&m<2 ^ 8:=Nat.and_lt_two_pow _ (by omega)
 apply Nat.eq_of_testBit_eq
 intro i
 rw [Nat.testBit_and,Nat.add_comm a,Nat.add_comm m,Nat.add_comm (a&&&m),h8,Nat.testBit_two_pow_mul_add c (by omega) i,Nat.testBit_two_pow_mul_add M (by omega) i,Nat.testBit_two_pow_mul_add (c&&&M) hx i]
 split
 ·rw [Nat.testBit_and]
 ·rw [Nat.testBit_and]
def b1 (a:Nat):Nat:=(a / 2&&&85)+(a&&&85)
def b2 (a:Nat):Nat:=(a / 4&&&51)+(a&&&51)
def b3 (a:Nat):Nat:=(a / 16+a)&&&15
theorem b1_lt:∀ a:Fin 256,b1 a.val<256:=by decide +kernel
theorem b21_ok:∀ a:Fin 256,b2 (b1 a.val)≤68∧b2 (b1 a.val) % 16≤4:=by decide +kernel
theorem b1_low:∀ (a:Fin 256) (c:Fin 2),(a.val / 2+128*c.val)&&&85=a.val / 2&&&85:=by decide +kernel
theorem b2_low:∀ (a:Fin 256) (c:Fin 4),(a.val / 4+64*c.val)&&&51=a.val / 4&&&51:=by decide +kernel
theorem b3_low:∀ (a:Fin 69) (c:Fin 5),(a.val / 16+16*c.val+a.val)&&&15=(a.val / 16+a.val)&&&15:=by decide +kernel
theorem pc_eq:∀ a:Fin 256,b3 (b2 (b1 a.val))=Go.Lib.popAux 8 a.val∧Go.Lib.popAux 8 a.val≤8:=by decide +kernel
def okB (l:List Nat):Prop:=∀ a∈l,a<256
theorem st1:∀ (l:List Nat),okB l→((val l / 2)&&&zzi 85 l.length)+(val l&&&zzi 85 l.length)=val (l.map b1)
 | [],_=>rfl
 | a::r,h=>by
  have ha:=h a (by simp)
  have ih:=st1 r fun x hx=>h x (by simp [hx])
  simp only [val,List.length_cons,zzi,List.map_cons]
  have e:(a+256*val r) / 2=(a / 2+128*(val r % 2))+256*(val r / 2):=by omega
  have e2:(a / 2+128*(val r % 2))&&&85=a / 2&&&85:=b1_low ⟨a,ha⟩ ⟨val r % 2,by omega⟩
  rw [e,znp _ _ _ _ (by omega) (by omega),znp _ _ _ _ ha (by omega),e2,←ih,b1]
  omega
theorem st2:∀ (l:List Nat),okB l→((val l / 4)&&&zzi 51 l.length)+(val l&&&zzi 51 l.length)=val (l.map b2)
 | [],_=>rfl
 | a::r,h=>by
  have ha:=h a (by simp)
  have ih:=st2 r fun x hx=>h x (by simp [hx])
  simp only [val,List.length_cons,zzi,List.map_cons]
  have e:(a+256*val r) / 4=(a / 4+64*(val r % 4))+256*(val r / 4):=by omega
  have e2:(a / 4+64*(val r % 4))&&&51=a / 4&&&51:=b2_low ⟨a,ha⟩ ⟨val r % 4,by omega⟩
  rw [e,znp _ _ _ _ (by omega) (by omega),znp _ _ _ _ ha (by omega),e2,←ih,b2]
  omega
theorem zEe:∀ (l:List Nat),(∀ a∈l,a≤68∧a % 16≤4)→val l % 16≤4
 | [],_=>by simp [val]
 | a::r,h=>by
  have:=h a (by simp)
  simp only [val]
  omega
theorem st3:∀ (l:List Nat),(∀ a∈l,a≤68∧a % 16≤4)→(val l / 16+val l)&&&zzi 15 l.length=val (l.map b3)
 | [],_=>rfl
 | a::r,h=>by
  have ha:=h a (by simp)
  have hr:∀ a∈r,a≤68∧a % 16≤4:=fun x hx=>h x (by simp [hx])
  have ih:=st3 r hr
  have hm:=zEe r hr
  simp only [val,List.length_cons,zzi,List.map_cons]
  have e:(a+256*val r) / 16+(a+256*val r)=(a / 16+16*(val r % 16)+a)+256*(val r / 16+val r):=by omega
  rw [e,znp _ _ _ _ (by omega) (by omega),b3_low ⟨a,by omega⟩ ⟨val r % 16,by omega⟩,ih,b3]
theorem zDy (k n:Nat):∀ (a c:Nat),a<2 ^ k→Go.Lib.popAux (k+n) (a+2 ^ k*c)=Go.Lib.popAux k a+Go.Lib.popAux n c:=by
 induction k with
 | zero=>intro a c h;simp at h;subst h;simp [Go.Lib.popAux]
 | succ k ih=>
  intro a c h
  rw [Nat.pow_succ] at h ⊢
  rw [show k+1+n=k+n+1 by omega,Go.Lib.popAux,Go.Lib.popAux,show 2 ^ k*2*c=2*(2 ^ k*c) by rw [Nat.mul_comm (2 ^ k) 2,Nat.mul_assoc],show (a+2*(2 ^ k*c)) / 2=a / 2+2 ^ k*c by omega,ih (a / 2) c (by omega)]
  omega
theorem zBk:∀ (l:List Nat),okB l→Go.Lib.popAux (8*l.length) (val l)=(l.map (Go.Lib.popAux 8)).sum
 | [],_=>rfl
 | a::r,h=>by
  have ha:=h a (by simp)
  have ih:=zBk r fun x hx=>h x (by simp [hx])
  rw [List.length_cons,show 8*(r.length+1)=8+8*r.length by omega]
  show Go.Lib.popAux _ (a+2 ^ 8*val r)=_
  rw [zDy 8 (8*r.length) a (val r) ha,ih]
  rfl
def zpO:Nat→Nat→List Nat
 | 0,_=>[]
 | n+1,x=>x % 256::zpO n (x / 256)
theorem ztN:∀ n x,(zpO n x).length=n
 | 0,_=>rfl
 | n+1,x=>by simp [zpO,ztN n]
theorem zwi:∀ n x,okB (zpO n x)
 | 0,_=>by simp [okB,zpO]
 | n+1,x=>fun a ha=>by
  rcases List.mem_cons.1 ha with rfl|ha
  ·omega
  ·exact zwi n _ a ha
theorem ztM:∀ n x,x<256 ^ n→val (zpO n x)=x
 | 0,x,h=>by simp at h;simp [zpO,val,h]
 | n+1,x,h=>by
  rw [Nat.pow_succ] at h
  have:=ztM n (x / 256) (by omega)
  simp only [zpO,val,this]
  omega
theorem s8a (c0 T1:Nat) (h:c0≤8):(c0+256*T1) / 256=T1:=by omega
theorem s8b (c0 c1 c2 c3 T3 T2 T1 T0:Nat) (h:c0≤8∧c1≤8∧c2≤8) (e2:T2=c2+256*T3) (e1:T1=c1+256*T2) (e0:T0=c0+256*T1):(T0+T1) / 65536=T2+T3:=by omega
theorem s8d (c0 c1 c2 c3 T4 T3 T2 T1 T0:Nat) (e3:T3=c3+256*T4) (e2:T2=c2+256*T3) (e1:T1=c1+256*T2) (e0:T0=c0+256*T1):T0=(c0+256*c1+65536*c2+16777216*c3)+4294967296*T4:=by omega
theorem s8c (l0 l1 l2 l3 T4 T5 T6 T7 T0 T1 T2 T3:Nat) (h:l0≤134744072∧l1≤134744072∧l2≤134744072∧l3≤134744072) (e0:T0=l0+4294967296*T4) (e1:T1=l1+4294967296*T5) (e2:T2=l2+4294967296*T6) (e3:T3=l3+4294967296*T7):(T0+T1+(T2+T3)) / 4294967296=T4+T5+T6+T7:=by omega
theorem s8e (s T:Nat) (h:s≤64):(s+256*T) % 128=s:=by omega
theorem sum8 (c0 c1 c2 c3 c4 c5 c6 c7:Nat) (h:c0≤8∧c1≤8∧c2≤8∧c3≤8∧c4≤8∧c5≤8∧c6≤8∧c7≤8) (t u w:Nat) (ht:t=c0+256*(c1+256*(c2+256*(c3+256*(c4+256*(c5+256*(c6+256*c7))))))) (hu:u=t+t / 256) (hw:w=u+u / 65536) :
  t≤578721382704613384∧(w+w / 4294967296) % 128=c0+(c1+(c2+(c3+(c4+(c5+(c6+c7)))))):=by
 obtain ⟨h0,h1,h2,h3,h4,h5,h6,h7⟩:=h
 obtain ⟨T7,e7⟩:∃ T,T=c7:=⟨_,rfl⟩
 rw [←e7] at ht
 obtain ⟨T6,e6⟩:∃ T,T=c6+256*T7:=⟨_,rfl⟩
 rw [←e6] at ht
 obtain ⟨T5,e5⟩:∃ T,T=c5+256*T6:=⟨_,rfl⟩
 rw [←e5] at ht
 obtain ⟨T4,e4⟩:∃ T,T=c4+256*T5:=⟨_,rfl⟩
 rw [←e4] at ht
 obtain ⟨T3,e3⟩:∃ T,T=c3+256*T4:=⟨_,rfl⟩
 rw [←e3] at ht
 obtain ⟨T2,e2⟩:∃ T,T=c2+256*T3:=⟨_,rfl⟩
 rw [←e2] at ht
 obtain ⟨T1,e1⟩:∃ T,T=c1+256*T2:=⟨_,rfl⟩
 rw [←e1] at ht
 have hb:t≤578721382704613384:=by
  have b7:T7≤8:=by omega
  have b6:T6≤2056:=by omega
  have b5:T5≤526344:=by omega
  have b4:T4≤134744072:=by omega
  have b3:T3≤34494482440:=by clear b5 b6 b7;omega
  have b2:T2≤8830587504648:=by clear b5 b6 b7 b4;omega
  have b1:T1≤2260630401189896:=by clear b5 b6 b7 b4 b3;omega
  clear b5 b6 b7 b4 b3 b2
  omega
 refine ⟨hb,?_⟩
 rw [show t / 256=T1 by rw [ht];exact s8a c0 T1 h0] at hu
 have hu2:u / 65536=T2+T3:=by rw [hu];exact s8b c0 c1 c2 c3 T3 T2 T1 t ⟨h0,h1,h2⟩ e2 e1 ht
 rw [hu2,hu] at hw
 have q0:=s8d c0 c1 c2 c3 T4 T3 T2 T1 t e3 e2 e1 ht
 have q1:=s8d c1 c2 c3 c4 T5 T4 T3 T2 T1 e4 e3 e2 e1
 have q2:=s8d c2 c3 c4 c5 T6 T5 T4 T3 T2 e5 e4 e3 e2
 have q3:=s8d c3 c4 c5 c6 T7 T6 T5 T4 T3 e6 e5 e4 e3
 have hw2:w / 4294967296=T4+T5+T6+T7:=by
  rw [hw]
  refine s8c _ _ _ _ T4 T5 T6 T7 t T1 T2 T3 ⟨?_,?_,?_,?_⟩ q0 q1 q2 q3
  ·clear q0 q1 q2 q3 hw hu hu2 ht hb e1 e2 e3 e4 e5 e6 e7;omega
  ·clear q0 q1 q2 q3 hw hu hu2 ht hb e1 e2 e3 e4 e5 e6 e7;omega
  ·clear q0 q1 q2 q3 hw hu hu2 ht hb e1 e2 e3 e4 e5 e6 e7;omega
  ·clear q0 q1 q2 q3 hw hu hu2 ht hb e1 e2 e3 e4 e5 e6 e7;omega
 have e:w+w / 4294967296=(c0+(c1+(c2+(c3+(c4+(c5+(c6+c7)))))))+256*(T1+T2+T3+T4+T5+T6+T7):=by
  rw [hw2,hw]
  clear q0 q1 q2 q3 hw hu hu2 hb hw2
  omega
 rw [e]
 refine s8e _ _ ?_
 clear q0 q1 q2 q3 hw hu hu2 ht hb hw2 e e1 e2 e3 e4 e5 e6 e7
 omega
theorem list8 {l:List Nat} (h:l.length=8):∃ a0 a1 a2 a3 a4 a5 a6 a7,l=[a0,a1,a2,a3,a4,a5,a6,a7]:=by
 obtain ⟨a0,l,rfl⟩:=List.exists_cons_of_length_eq_add_one h
 obtain ⟨a1,l,rfl⟩:=List.exists_cons_of_length_eq_add_one (n:=6) (by simpa using h)
 obtain ⟨a2,l,rfl⟩:=List.exists_cons_of_length_eq_add_one (n:=5) (by simpa using h)
 obtain ⟨a3,l,rfl⟩:=List.exists_cons_of_length_eq_add_one (n:=4) (by simpa using h)
 obtain ⟨a4,l,rfl⟩:=List.exists_cons_of_length_eq_add_one (n:=3) (by simpa using h)
 obtain ⟨a5,l,rfl⟩:=List.exists_cons_of_length_eq_add_one (n:=2) (by simpa using h)
 obtain ⟨a6,l,rfl⟩:=List.exists_cons_of_length_eq_add_one (n:=1) (by simpa using h)
 obtain ⟨a7,l,rfl⟩:=List.exists_cons_of_length_eq_add_one (n:=0) (by simpa using h)
 obtain rfl:l=[]:=by simpa using h
 exact ⟨_,_,_,_,_,_,_,_,rfl⟩
theorem bound8 (l:List Nat) (h:l.length=8) (m:Nat) (hm:∀ a∈l,a≤m):val l≤m*72340172838076673:=by
 obtain ⟨a0,a1,a2,a3,a4,a5,a6,a7,rfl⟩:=list8 h
 simp only [List.mem_cons,List.not_mem_nil,or_false,forall_eq_or_imp,forall_eq] at hm
 simp only [val]
 omega
theorem zDR (x y z t:Nat) (hx:x<18446744073709551616) (hy:y=(x / 2&&&6148914691236517205)+(x&&&6148914691236517205)) (hz:z=(y / 4&&&3689348814741910323)+(y&&&3689348814741910323)) (ht:t=(z / 16+z)&&&1085102592571150095) :
  y<18446744073709551616∧z≤4919131752989213764∧t≤578721382704613384∧((t+t / 256)+(t+t / 256) / 65536+((t+t / 256)+(t+t / 256) / 65536) / 4294967296) % 128=Go.Lib.popAux 64 x:=by
 obtain ⟨l,hl⟩:∃ l,l=zpO 8 x:=⟨_,rfl⟩
 have hlen:l.length=8:=by rw [hl,ztN]
 have hok:okB l:=by rw [hl];exact zwi 8 x
 have hv:val l=x:=by rw [hl];exact ztM 8 x (by simpa using hx)
 have h1:=st1 l hok
 have hok1:okB (l.map b1):=fun a ha=>by
  obtain ⟨b,hb,rfl⟩:=List.mem_map.1 ha
  exact b1_lt ⟨b,hok b hb⟩
 have h2:=st2 (l.map b1) hok1
 have hok2:∀ a∈(l.map b1).map b2,a≤68∧a % 16≤4:=fun a ha=>by
  rw [List.map_map] at ha
  obtain ⟨b,hb,rfl⟩:=List.mem_map.1 ha
  exact b21_ok ⟨b,hok b hb⟩
 have h3:=st3 ((l.map b1).map b2) hok2
 have h4:=zBk l hok
 simp only [List.length_map,hlen] at h1 h2 h3 h4
 rw [hv,show zzi 85 8=6148914691236517205 from rfl,←hy] at h1
 rw [←h1,show zzi 51 8=3689348814741910323 from rfl,←hz] at h2
 rw [←h2,show zzi 15 8=1085102592571150095 from rfl,←ht] at h3
 rw [hv] at h4
 have hm:((l.map b1).map b2).map b3=l.map (Go.Lib.popAux 8):=by
  rw [List.map_map,List.map_map]
  exact List.map_congr_left fun a ha=>(pc_eq ⟨a,hok a ha⟩).1
 rw [hm] at h3
 have g1:=bound8 (l.map b1) (by simpa using hlen) 255 fun a ha=>by have:=hok1 a ha;omega
 have g2:=bound8 ((l.map b1).map b2) (by simpa using hlen) 68 fun a ha=>(hok2 a ha).1
 rw [←h1] at g1
 rw [←h2] at g2
 refine ⟨by omega,by omega,?_⟩
 obtain ⟨a0,a1,a2,a3,a4,a5,a6,a7,e⟩:=list8 hlen
 have q:∀ a∈l,Go.Lib.popAux 8 a≤8:=fun a ha=>(pc_eq ⟨a,hok a ha⟩).2
 rw [e] at q h3 h4
 simp only [List.mem_cons,List.not_mem_nil,or_false,forall_eq_or_imp,forall_eq] at q
 simp only [List.map_cons,List.map_nil,val,Nat.mul_zero,Nat.add_zero] at h3
 simp only [List.map_cons,List.map_nil,List.sum_cons,List.sum_nil,Nat.add_zero] at h4
 rw [show 8*8=64 from rfl] at h4
 rw [h4]
 exact sum8 _ _ _ _ _ _ _ _ q t _ _ h3 rfl rfl
theorem zwp:∀ (n b:Nat),b<2 ^ n→b≠0→(ziI n b).getLast? = some (Go.Lib.bitLenAux n b-1)
 | 0,b,h,h0=>by simp at h;omega
 | n+1,b,h,h0=>by
  rw [Nat.pow_succ] at h
  rw [Go.Lib.bitLenAux,if_neg h0]
  by_cases c:b / 2=0
  ·have:b=1:=by omega
   subst this
   have e:Go.Lib.bitLenAux n 0=0:=by cases n<;>simp [Go.Lib.bitLenAux]
   simp [ziI,zsK,e]
  ·have ih:=zwp n (b / 2) (by omega) c
   have hb:1≤Go.Lib.bitLenAux n (b / 2):=by
    cases n with
    | zero=>simp at h;omega
    | succ n=>rw [Go.Lib.bitLenAux,if_neg c];omega
   have e:((ziI n (b / 2)).map (·+1)).getLast? = some (1+Go.Lib.bitLenAux n (b / 2)-1):=by
    rw [List.getLast?_map,ih]
    simp;omega
   unfold ziI
   split
   ·rw [List.getLast?_cons,e]
    rfl
   ·exact e
structure Dm where
 vals:List Int
 live:Nat
 deriving DecidableEq,Inhabited
abbrev zaj (d:Dm):V:=.agg [zab d.vals,.int .u64 (d.live:Nat)]
def rising:Option Int→List Int→Bool
 | _,[]=>true
 | p,v::r=>decide (-1048576≤v)&&decide (v≤1048576)&&(match p with
  | none=>true
  | some q=>decide (q<v))&&rising (some v) r
def zcX (d:Dm):Bool:=decide (d.vals.length≤64)&&decide (d.live<2 ^ d.vals.length)&&rising none d.vals
def zag (d:Dm):List Int:=if zcX d=true then zdH d.vals d.live else []
def zfV (d:Dm):Nat:=(zag d).length
def zau (p:Int→Bool) (d:Dm):Dm:=if zcX d=true then ⟨d.vals,zcY p d.vals d.live⟩ else ⟨[],0⟩
theorem zBt {d:Dm}:zcX d=true↔d.vals.length≤64∧d.live<2 ^ d.vals.length∧rising none d.vals=true:=by
 unfold zcX
 simp only [Bool.and_eq_true,decide_eq_true_eq]
 exact and_assoc
def zwF:List Bool→Nat
 | []=>0
 | b::r=>b.toNat+2*zwF r
def zbT (p:Int→Bool):List Int→Nat→List Bool
 | [],_=>[]
 | v::r,b=>(b % 2==1&&p v)::zbT p r (b / 2)
theorem ztl (p:Int→Bool):∀ (l:List Int) (b:Nat),(zbT p l b).length=l.length
 | [],_=>rfl
 | v::r,b=>by simp [zbT,ztl p r]
theorem ztX:∀ n,zwF (List.replicate n false)=0
 | 0=>rfl
 | n+1=>by simp [List.replicate_succ,zwF,ztX n]
theorem zAQ:∀ l:List Bool,zwF l<2 ^ l.length
 | []=>by simp [zwF]
 | b::r=>by
  have:=zAQ r
  rw [List.length_cons,Nat.pow_succ,zwF]
  cases b<;>simp<;>omega
theorem zvn (p:Int→Bool) (m:Nat):∀ (l:List Int) (b:Nat),zwF (zbT p l b++List.replicate m false)=zcY p l b
 | [],b=>by simp [zbT,zcY,ztX]
 | v::r,b=>by
  rw [zbT,List.cons_append,zwF,zvn p m r,zcY]
  by_cases c:b % 2=1<;>cases p v<;>simp [c]
theorem zvJ:∀ (l:List Int) (b:Nat),b<2 ^ l.length→zcY (fun _=>true) l b=b
 | [],b,h=>by simp at h;simp [zcY,h]
 | v::r,b,h=>by
  rw [List.length_cons,Nat.pow_succ] at h
  rw [zcY,zvJ r (b / 2) (by omega)]
  by_cases c:b % 2=1
  ·simp [c];omega
  ·simp [c];omega
theorem zwC (p:Int→Bool) (v:Int) (r:List Int) (b:Nat):zcY p (v::r) b % 2=(if b % 2=1∧p v=true then 1 else 0)∧zcY p (v::r) b / 2=zcY p r (b / 2):=by
 rw [zcY]
 split<;>constructor<;>omega
theorem zs5 (p q:Int→Bool):∀ (l:List Int) (b:Nat),zcY p l (zcY q l b)=zcY (fun v=>q v&&p v) l b
 | [],b=>rfl
 | v::r,b=>by
  obtain ⟨h1,h2⟩:=zwC q v r b
  rw [zcY,h1,h2,zs5 p q r,zcY]
  congr 1
  by_cases c:b % 2=1<;>cases q v<;>cases p v<;>simp [c]
theorem ztQ (p:Int→Bool):∀ (l:List Int) (b:Nat),zdH l (zcY p l b)=(zdH l b).filter p
 | [],b=>rfl
 | v::r,b=>by
  obtain ⟨h1,h2⟩:=zwC p v r b
  rw [zdH,h1,h2,ztQ p r,zdH]
  by_cases c:b % 2=1
  ·cases hp:p v<;>simp [c,hp]
  ·simp [c]
theorem zym (l:List Int) (b:Nat) (hl:l.length≤64) (hb:b<2 ^ l.length) (h0:b≠0):(zdH l b)[0]? = some (l.getD (Go.Lib.ctz 64 b) 0):=by
 have h64:2 ^ l.length≤2 ^ 64:=Nat.pow_le_pow_right (by omega) hl
 have e:ziI l.length b=lsts 64 b:=(zql l.length 64 b hl hb hl).symm
 rw [←zlA,e]
 show (List.map _ (lsts (63+1) b))[0]? = _
 rw [lsts,if_neg h0]
 rfl
theorem zyT (l:List Int) (b:Nat) (hl:l.length≤64) (hb:b<2 ^ l.length) (h0:b≠0):(zdH l b).getLast? = some (l.getD (Go.Lib.bitLen b-1) 0):=by
 rw [←zlA,List.getLast?_map,zwp _ _ hb h0]
 unfold Go.Lib.bitLen
 rw [Go.Lib.bitLenAux_fuel l.length b hb 64 hl]
 rfl
theorem zwE (l:List Int) (b:Nat) (hb:b<2 ^ l.length):zdH l b=[]↔b=0:=by
 rw [←zlA,List.map_eq_nil_iff,zxM _ _ hb]
theorem zy1 (l:List Int) (b:Nat) (hl:l.length≤64) (hb:b<2 ^ l.length):Go.Lib.popAux 64 b=(zdH l b).length:=by
 rw [zvt,←zs7 l.length 64 b hb hl,zuq]
theorem zBd (b:Nat) (n:Nat) (hn:n≤64) (hb:b<2 ^ n) (h0:b≠0):1≤Go.Lib.bitLen b∧Go.Lib.bitLen b≤n:=by
 refine ⟨?_,Go.Lib.bitLen_le b n hn hb⟩
 unfold Go.Lib.bitLen
 show 1≤Go.Lib.bitLenAux (63+1) b
 rw [Go.Lib.bitLenAux,if_neg h0]
 omega
theorem ctz_lt (b n:Nat) (hn:n≤64) (hb:b<2 ^ n) (h0:b≠0):Go.Lib.ctz 64 b<n:=by
 have e:ziI n b=lsts 64 b:=(zql n 64 b hn hb hn).symm
 refine zuR n b _ ?_
 rw [e]
 show _∈lsts (63+1) b
 rw [lsts,if_neg h0]
 simp
theorem zw0 {p:Option Int} {v:Int} {r:List Int} (h:rising p (v::r)=true):-1048576≤v∧v≤1048576∧(∀ q,p=some q→q<v)∧rising (some v) r=true:=by
 cases p with
 | none=>simp [rising] at h;exact ⟨h.1.1,h.1.2,by simp,h.2⟩
 | some q=>simp [rising] at h;exact ⟨h.1.1.1,h.1.1.2,fun x e=>by cases e;exact h.1.2,h.2⟩
theorem zoa:∀ {l:List Int} {p:Option Int},rising p l=true→(∀ v∈l,-1048576≤v∧v≤1048576)∧l.Pairwise (·<·)∧∀ q,p=some q→∀ v∈l,q<v
 | [],p,_=>⟨by simp,.nil,by simp⟩
 | v::r,p,h=>by
  obtain ⟨h1,h2,h3,h4⟩:=zw0 h
  obtain ⟨g1,g2,g3⟩:=zoa h4
  refine ⟨fun x hx=>?_,List.pairwise_cons.2 ⟨g3 v rfl,g2⟩,fun q hq x hx=>?_⟩
  ·rcases List.mem_cons.1 hx with rfl|hx
   ·exact ⟨h1,h2⟩
   ·exact g1 x hx
  ·have:=h3 q hq
   rcases List.mem_cons.1 hx with rfl|hx
   ·exact this
   ·have:=g3 v rfl x hx;omega
end Go.RR
namespace Go.RR.FX
open Go Go.RR Go.RR.M
abbrev Ls:=List (List Int)
def atL (L:Ls) (v:Int):List Int:=L.getD v.toNat []
def lo (xs:List Int):Int:=xs.headD 0
def hi (xs:List Int):Int:=xs.getLastD 0
def ends (L:Ls) (skip:Int→Bool):List Int→List Int→Int×Int
 | k::ks,v::vs=>if skip v=true then ends L skip ks vs else ((ends L skip ks vs).1+min (k*lo (atL L v)) (k*hi (atL L v)),(ends L skip ks vs).2+max (k*lo (atL L v)) (k*hi (atL L v)))
 | _,_=>(0,0)
def zmA (low high rel a:Int):Bool:=
 if rel=0 then decide (low≤a)&&decide (a≤high) else if rel=1 then !decide (low=a)||!decide (high=a) else if rel=2 then decide (low<a) else if rel=3 then decide (low≤a) else if rel=4 then decide (a<high) else decide (a≤high)
def zgF (r:Int):Int:=if r=0 then 1 else if r=1 then 0 else 7-r
def zkv (ks vs:List Int) (v:Int):Int:=ks.getD (vs.idxOf v) 0
def zti (ks vs:List Int) (rel a:Int) (L:Ls) (v x:Int):Bool:=
 zmA ((ends L (fun u=>u==v) ks vs).1+zkv ks vs v*x) ((ends L (fun u=>u==v) ks vs).2+zkv ks vs v*x) rel a
def wiped (vs:List Int) (L:Ls):Bool:=vs.any fun u=>(atL L u).isEmpty
def zxe (c:Con) (L:Ls) (v x:Int):Bool:=match c.vars with
 | []=>true
 | f::rest=>
  let yes:=(atL L f).contains 1
  let no:=(atL L f).contains 0
  if (!yes&&!no)=true then false
  else if v=f then
   (decide (x=1)&&zmA (ends L (fun _=>false) c.coefs rest).1 (ends L (fun _=>false) c.coefs rest).2 c.rel c.const)||(decide (x=0)&&zmA (ends L (fun _=>false) c.coefs rest).1 (ends L (fun _=>false) c.coefs rest).2 (zgF c.rel) c.const)
  else if no=false then zti c.coefs rest c.rel c.const L v x
  else if yes=false then zti c.coefs rest (zgF c.rel) c.const L v x
  else true
def zvY (vs:List Int) (L:Ls) (v x:Int):Bool:=
 if v=vs.getD 0 0 then (atL L (vs.getD 1 0)).any fun b=>(atL L (vs.getD 2 0)).contains (x*b)
 else if v=vs.getD 1 0 then (atL L (vs.getD 0 0)).any fun a=>(atL L (vs.getD 2 0)).contains (a*x)
 else (atL L (vs.getD 0 0)).any fun a=>(atL L (vs.getD 1 0)).any fun b=>a*b==x
def ziy (nums:List Int) (i n:Int):Bool:=decide (0≤i)&&decide (i<nums.length)&&(nums.getD i.toNat 0==n)
def ztB (c:Con) (L:Ls) (v x:Int):Bool:=
 if v=c.vars.getD 0 0 then (atL L (c.vars.getD 1 0)).any fun n=>ziy c.nums x n
 else (atL L (c.vars.getD 0 0)).any fun i=>ziy c.nums i x
def uni (l:List Int):List Int:=l.foldl (fun a v=>if a.contains v then a else a++[v]) []
def zwn (vs:List Int) (L:Ls) (v x:Int):Bool:=
 !(wiped vs L||decide ((uni (vs.flatMap fun u=>atL L u)).length<vs.length))&&!(vs.any fun u=>!(u==v)&&(atL L u==[x]))
def zgA (n:Nat):Nat→List Int→List (List Int)
 | 0,_=>[]
 | k+1,nums=>nums.take n::zgA n k (nums.drop n)
def zgz (vs:List Int) (L:Ls) (r:List Int):Bool:=(vs.zip r).all fun q=>(atL L q.1).contains q.2
def zEq (c:Con) (L:Ls) (v x:Int):Bool:=
 (zgA c.vars.length (c.nums.length / c.vars.length) c.nums).any fun r=>zgz c.vars L r&&(r.getD (c.vars.idxOf v) 0==x)
def kp (c:Con) (L:Ls) (v x:Int):Bool:=
 if c.vars.contains v=false then true
 else if c.kind=1 then !wiped c.vars L&&zti c.coefs c.vars c.rel c.const L v x
 else if c.kind=3 then !wiped c.vars L&&zxe c L v x
 else if c.kind=2 then zvY c.vars L v x
 else if c.kind=4 then ztB c L v x
 else if c.kind=5 then zwn c.vars L v x
 else zEq c L v x
structure Sub (xs ys:List Int):Prop where
 m:∀ x∈xs,x∈ys
 s1:xs.Pairwise (·<·)
 s2:ys.Pairwise (·<·)
def zx5 (vs:List Int) (L' L:Ls):Prop:=∀ v∈vs,Sub (atL L' v) (atL L v)
theorem lo_le {xs:List Int} (h:xs.Pairwise (·<·)) {x:Int} (hx:x∈xs):lo xs≤x:=by
 cases xs with
 | nil=>simp at hx
 | cons a r=>
  rcases List.mem_cons.1 hx with rfl|h2
  ·exact Int.le_refl _
  ·have:=(List.pairwise_cons.1 h).1 x h2
   show a≤x
   omega
theorem zt1 {xs:List Int} (h:xs≠[]):lo xs∈xs:=by
 cases xs with
 | nil=>exact absurd rfl h
 | cons a r=>simp [lo]
theorem zs2 {xs:List Int} (h:xs≠[]):hi xs∈xs:=by
 unfold hi
 rw [List.getLastD_eq_getLast?,List.getLast?_eq_some_getLast h]
 exact List.getLast_mem h
theorem le_hi {xs:List Int} (h:xs.Pairwise (·<·)):∀ {x:Int},x∈xs→x≤hi xs:=by
 induction xs with
 | nil=>intro x hx;simp at hx
 | cons a r ih=>
  intro x hx
  have hp:=List.pairwise_cons.1 h
  cases r with
  | nil=>
   simp only [List.mem_singleton] at hx
   subst hx
   simp [hi]
  | cons b r=>
   have e:hi (a::b::r)=hi (b::r):=by simp [hi,List.getLastD_eq_getLast?]
   rw [e]
   rcases List.mem_cons.1 hx with rfl|h2
   ·have h3:=ih hp.2 (x:=b) (by simp)
    have:=hp.1 b (by simp)
    omega
   ·exact ih hp.2 h2
theorem zB2 {k a b lo' hi':Int} (h1:a≤lo') (h2:hi'≤b) (h3:lo'≤hi'):min (k*a) (k*b)≤min (k*lo') (k*hi')∧max (k*lo') (k*hi')≤max (k*a) (k*b):=by
 rcases Int.le_total 0 k with hk|hk
 ·have e1:k*a≤k*lo':=Int.mul_le_mul_of_nonneg_left h1 hk
  have e2:k*hi'≤k*b:=Int.mul_le_mul_of_nonneg_left h2 hk
  have e3:k*lo'≤k*hi':=Int.mul_le_mul_of_nonneg_left h3 hk
  omega
 ·have e1:k*lo'≤k*a:=Int.mul_le_mul_of_nonpos_left hk h1
  have e2:k*b≤k*hi':=Int.mul_le_mul_of_nonpos_left hk h2
  have e3:k*hi'≤k*lo':=Int.mul_le_mul_of_nonpos_left hk h3
  omega
theorem zsN {L' L:Ls} {skip:Int→Bool}:∀ {vs ks:List Int},zx5 vs L' L→(∀ v∈vs,atL L' v≠[])→(ends L skip ks vs).1≤(ends L' skip ks vs).1∧(ends L' skip ks vs).2≤(ends L skip ks vs).2
 | [],ks,_,_=>by cases ks<;>simp [ends]
 | v::vs,[],_,_=>by simp [ends]
 | v::vs,k::ks,hs,hn=>by
  have ih:=zsN (skip:=skip) (vs:=vs) (ks:=ks) (fun u hu=>hs u (by simp [hu])) (fun u hu=>hn u (by simp [hu]))
  rw [ends,ends]
  by_cases c:skip v=true
  ·rw [if_pos c,if_pos c];exact ih
  ·rw [if_neg c,if_neg c]
   have h1:=hs v (by simp)
   have h2:=hn v (by simp)
   have m1:=h1.m _ (zt1 h2)
   have m2:=h1.m _ (zs2 h2)
   have:=zB2 (k:=k) (lo_le h1.s2 m1) (le_hi h1.s2 m2) (lo_le h1.s1 (zs2 h2))
   exact ⟨by omega,by omega⟩
theorem zsW {l h l' h' rel a:Int} (h1:l≤l') (h2:h'≤h) (h3:l'≤h') (hm:zmA l' h' rel a=true):zmA l h rel a=true:=by
 unfold zmA at hm ⊢
 split
 ·rename_i e;rw [if_pos e] at hm;simp only [Bool.and_eq_true,decide_eq_true_eq] at hm ⊢;omega
 ·rename_i e;rw [if_neg e] at hm
  split
  ·rename_i e;rw [if_pos e] at hm;simp only [Bool.or_eq_true,Bool.not_eq_true',decide_eq_false_iff_not] at hm ⊢;omega
  ·rename_i e;rw [if_neg e] at hm
   split
   ·rename_i e;rw [if_pos e] at hm;simp only [decide_eq_true_eq] at hm ⊢;omega
   ·rename_i e;rw [if_neg e] at hm
    split
    ·rename_i e;rw [if_pos e] at hm;simp only [decide_eq_true_eq] at hm ⊢;omega
    ·rename_i e;rw [if_neg e] at hm
     split
     ·rename_i e;rw [if_pos e] at hm;simp only [decide_eq_true_eq] at hm ⊢;omega
     ·rename_i e;rw [if_neg e] at hm;simp only [decide_eq_true_eq] at hm ⊢;omega
theorem zwJ {L:Ls} {skip:Int→Bool}:∀ {vs ks:List Int},(ends L skip ks vs).1≤(ends L skip ks vs).2
 | [],ks=>by cases ks<;>simp [ends]
 | v::vs,[]=>by simp [ends]
 | v::vs,k::ks=>by
  have ih:=zwJ (L:=L) (skip:=skip) (vs:=vs) (ks:=ks)
  rw [ends]
  split
  ·exact ih
  ·show (_:Int)≤_
   simp only
   omega
theorem zqE {vs:List Int} {L' L:Ls} (h:zx5 vs L' L) (hw:wiped vs L'=false):wiped vs L=false:=by
 unfold wiped at hw ⊢
 rw [List.any_eq_false] at hw ⊢
 intro u hu q
 apply hw u hu
 simp only [List.isEmpty_iff] at q ⊢
 have:=(h u hu).m
 rw [q] at this
 rw [List.eq_nil_iff_forall_not_mem]
 intro x hx
 exact absurd (this x hx) (by simp)
theorem zn1 {vs:List Int} {L:Ls} (h:wiped vs L=false):∀ v∈vs,atL L v≠[]:=by
 unfold wiped at h
 rw [List.any_eq_false] at h
 intro v hv e
 exact h v hv (by simp [e])
theorem zsI {ks vs:List Int} {rel a:Int} {L' L:Ls} {v x:Int} (hs:zx5 vs L' L) (hn:∀ v∈vs,atL L' v≠[]) (h:zti ks vs rel a L' v x=true):zti ks vs rel a L v x=true:=by
 unfold zti at h ⊢
 have h1:=zsN (skip:=fun u=>u==v) (ks:=ks) hs hn
 have h2:=zwJ (L:=L') (skip:=fun u=>u==v) (vs:=vs) (ks:=ks)
 exact zsW (by omega) (by omega) (by omega) h
theorem zek {xs ys:List Int} (h:Sub xs ys) {x:Int} (hx:xs.contains x=true):ys.contains x=true:=by
 rw [List.contains_iff_mem] at hx ⊢
 exact h.m x hx
theorem zob {xs ys:List Int} (h:Sub xs ys) {p q:Int→Bool} (hpq:∀ x,p x=true→q x=true) (hx:xs.any p=true):ys.any q=true:=by
 obtain ⟨x,h1,h2⟩:=List.any_eq_true.1 hx
 exact List.any_eq_true.2 ⟨x,h.m x h1,hpq x h2⟩
theorem zAz {c:Con} {L' L:Ls} {v x:Int} (hs:zx5 c.vars L' L) (hw:wiped c.vars L'=false) (hx:x∈atL L' v) (hv:v∈c.vars) (h:zxe c L' v x=true):zxe c L v x=true:=by
 have hn:=zn1 hw
 unfold zxe at h ⊢
 cases hc:c.vars with
 | nil=>rfl
 | cons f rest=>
  rw [hc] at h hs hn hv
  simp only at h ⊢
  have hf:=hs f (by simp)
  have hr:zx5 rest L' L:=fun u hu=>hs u (by simp [hu])
  have hnr:∀ u∈rest,atL L' u≠[]:=fun u hu=>hn u (by simp [hu])
  by_cases c1:(!(atL L' f).contains 1&&!(atL L' f).contains 0)=true
  ·rw [if_pos c1] at h;cases h
  rw [if_neg c1] at h
  have yn:(atL L' f).contains 1=true∨(atL L' f).contains 0=true:=by
   cases h1:(atL L' f).contains 1<;>cases h0:(atL L' f).contains 0<;>simp_all
  have c1':¬(!(atL L f).contains 1&&!(atL L f).contains 0)=true:=by
   rcases yn with y|y<;>(have q:=zek hf y;rw [q];simp)
  rw [if_neg c1']
  by_cases c2:v=f
  ·rw [if_pos c2] at h ⊢
   have h1:=zsN (skip:=fun _=>false) (ks:=c.coefs) hr hnr
   have h2:=zwJ (L:=L') (skip:=fun _=>false) (vs:=rest) (ks:=c.coefs)
   simp only [Bool.or_eq_true,Bool.and_eq_true] at h ⊢
   rcases h with ⟨h3,h4⟩|⟨h3,h4⟩
   ·exact .inl ⟨h3,zsW h1.1 h1.2 h2 h4⟩
   ·exact .inr ⟨h3,zsW h1.1 h1.2 h2 h4⟩
  ·rw [if_neg c2] at h ⊢
   by_cases c3:(atL L f).contains 0=false
   ·rw [if_pos c3]
    have c3':(atL L' f).contains 0=false:=by
     rw [Bool.eq_false_iff]
     intro q
     rw [zek hf q] at c3
     cases c3
    rw [if_pos c3'] at h
    exact zsI hr hnr h
   ·rw [if_neg c3]
    by_cases c4:(atL L f).contains 1=false
    ·rw [if_pos c4]
     have c4':(atL L' f).contains 1=false:=by
      rw [Bool.eq_false_iff]
      intro q
      rw [zek hf q] at c4
      cases c4
     have c3':¬(atL L' f).contains 0=false:=by
      intro q
      rcases yn with y|y
      ·rw [c4'] at y;cases y
      ·rw [q] at y;cases y
     rw [if_neg c3',if_pos c4'] at h
     exact zsI hr hnr h
    ·rw [if_neg c4]
theorem zyx {vs:List Int} {L' L:Ls} {v x:Int} (hl:vs.length=3) (hs:zx5 vs L' L) (h:zvY vs L' v x=true):zvY vs L v x=true:=by
 match vs,hl with
 | [a,b,c],_=>
  have ha:=hs a (by simp)
  have hb:=hs b (by simp)
  have hc:=hs c (by simp)
  unfold zvY at h ⊢
  simp only [List.getD_cons_zero,List.getD_cons_succ] at h ⊢
  split
  ·rename_i e;rw [if_pos e] at h;exact zob hb (fun y hy=>zek hc hy) h
  ·rename_i e;rw [if_neg e] at h
   split
   ·rename_i e;rw [if_pos e] at h;exact zob ha (fun y hy=>zek hc hy) h
   ·rename_i e;rw [if_neg e] at h;exact zob ha (fun y hy=>zob hb (fun _ q=>q) hy) h
theorem zyr {c:Con} {L' L:Ls} {v x:Int} (hl:c.vars.length=2) (hs:zx5 c.vars L' L) (h:ztB c L' v x=true):ztB c L v x=true:=by
 unfold ztB at h ⊢
 match hv:c.vars,hl with
 | [a,b],_=>
  rw [hv] at h hs
  have ha:=hs a (by simp)
  have hb:=hs b (by simp)
  simp only [List.getD_cons_zero,List.getD_cons_succ] at h ⊢
  split
  ·rename_i e;rw [if_pos e] at h;exact zob hb (fun _ q=>q) h
  ·rename_i e;rw [if_neg e] at h;exact zob ha (fun _ q=>q) h
theorem zu9:∀ (l a:List Int),a.Nodup→(l.foldl (fun a v=>if a.contains v then a else a++[v]) a).Nodup∧∀ x,x∈l.foldl (fun a v=>if a.contains v then a else a++[v]) a↔x∈a∨x∈l
 | [],a,h=>⟨h,fun x=>by simp⟩
 | v::r,a,h=>by
  rw [List.foldl_cons]
  by_cases c:a.contains v=true
  ·rw [if_pos c]
   obtain ⟨h1,h2⟩:=zu9 r a h
   refine ⟨h1,fun x=>?_⟩
   rw [h2,List.mem_cons]
   have:=List.contains_iff_mem.1 c
   constructor
   ·rintro (q|q)
    ·exact .inl q
    ·exact .inr (.inr q)
   ·rintro (q|rfl|q)
    ·exact .inl q
    ·exact .inl this
    ·exact .inr q
  ·rw [if_neg c]
   have hv:v∉a:=fun q=>c (List.contains_iff_mem.2 q)
   obtain ⟨h1,h2⟩:=zu9 r (a++[v]) (by
    rw [List.nodup_append]
    refine ⟨h,by simp,fun x hx y hy=>?_⟩
    rw [List.mem_singleton.1 hy]
    rintro rfl
    exact hv hx)
   refine ⟨h1,fun x=>?_⟩
   rw [h2,List.mem_append,List.mem_singleton,List.mem_cons]
   constructor
   ·rintro ((q|q)|q)
    ·exact .inl q
    ·exact .inr (.inl q)
    ·exact .inr (.inr q)
   ·rintro (q|q|q)
    ·exact .inl (.inl q)
    ·exact .inl (.inr q)
    ·exact .inr q
theorem zBe (l:List Int):(uni l).Nodup:=(zu9 l [] List.nodup_nil).1
theorem zEv (l:List Int) (x:Int):x∈uni l↔x∈l:=by
 have h:x∈uni l↔x∈[]∨x∈l:=(zu9 l [] List.nodup_nil).2 x
 rw [h]
 simp
theorem zA3 {a b:List Int} (h:a.Nodup) (hs:∀ x∈a,x∈b):a.length≤b.length:=by
 induction a generalizing b with
 | nil=>simp
 | cons x r ih=>
  have hx:=hs x (by simp)
  have hn:=List.nodup_cons.1 h
  have:=ih (b:=b.erase x) hn.2 (fun y hy=>(List.mem_erase_of_ne (by rintro rfl;exact hn.1 hy)).2 (hs y (by simp [hy])))
  rw [List.length_erase_of_mem hx] at this
  have:0<b.length:=List.length_pos_of_mem hx
  simp only [List.length_cons]
  omega
theorem zyH {vs:List Int} {L' L:Ls} {v x:Int} (hs:zx5 vs L' L) (h:zwn vs L' v x=true):zwn vs L v x=true:=by
 unfold zwn at h ⊢
 simp only [Bool.and_eq_true,Bool.not_eq_true',Bool.or_eq_false_iff,decide_eq_false_iff_not] at h ⊢
 obtain ⟨⟨h1,h2⟩,h3⟩:=h
 refine ⟨⟨zqE hs h1,?_⟩,?_⟩
 ·have:(uni (vs.flatMap fun u=>atL L' u)).length≤(uni (vs.flatMap fun u=>atL L u)).length:=zA3 (zBe _) fun y hy=>by
   rw [zEv,List.mem_flatMap] at hy ⊢
   obtain ⟨u,hu,hy⟩:=hy
   exact ⟨u,hu,(hs u hu).m y hy⟩
  omega
 ·rw [List.any_eq_false] at h3 ⊢
  intro u hu q
  apply h3 u hu
  simp only [Bool.and_eq_true,beq_iff_eq,Bool.not_eq_true'] at q ⊢
  refine ⟨q.1,?_⟩
  have hn:=zn1 h1 u hu
  have hm:=(hs u hu).m
  have hp:=(hs u hu).s1
  rw [q.2] at hm
  cases e:atL L' u with
  | nil=>exact absurd e hn
  | cons a r=>
   rw [e] at hm hp
   have ha:=List.mem_singleton.1 (hm a (by simp))
   subst ha
   cases r with
   | nil=>rfl
   | cons b r=>
    have hb:=List.mem_singleton.1 (hm b (by simp))
    have:=(List.pairwise_cons.1 hp).1 b (by simp)
    omega
theorem zyU {vs r:List Int} {L' L:Ls} (hs:zx5 vs L' L) (h:zgz vs L' r=true):zgz vs L r=true:=by
 unfold zgz at h ⊢
 rw [List.all_eq_true] at h ⊢
 intro q hq
 exact zek (hs q.1 (List.of_mem_zip hq).1) (h q hq)
theorem zAH {c:Con} {L' L:Ls} {v x:Int} (hs:zx5 c.vars L' L) (h:zEq c L' v x=true):zEq c L v x=true:=by
 unfold zEq at h ⊢
 obtain ⟨r,h1,h2⟩:=List.any_eq_true.1 h
 refine List.any_eq_true.2 ⟨r,h1,?_⟩
 simp only [Bool.and_eq_true] at h2 ⊢
 exact ⟨zyU hs h2.1,h2.2⟩
structure ConW (c:Con):Prop where
 p:c.kind=2→c.vars.length=3
 e:c.kind=4→c.vars.length=2
theorem zwQ {c:Con} {L' L:Ls} {v x:Int} (hw:ConW c) (hs:zx5 c.vars L' L) (hx:x∈atL L' v) (h:kp c L' v x=true):kp c L v x=true:=by
 unfold kp at h ⊢
 split
 ·rfl
 rename_i c0
 rw [if_neg c0] at h
 have hv:v∈c.vars:=List.contains_iff_mem.1 (by simpa using c0)
 split
 ·rename_i e
  rw [if_pos e] at h
  simp only [Bool.and_eq_true,Bool.not_eq_true'] at h ⊢
  exact ⟨zqE hs h.1,zsI hs (zn1 h.1) h.2⟩
 rename_i e;rw [if_neg e] at h
 split
 ·rename_i e
  rw [if_pos e] at h
  simp only [Bool.and_eq_true,Bool.not_eq_true'] at h ⊢
  exact ⟨zqE hs h.1,zAz hs h.1 hx hv h.2⟩
 rename_i e;rw [if_neg e] at h
 split
 ·rename_i e;rw [if_pos e] at h;exact zyx (hw.p e) hs h
 rename_i e;rw [if_neg e] at h
 split
 ·rename_i e;rw [if_pos e] at h;exact zyr (hw.e e) hs h
 rename_i e;rw [if_neg e] at h
 split
 ·rename_i e;rw [if_pos e] at h;exact zyH hs h
 ·rename_i e;rw [if_neg e] at h;exact zAH hs h
def rv (row:List Int) (v:Int):Int:=row.getD v.toNat 0
def one (row:List Int):Ls:=row.map fun x=>[x]
theorem zrJ {r:Int} (h:0≤r∧r≤5):0≤zgF r∧zgF r≤5:=by
 unfold zgF
 split
 ·omega
 ·split<;>omega
theorem zwz {n:Int}:∀ {l pre:List Int},vOK n pre l=true→l.Nodup∧∀ v∈l,v∉pre
 | [],pre,_=>⟨List.nodup_nil,by simp⟩
 | v::r,pre,h=>by
  simp only [vOK,Bool.and_eq_true,Bool.not_eq_true',List.any_eq_false,decide_eq_true_eq] at h
  obtain ⟨⟨⟨h1,h2⟩,h3⟩,h4⟩:=h
  obtain ⟨i1,i2⟩:=zwz h4
  have hv:v∉pre:=fun q=>h3 v q (by simp)
  refine ⟨List.nodup_cons.2 ⟨fun q=>i2 v q (by simp),i1⟩,fun u hu=>?_⟩
  rcases List.mem_cons.1 hu with rfl|hu
  ·exact hv
  ·exact fun q=>i2 u hu (by simp [q])
structure RC (c:Con) (n:Nat):Prop where
 nd:c.vars.Nodup
 b:∀ v∈c.vars,0≤v∧v<n
 w:ConW c
 k:1≤c.kind∧c.kind≤6
 s:c.kind=1→c.coefs.length=c.vars.length∧0≤c.rel∧c.rel≤5
 i:c.kind=3→c.coefs.length+1=c.vars.length∧0≤c.rel∧c.rel≤5
 t:c.kind=6→1≤c.vars.length∧c.nums.length % c.vars.length=0
 v8:c.vars.length≤9∧c.nums.length≤96
theorem RC.of {c:Con} {n:Nat} (h:zaC c n=true):RC c n:=by
 have key:∀ {a b:Int},zfq c n a b=true→c.vars.Nodup∧(∀ v∈c.vars,0≤v∧v<n)∧a≤c.vars.length∧(c.vars.length:Int)≤b:=fun {a b} h=>by
  unfold zfq at h
  simp only [Bool.and_eq_true,decide_eq_true_eq] at h
  exact ⟨(zwz h.2).1,zzr h.2,h.1.1,h.1.2⟩
 unfold zaC at h
 split at h
 ·rename_i e
  unfold zlt zw2 at h
  simp only [Bool.and_eq_true,decide_eq_true_eq] at h
  obtain ⟨k1,k2,k3,k4⟩:=key h.1
  exact ⟨k1,k2,⟨fun q=>by omega,fun q=>by omega⟩,by omega,fun _=>⟨by omega,h.2.2.2.2.1,h.2.2.2.2.2.1⟩,fun q=>by omega,fun q=>by omega,by omega,by have:=h.2.2.2.2.2.2.2;omega⟩
 split at h
 ·rename_i e
  unfold zkE znA at h
  simp only [Bool.and_eq_true,decide_eq_true_eq] at h
  obtain ⟨k1,k2,k3,k4⟩:=key h.1
  exact ⟨k1,k2,⟨fun q=>by omega,fun q=>by omega⟩,by omega,fun q=>by omega,fun q=>by omega,fun q=>by omega,by omega,by have:=h.2.2.2.2.2.1;omega⟩
 split at h
 ·rename_i e
  unfold zBY zw2 at h
  simp only [Bool.and_eq_true,decide_eq_true_eq] at h
  obtain ⟨k1,k2,k3,k4⟩:=key h.1
  exact ⟨k1,k2,⟨fun q=>by omega,fun q=>by omega⟩,by omega,fun q=>by omega,fun _=>⟨by omega,h.2.2.2.2.1,h.2.2.2.2.2.1⟩,fun q=>by omega,by omega,by have:=h.2.2.2.2.2.2.2;omega⟩
 split at h
 ·rename_i e
  unfold zkQ znA at h
  simp only [Bool.and_eq_true,decide_eq_true_eq] at h
  obtain ⟨k1,k2,k3,k4⟩:=key h.1
  exact ⟨k1,k2,⟨fun q=>by omega,fun q=>by omega⟩,by omega,fun q=>by omega,fun q=>by omega,fun q=>by omega,by omega,by have:=h.2.2.2.2.2.1;omega⟩
 split at h
 ·rename_i e
  unfold zlk znA at h
  simp only [Bool.and_eq_true,decide_eq_true_eq] at h
  obtain ⟨k1,k2,k3,k4⟩:=key h.1
  exact ⟨k1,k2,⟨fun q=>by omega,fun q=>by omega⟩,by omega,fun q=>by omega,fun q=>by omega,fun q=>by omega,by omega,by have:=h.2.2.2.2.2.1;omega⟩
 split at h
 ·rename_i e
  unfold zrk znA at h
  simp only [Bool.and_eq_true,decide_eq_true_eq] at h
  obtain ⟨k1,k2,k3,k4⟩:=key h.1
  refine ⟨k1,k2,⟨fun q=>by omega,fun q=>by omega⟩,by omega,fun q=>by omega,fun q=>by omega,fun _=>⟨by omega,?_⟩,by omega,by have:=h.2.1.2.2.2.2.1;omega⟩
  have:=h.2.2
  rw [Int.tmod_eq_emod_of_nonneg (by omega)] at this
  omega
 ·cases h
theorem zaD {p q:Int→Bool} {d:Dm} (h:∀ x∈zag d,p x=q x):zau p d=zau q d:=by
 unfold zau
 unfold zag at h
 split
 ·rename_i hm
  rw [if_pos hm] at h
  rw [zo1 _ _ h]
 ·rfl
theorem zhg {p:Int→Bool} {d:Dm} (hm:zcX d=true):(zau p d).vals=d.vals∧zcX (zau p d)=true∧zag (zau p d)=(zag d).filter p:=by
 have e:zau p d=⟨d.vals,zcY p d.vals d.live⟩:=if_pos hm
 have hm2:zcX (⟨d.vals,zcY p d.vals d.live⟩:Dm)=true:=by
  rw [zBt] at hm ⊢
  exact ⟨hm.1,zyh p _ _,hm.2.2⟩
 refine ⟨by rw [e],by rw [e,hm2],?_⟩
 rw [e]
 unfold zag
 rw [if_pos hm2,if_pos hm]
 exact ztQ p d.vals d.live
theorem ziD {p:Int→Bool} {d:Dm} (hm:zcX d=true) (h:∀ x∈zag d,p x=true):zau p d=d:=by
 have e:zau p d=zau (fun _=>true) d:=zaD h
 rw [e]
 unfold zau
 rw [if_pos hm,zvJ _ _ (zBt.1 hm).2.1]
theorem zhC {d:Dm} (hm:zcX d=true):(zag d).Pairwise (·<·):=by
 unfold zag
 rw [if_pos hm]
 have:=(zoa (zBt.1 hm).2.2).2.1
 have:∀ (l:List Int) (b:Nat),l.Pairwise (·<·)→(zdH l b).Pairwise (·<·):=fun l=>by
  induction l with
  | nil=>intro b _;simp [zdH]
  | cons v r ih=>
   intro b hp
   have hp2:=List.pairwise_cons.1 hp
   unfold zdH
   split
   ·exact List.pairwise_cons.2 ⟨fun x hx=>hp2.1 x (znE r _ x hx),ih _ hp2.2⟩
   ·exact ih _ hp2.2
 exact this _ _ (by assumption)
theorem zwr:∀ {l:List Int} {a b:Nat},l.Pairwise (·<·)→a<2 ^ l.length→b<2 ^ l.length→(∀ x,x∈zdH l a↔x∈zdH l b)→a=b
 | [],a,b,_,ha,hb,_=>by simp at ha hb;omega
 | v::r,a,b,hp,ha,hb,h=>by
  have hp2:=List.pairwise_cons.1 hp
  have nv:∀ k,v∉zdH r k:=fun k q=>by
   have:=hp2.1 v (znE r k v q)
   omega
  rw [List.length_cons,Nat.pow_succ] at ha hb
  have hpar:a % 2=1↔b % 2=1:=by
   have:=h v
   unfold zdH at this
   constructor
   ·intro q
    rw [if_pos q] at this
    rcases Nat.mod_two_eq_zero_or_one b with z|z
    ·rw [if_neg (by omega)] at this
     exact absurd (this.1 (by simp)) (nv _)
    ·exact z
   ·intro q
    rw [if_pos q] at this
    rcases Nat.mod_two_eq_zero_or_one a with z|z
    ·rw [if_neg (by omega)] at this
     exact absurd (this.2 (by simp)) (nv _)
    ·exact z
  have ih:=zwr (l:=r) (a:=a / 2) (b:=b / 2) hp2.2 (by omega) (by omega) fun x=>by
   have:=h x
   unfold zdH at this
   by_cases q:a % 2=1
   ·rw [if_pos q,if_pos (hpar.1 q),List.mem_cons,List.mem_cons] at this
    constructor
    ·intro hx
     rcases this.1 (.inr hx) with e|e
     ·subst e;exact absurd hx (nv _)
     ·exact e
    ·intro hx
     rcases this.2 (.inr hx) with e|e
     ·subst e;exact absurd hx (nv _)
     ·exact e
   ·rw [if_neg q,if_neg (fun z=>q (hpar.2 z))] at this
    exact this
  omega
structure LeD (a b:Dm):Prop where
 ma:zcX a=true
 mb:zcX b=true
 v:a.vals=b.vals
 s:∀ x∈zag a,x∈zag b
theorem LeD.refl {a:Dm} (h:zcX a=true):LeD a a:=⟨h,h,rfl,fun _ q=>q⟩
theorem LeD.trans {a b c:Dm} (h:LeD a b) (k:LeD b c):LeD a c:=⟨h.ma,k.mb,h.v.trans k.v,fun x q=>k.s x (h.s x q)⟩
theorem LeD.anti {a b:Dm} (h:LeD a b) (k:LeD b a):a=b:=by
 obtain ⟨va,la⟩:=a
 obtain ⟨vb,lb⟩:=b
 have e:va=vb:=h.v
 subst e
 have hs:=h.s
 have ks:=k.s
 have ma:=h.ma
 have mb:=h.mb
 unfold zag at hs ks
 rw [if_pos ma,if_pos mb] at hs
 rw [if_pos ma,if_pos mb] at ks
 have:la=lb:=zwr (l:=va) (zoa (zBt.1 ma).2.2).2.1 (zBt.1 ma).2.1 (zBt.1 mb).2.1 fun x=>⟨hs x,ks x⟩
 rw [this]
theorem LeD.kept {p:Int→Bool} {d:Dm} (hm:zcX d=true):LeD (zau p d) d:=by
 obtain ⟨h1,h2,h3⟩:=zhg (p:=p) hm
 exact ⟨h2,hm,h1,fun x hx=>by rw [h3] at hx;exact (List.mem_filter.1 hx).1⟩
abbrev Ds:=List Dm
def okL (l:Ds):Prop:=∀ d∈l,zcX d=true
def lists (l:Ds):Ls:=l.map zag
def LeL (a b:Ds):Prop:=a.length=b.length∧∀ (i:Nat) (h:i<a.length) (k:i<b.length),LeD a[i] b[i]
theorem LeL.refl {a:Ds} (h:okL a):LeL a a:=⟨rfl,fun i h1 _=>LeD.refl (h _ (List.getElem_mem h1))⟩
theorem LeL.trans {a b c:Ds} (h:LeL a b) (k:LeL b c):LeL a c:=⟨h.1.trans k.1,fun i h1 h2=>(h.2 i h1 (by have:=h.1;omega)).trans (k.2 i (by have:=h.1;omega) h2)⟩
theorem LeL.anti {a b:Ds} (h:LeL a b) (k:LeL b a):a=b:=List.ext_getElem h.1 fun i h1 h2=>(h.2 i h1 h2).anti (k.2 i h2 h1)
theorem LeL.okl {a b:Ds} (h:LeL a b):okL a:=fun d hd=>by
 obtain ⟨i,hi,rfl⟩:=List.mem_iff_getElem.1 hd
 exact (h.2 i hi (by have:=h.1;omega)).ma
theorem zbn {l:Ds} {v:Int} (h:0≤v∧v<l.length):atL (lists l) v=zag (l[v.toNat]'(by omega)):=by
 unfold atL lists
 rw [List.getD_eq_getElem?_getD,List.getElem?_map,List.getElem?_eq_getElem (by omega)]
 rfl
def zai (c:Con) (l:Ds):Ds:=l.mapIdx fun i d=>zau (kp c (lists l) i) d
theorem zby {c:Con} {l:Ds}:(zai c l).length=l.length:=by simp [zai]
theorem zhB {c:Con} {l:Ds} {i:Nat} (h:i<(zai c l).length):(zai c l)[i]=zau (kp c (lists l) i) (l[i]'(by rw [zby] at h;exact h)):=by
 simp [zai]
theorem zkT {c:Con} {l:Ds} (h:okL l):LeL (zai c l) l:=⟨zby,fun i h1 h2=>by rw [zhB];exact LeD.kept (h _ (List.getElem_mem h2))⟩
theorem LeL.sub {a b:Ds} (h:LeL a b) {vs:List Int} (hv:∀ v∈vs,0≤v∧v<b.length):zx5 vs (lists a) (lists b):=fun v hv'=>by
 have hb:=hv v hv'
 have ha:0≤v∧v<a.length:=by have:=h.1;omega
 rw [zbn ha,zbn hb]
 have:=h.2 v.toNat (by omega) (by omega)
 exact ⟨this.s,zhC this.ma,zhC this.mb⟩
theorem zzB {c:Con} {a b:Ds} (h:LeL a b) (hc:RC c b.length):LeL (zai c a) (zai c b):=by
 refine ⟨by rw [zby,zby,h.1],fun i h1 h2=>?_⟩
 have i1:i<a.length:=by rw [zby] at h1;exact h1
 have i2:i<b.length:=by rw [zby] at h2;exact h2
 have hi:=h.2 i i1 i2
 rw [zhB,zhB]
 obtain ⟨a1,a2,a3⟩:=zhg (p:=kp c (lists a) i) hi.ma
 obtain ⟨b1,b2,b3⟩:=zhg (p:=kp c (lists b) i) hi.mb
 refine ⟨a2,b2,by rw [a1,b1,hi.v],fun x hx=>?_⟩
 rw [a3] at hx
 rw [b3]
 obtain ⟨x1,x2⟩:=List.mem_filter.1 hx
 refine List.mem_filter.2 ⟨hi.s x x1,?_⟩
 have e:atL (lists a) (i:Int)=zag a[i]:=by rw [zbn (by omega)];rfl
 exact zwQ hc.w (h.sub hc.b) (by rw [e];exact x1) x2
theorem zCf {c:Con} {L L':Ls} {v x:Int} (hw:ConW c) (h:∀ u∈c.vars,atL L u=atL L' u) (hs:∀ u∈c.vars,(atL L u).Pairwise (·<·)) (hv:v∈c.vars) (hx:x∈atL L v):kp c L v x=kp c L' v x:=by
 have s1:zx5 c.vars L L':=fun u hu=>⟨fun x hx=>by rw [←h u hu];exact hx,hs u hu,by rw [←h u hu];exact hs u hu⟩
 have s2:zx5 c.vars L' L:=fun u hu=>⟨fun x hx=>by rw [h u hu];exact hx,by rw [←h u hu];exact hs u hu,hs u hu⟩
 rw [Bool.eq_iff_iff]
 exact ⟨zwQ hw s1 hx,zwQ hw s2 (by rw [←h v hv];exact hx)⟩
theorem zqY {c:Con} {L:Ls} {v x:Int} (h:v∉c.vars):kp c L v x=true:=by
 unfold kp
 rw [if_pos]
 rw [Bool.eq_false_iff]
 intro q
 exact h (List.contains_iff_mem.1 q)
theorem ztR {c:Con} {l:Ds} (ok:okL l) {i:Nat} (h:i<l.length) (hv:(i:Int)∉c.vars):(zai c l)[i]'(by rw [zby];exact h)=l[i]:=by
 rw [zhB]
 exact ziD (ok _ (List.getElem_mem h)) fun x _=>zqY hv
theorem zAl {c:Con} {a b:Ds} (oa:okL a) (ob:okL b) (hl:a.length=b.length) (hc:RC c a.length) (h:∀ u∈c.vars,∀ (h1:u.toNat<a.length) (h2:u.toNat<b.length),a[u.toNat]=b[u.toNat]) (hf:zai c a=a):zai c b=b:=by
 refine List.ext_getElem zby fun i h1 h2=>?_
 by_cases hv:(i:Int)∈c.vars
 ·have hi:i<a.length:=by omega
  have e:a[i]=b[i]:=h i hv hi h2
  have hL:∀ u∈c.vars,atL (lists b) u=atL (lists a) u:=fun u hu=>by
   have hb:=hc.b u hu
   rw [zbn (l:=a) hb,zbn (l:=b) (by omega),h u hu (by omega) (by omega)]
  have hsb:∀ u∈c.vars,(atL (lists b) u).Pairwise (·<·):=fun u hu=>by
   have hb:=hc.b u hu
   rw [zbn (l:=b) (by omega)]
   exact zhC (ob _ (List.getElem_mem _))
  rw [zhB]
  refine ziD (ob _ (List.getElem_mem h2)) fun x hx=>?_
  have ea:(zai c a)[i]'(by rw [zby];exact hi)=a[i]:=by simp only [hf]
  rw [zhB] at ea
  have k:=(zhg (p:=kp c (lists a) i) (oa _ (List.getElem_mem hi))).2.2
  rw [ea,e] at k
  have hx2:x∈(zag b[i]).filter (kp c (lists a) i):=by rw [←k];exact hx
  have eb:atL (lists b) (i:Int)=zag b[i]:=by rw [zbn (by omega)];rfl
  rw [zCf hc.w hL hsb hv (by rw [eb];exact hx)]
  exact (List.mem_filter.1 hx2).2
 ·exact ztR ob h2 hv
inductive Steps (cs:List Con) (l:Ds):Ds→Prop where
 | refl:Steps cs l l
 | step {r:Ds} {c:Con} (h:Steps cs l r) (hc:c∈cs):Steps cs l (zai c r)
def fixed (cs:List Con) (l:Ds):Prop:=∀ c∈cs,zai c l=l
def RCs (cs:List Con) (n:Nat):Prop:=∀ c∈cs,RC c n
theorem Steps.le {cs:List Con} {l r:Ds} (ok:okL l) (h:Steps cs l r):LeL r l:=by
 induction h with
 | refl=>exact LeL.refl ok
 | step h hc ih=>exact (zkT ih.okl).trans ih
theorem Steps.ge {cs:List Con} {l r g:Ds} (ok:okL l) (hR:RCs cs l.length) (h:Steps cs l r) (hg:LeL g l) (hf:fixed cs g):LeL g r:=by
 induction h with
 | refl=>exact hg
 | @step r c h hc ih=>
  have hl:=(h.le ok).1
  have:=zzB ih (c:=c) (by rw [hl];exact hR c hc)
  rw [hf c hc] at this
  exact this
theorem Steps.one {cs:List Con} {l a b:Ds} (ok:okL l) (hR:RCs cs l.length) (ha:Steps cs l a) (fa:fixed cs a) (hb:Steps cs l b) (fb:fixed cs b):a=b:=
 (hb.ge ok hR (ha.le ok) fa).anti (ha.ge ok hR (hb.le ok) fb)
theorem Steps.trans {cs:List Con} {l r s:Ds} (h:Steps cs l r) (k:Steps cs r s):Steps cs l s:=by
 induction k with
 | refl=>exact h
 | step k hc ih=>exact .step ih hc
end Go.RR.FX
namespace Go.RR.M
open Go Go.RR
abbrev iv (n:Int):V:=.int .i64 n
end Go.RR.M
namespace Go.RR
theorem andU' (a b:Nat) (ha:a<18446744073709551616) (hb:b<18446744073709551616):IntKind.u64.wrap ((a % 2 ^ IntKind.u64.bits&&&b % 2 ^ IntKind.u64.bits:Nat):Int)=((a&&&b:Nat):Int):=by
 rw [Nat.mod_eq_of_lt (show a<2 ^ IntKind.u64.bits from ha),Nat.mod_eq_of_lt (show b<2 ^ IntKind.u64.bits from hb)]
 have hx:a&&&b<2 ^ 64:=Nat.and_lt_two_pow _ (by omega)
 exact zlr (by omega) (by omega)
end Go.RR
namespace Go.RR.M
open Go Go.RR
abbrev uv (n:Nat):V:=.int .u64 n
theorem tz (b:Nat) (hb:b<18446744073709551616) (h:List Ob):acw C zaV [uv b] h=some (.ret (iv (Go.Lib.ctz 64 b)),h):=by
 refine zEL (a2:=[uv b]) rfl rfl rfl ?_ rfl
 have h1:(0:Int)≤b∧(b:Int)<18446744073709551616:=by omega
 simp only [C,S,if_neg (show ¬zaV=zas from by decide),if_true,if_pos h1,Int.toNat_natCast]
theorem least (b:Nat) (hb:b<18446744073709551616) (h:List Ob):acw C zhE [uv b] h=some (.ret (iv (if b=0 then -1 else Go.Lib.ctz 64 b)),h):=by
 refine zar (v:=iv (if b=0 then -1 else Go.Lib.ctz 64 b)) (CT zwB) rfl rfl (fun _=>rfl) (by simp) ?_
 by_cases e:b=0
 ·subst e
  simp [zaa,zkm,znw]
 ·have e':¬(b:Int)=0:=by omega
  simp [zaa,zkm,znw,e,ieq,ine,e',tz b hb]
theorem zBD (Y:Yl) (y ib:Nat) (G:List Nat→Nat→List Ob) (hY:∀ pre b,pre.length<64→Y [.mp y,iv (Go.Lib.ctz 64 b)] (G pre b)=some (.ret (.bool true),G (pre++[Go.Lib.ctz 64 b]) b))
  (hB:∀ pre b,(G pre b)[ib]? = some (.row 1 [uv b])) (hS:∀ pre b b',(G pre b).set ib (.row 1 [uv b'])=G pre b'):∀ (n b:Nat) (pre:List Nat),b<18446744073709551616→done n b→pre.length+n≤64 →
  evw C Y zgh [(0,.mp y),(1,.ptr ib 0 0 1)] (G pre b)=some (.ext 0,[(0,.mp y),(1,.ptr ib 0 0 1),(4,.bool false)],G (pre++lsts n b) 0):=by
 have base:∀ pre,evw C Y zgh [(0,.mp y),(1,.ptr ib 0 0 1)] (G pre 0)=some (.ext 0,[(0,.mp y),(1,.ptr ib 0 0 1),(4,.bool false)],G pre 0):=by
  intro pre
  have h0:=hB pre 0
  simp only [uv,Int.cast_ofNat_Int] at h0
  rw [zoB]
  simp [zg3,h0,ieq,ine]
 intro n
 induction n with
 | zero=>
  intro b pre hb hd hl
  have:b=0:=hd
  subst this
  simpa [lsts] using base pre
 | succ n ih=>
  intro b pre hb hd hl
  by_cases e:b=0
  ·subst e
   simpa [lsts] using base pre
  ·have hd:done n (lowc b):=by rcases hd with h|h;exact absurd h e;exact h
   have ih:=ih (lowc b) (pre++[Go.Lib.ctz 64 b]) (zEP hb) hd (by simp;omega)
   have e':¬(b:Int)=0:=by omega
   have h0:=hB pre b
   have h1:=hB (pre++[Go.Lib.ctz 64 b]) b
   have hl:=least b hb (G pre b)
   rw [if_neg e] at hl
   have hw:IntKind.u64.wrap ((b:Int)-1)=((b-1:Nat):Int):=by rw [zlr (by omega) (by omega)];omega
   have ha:=andU' b (b-1) hb (by omega)
   have hk:=(List.getElem?_eq_some_iff.1 h1).1
   rw [zoB]
   simp [zg3,h0,h1,ieq,ine,e,e',hl,hY pre b (by omega),hw,ha,zfi hk]
   have hs:=hS (pre++[Go.Lib.ctz 64 b]) b (lowc b)
   unfold lsts
   rw [if_neg e]
   simp only [uv,lowc] at hs ih ⊢
   rw [hs,ih]
   simp
theorem allF (b:Nat) (h:List Ob):acw C zoi [uv b] h=some (.ret (.fn (.func zfC) [] [.ptr h.length 0 0 1]),h++[.row 1 [uv b]]):=by
 rw [zbd (CT zyt) rfl]
 simp [zaa,zqz,zt0]
abbrev nsV (pre:List Nat):List V:=pre.map fun n:Nat=>iv (n:Int)
abbrev zDS (pre:List Nat) (b:Nat):List Ob:=zon 1 [.row 1 [zpg 1 3 (nsV pre)],.row 1 [uv b],.lp .rdy] (nsV pre)
abbrev frL:Fr:=[(2,.nsl 1),(3,.ptr 0 0 0 1),(6,.fn (.func zfC) [] [.ptr 1 0 0 1])]
theorem zy5 (pre:List Nat) (b n:Nat) (hx:pre.length≤1000000000000):rnd (evw C y0 zdC) (evw C y0 zdD) 2 [7] frL [.mp 2,iv n] (zDS pre b)=some (.ret (.bool true),zDS (pre++[n]) b):=by
 have k4:zii (.int .i64 0) [iv n]=some (.sl 1 [iv n]):=rfl
 cases pre with
 | nil=>
  have k5:∀ nid,zit nid [.row 1 [.nsl 1],.row 1 [uv b],.lp .bsy] 1 8 (.nsl 1) (.sl 1 [iv n])=some (.own nid 0 1 1,some (nid,.row 1 [iv n])):=fun nid=>zCk rfl (by simp) rfl (by simp) (by simp)
  simp [zpg,zon,zdC,zdD,k4,k5]
 | cons a r=>
  have k5:∀ nid,zit nid [.row 1 [.own 3 0 (r.length+1) (r.length+1)],.row 1 [uv b],.lp .bsy,.row 1 (iv a::nsV r)] 1 8 (.own 3 0 (r.length+1) (r.length+1)) (.sl 1 [iv n])=some (.own 3 0 (r.length+1+1) (r.length+1+1),some (3,.row 1 (iv a::nsV r++[iv n]))):=fun nid=>zbj rfl (by simp) rfl (by simp) (by simp) (by simp at hx ⊢;omega) (by simp at hx ⊢;omega)
  simp [zpg,zon,zdC,zdD,k4,k5]
theorem zzX (b:Nat) (hb:b<18446744073709551616) (hd:done 64 b) (h:List Ob):acw C zgP [uv b] h=some (.ret (.sl 1 (nsV (lsts 64 b))),h):=by
 have key:itw C (rnd (evw C y0 zdC) (evw C y0 zdD) 2 [7] frL) zfC [.mp 2,.ptr 1 0 0 1] (zDS [] b)=some (.ret (.tup []),zDS (lsts 64 b) 0):=by
  rw [itw_T (CT zv1)]
  have h0:=zBD (rnd (evw C y0 zdC) (evw C y0 zdD) 2 [7] frL) 2 1 zDS (fun pre b hp=>zy5 pre b _ (by omega)) (fun pre b=>by
   unfold zDS zon;split<;>rfl) (fun pre b b'=>by unfold zDS zon;split<;>rfl) 64 b [] hb hd (by simp)
  simp [zaa,znu,zqS] at h0 ⊢
  rw [h0]
  simp
 obtain ⟨l,hl⟩:∃ l,l=lsts 64 b:=⟨_,rfl⟩
 rw [←hl] at key ⊢
 have ha:=allF b [.row 1 [.nsl 1]]
 simp at ha
 by_cases e:l=[]
 ·subst e
  simp [zpg,zon] at key
  refine zap (a2:=[uv b]) (h':=[.row 1 [.nsl 1],.row 1 [uv 0],.dead]) (v:=.nsl 1) (CT zta) rfl rfl ?_ rfl (by simp)
  simp [zaa,zmk,zpi,ha,key]
 ·simp [zpg,zon,e] at key
  refine zap (a2:=[uv b]) (h':=[.row 1 [.own 3 0 l.length l.length],.row 1 [uv 0],.dead,.row 1 (nsV l)]) (v:=.own 3 0 l.length l.length) (CT zta) rfl rfl ?_ ?_ (by simp)
  ·simp [zaa,zmk,zpi,ha,key]
  ·have:=zkA (h:=[.row 1 [.own 3 0 l.length l.length],.row 1 [uv 0],.dead,.row 1 (nsV l)]) (id:=3) (n:=l.length) (l:=l.map fun n:Nat=>(n:Int)) (by simp) (by simp) 10
   rw [show fdepth=10+2 from rfl,this]
   simp
end Go.RR.M
namespace Go.RR
theorem orU' (a b:Nat) (ha:a<18446744073709551616) (hb:b<18446744073709551616):IntKind.u64.wrap ((a % 2 ^ IntKind.u64.bits|||b % 2 ^ IntKind.u64.bits:Nat):Int)=((a|||b:Nat):Int):=by
 rw [Nat.mod_eq_of_lt (show a<2 ^ IntKind.u64.bits from ha),Nat.mod_eq_of_lt (show b<2 ^ IntKind.u64.bits from hb)]
 have hx:a|||b<2 ^ 64:=Nat.or_lt_two_pow (by omega) (by omega)
 exact zlr (by omega) (by omega)
end Go.RR
namespace Go.RR.M
open Go Go.RR
theorem blist (b:Nat) (hb:b<18446744073709551616) (h:List Ob):acw C zgP [uv b] h=some (.ret (.sl 1 (nsV (ziI 64 b))),h):=by
 have:=zzX b hb (zuT 64 64 b hb (Nat.le_refl _)) h
 rw [zql 64 64 b (Nat.le_refl _) hb (Nat.le_refl _)] at this
 exact this
theorem fdU (x k:Nat):((x:Int)).fdiv (2 ^ k)=((x / 2 ^ k:Nat):Int):=by
 rw [show ((2:Int) ^ k)=((2 ^ k:Nat):Int) by simp,Int.fdiv_eq_ediv_of_nonneg _ (Int.natCast_nonneg _)]
 exact (Int.natCast_ediv _ _).symm
theorem ones64 (x:Nat) (hx:x<18446744073709551616) (h:List Ob):acw C zbQ [uv x] h=some (.ret (iv (Go.Lib.popAux 64 x)),h):=by
 obtain ⟨q1,hq1⟩:∃ y,y=x / 2:=⟨_,rfl⟩
 obtain ⟨p1,hp1⟩:∃ y,y=q1&&&6148914691236517205:=⟨_,rfl⟩
 obtain ⟨p2,hp2⟩:∃ y,y=x&&&6148914691236517205:=⟨_,rfl⟩
 obtain ⟨y,hy⟩:∃ y,y=p1+p2:=⟨_,rfl⟩
 obtain ⟨q2,hq2⟩:∃ z,z=y / 4:=⟨_,rfl⟩
 obtain ⟨p3,hp3⟩:∃ z,z=q2&&&3689348814741910323:=⟨_,rfl⟩
 obtain ⟨p4,hp4⟩:∃ z,z=y&&&3689348814741910323:=⟨_,rfl⟩
 obtain ⟨z,hz⟩:∃ z,z=p3+p4:=⟨_,rfl⟩
 obtain ⟨q3,hq3⟩:∃ y,y=z / 16:=⟨_,rfl⟩
 obtain ⟨s,hs⟩:∃ y,y=q3+z:=⟨_,rfl⟩
 obtain ⟨t,ht⟩:∃ y,y=s&&&1085102592571150095:=⟨_,rfl⟩
 obtain ⟨q4,hq4⟩:∃ y,y=t / 256:=⟨_,rfl⟩
 obtain ⟨u,hu⟩:∃ y,y=t+q4:=⟨_,rfl⟩
 obtain ⟨q5,hq5⟩:∃ y,y=u / 65536:=⟨_,rfl⟩
 obtain ⟨w,hw⟩:∃ y,y=u+q5:=⟨_,rfl⟩
 obtain ⟨q6,hq6⟩:∃ y,y=w / 4294967296:=⟨_,rfl⟩
 obtain ⟨v,hv⟩:∃ y,y=w+q6:=⟨_,rfl⟩
 obtain ⟨h1,h2,h3,h4⟩:=zDR x y z t hx (by rw [hy,hp1,hp2,hq1]) (by rw [hz,hp3,hp4,hq2]) (by rw [ht,hs,hq3])
 obtain ⟨pc,hpc⟩:∃ y,y=Go.Lib.popAux 64 x:=⟨_,rfl⟩
 rw [←hpc] at h4 ⊢
 have h4':v % 128=pc:=by rw [←h4,hv,hq6,hw,hq5,hu,hq4]
 have f1:(x:Int).fdiv (2 ^ min 1 IntKind.u64.bits)=(q1:Int):=by rw [hq1];exact fdU x 1
 have f2:(y:Int).fdiv (2 ^ min 2 IntKind.u64.bits)=(q2:Int):=by rw [hq2];exact fdU y 2
 have f3:(z:Int).fdiv (2 ^ min 4 IntKind.u64.bits)=(q3:Int):=by rw [hq3];exact fdU z 4
 have f4:(t:Int).fdiv (2 ^ min 8 IntKind.u64.bits)=(q4:Int):=by rw [hq4];exact fdU t 8
 have f5:(u:Int).fdiv (2 ^ min 16 IntKind.u64.bits)=(q5:Int):=by rw [hq5];exact fdU u 16
 have f6:(w:Int).fdiv (2 ^ min 32 IntKind.u64.bits)=(q6:Int):=by rw [hq6];exact fdU w 32
 have w0:∀ n:Nat,n<18446744073709551616→IntKind.u64.wrap (n:Int)=n:=fun n hn=>zlr (by omega) (by omega)
 have g1:=w0 q1 (by omega)
 have g2:=w0 q2 (by omega)
 have g3:=w0 q3 (by omega)
 have g4:=w0 q4 (by omega)
 have g5:=w0 q5 (by omega)
 have g6:=w0 q6 (by omega)
 have a1:=andU' q1 6148914691236517205 (by omega) (by omega)
 have a2:=andU' x 6148914691236517205 (by omega) (by omega)
 have a3:=andU' q2 3689348814741910323 (by omega) (by omega)
 have a4:=andU' y 3689348814741910323 (by omega) (by omega)
 have a5:=andU' s 1085102592571150095 (by omega) (by omega)
 rw [←hp1] at a1
 rw [←hp2] at a2
 rw [←hp3] at a3
 rw [←hp4] at a4
 rw [←ht] at a5
 have s1:IntKind.u64.wrap ((p1:Int)+p2)=y:=by rw [zlr (by omega) (by omega)];omega
 have s2:IntKind.u64.wrap ((p3:Int)+p4)=z:=by rw [zlr (by omega) (by omega)];omega
 have s3:IntKind.u64.wrap ((q3:Int)+z)=s:=by rw [zlr (by omega) (by omega)];omega
 have s4:IntKind.u64.wrap ((t:Int)+q4)=u:=by rw [zlr (by omega) (by omega)];omega
 have s5:IntKind.u64.wrap ((u:Int)+q5)=w:=by rw [zlr (by omega) (by omega)];omega
 have s6:IntKind.u64.wrap ((w:Int)+q6)=v:=by rw [zlr (by omega) (by omega)];omega
 have hvb:v<9223372036854775808:=by omega
 have s7:IntKind.i64.wrap (v:Int)=v:=wrap64 (by omega) (by omega)
 have s8:IntKind.i64.wrap ((v % 2 ^ IntKind.i64.bits&&&127 % 2 ^ IntKind.i64.bits:Nat):Int)=pc:=by
  rw [Nat.mod_eq_of_lt (show v<2 ^ IntKind.i64.bits from Nat.lt_of_lt_of_le hvb (by decide)),show 127 % 2 ^ IntKind.i64.bits=2 ^ 7-1 from rfl,Nat.and_two_pow_sub_one_eq_mod,show 2 ^ 7=128 from rfl,h4']
  exact wrap64 (by omega) (by omega)
 refine zar (v:=iv pc) (CT zmc) rfl rfl (fun _=>rfl) (by simp) ?_
 clear hq1 hp1 hp2 hy hq2 hp3 hp4 hz hq3 hs ht hq4 hu hq5 hw hq6 hv h4 h4' hpc w0
 simp [zaa,zc6,zgo,f1,f2,f3,f4,f5,f6,g1,g2,g3,g4,g5,g6,a1,a2,a3,a4,a5,s1,s2,s3,s4,s5,s6,s7,s8]
theorem count (b:Nat) (hb:b<18446744073709551616) (h:List Ob):acw C zkL [uv b] h=some (.ret (iv (Go.Lib.popAux 64 b)),h):=by
 have k:=ones64 b hb
 refine zar (v:=iv (Go.Lib.popAux 64 b)) (CT zwe) rfl rfl (fun _=>rfl) (by simp) ?_
 simp [zaa,zmX,zrj,k]
theorem len64 (b:Nat) (hb:b<18446744073709551616) (h:List Ob):acw C zcM [uv b] h=some (.ret (iv (Go.Lib.bitLen b)),h):=by
 refine zEL (a2:=[uv b]) rfl rfl rfl ?_ rfl
 have h1:(0:Int)≤b∧(b:Int)<18446744073709551616:=by omega
 simp only [C,S,if_neg (show ¬zcM=zas from by decide),if_neg (show ¬zcM=zaV from by decide),if_true,if_pos h1,Int.toNat_natCast]
theorem greatest (b:Nat) (hb:b<18446744073709551616) (h:List Ob):acw C zgs [uv b] h=some (.ret (iv (Go.Lib.bitLen b-1)),h):=by
 have hl:=Go.Lib.bitLen_le b 64 (Nat.le_refl _) hb
 have k1:=len64 b hb
 have w1:IntKind.i64.wrap (64-(Go.Lib.bitLen b:Int))=64-Go.Lib.bitLen b:=wrap64 (by omega) (by omega)
 have w2:IntKind.i64.wrap (63-(64-(Go.Lib.bitLen b:Int)))=Go.Lib.bitLen b-1:=by rw [wrap64 (by omega) (by omega)];omega
 have k:∀ h,acw C zbk [uv b] h=some (.ret (iv (64-Go.Lib.bitLen b)),h):=fun h=>by
  refine zar (v:=iv (64-Go.Lib.bitLen b)) (CT zj5) rfl rfl (fun _=>rfl) (by simp) ?_
  simp [zaa,zcc,zex,k1,w1]
 refine zar (v:=iv (Go.Lib.bitLen b-1)) (CT zr9) rfl rfl (fun _=>rfl) (by simp) ?_
 simp [zaa,zi4,znX,k,w2]
theorem first (n:Nat) (hn:n≤64) (h:List Ob):acw C zkl [iv n] h=some (.ret (uv (2 ^ n-1)),h):=by
 refine zar (v:=uv (2 ^ n-1)) (CT zwb) rfl rfl (fun _=>rfl) (by simp) ?_
 by_cases c0:n=0
 ·subst c0
  simp [zaa,zhP,zkH]
 have c0':¬(n:Int)≤0:=by omega
 by_cases c1:n=64
 ·subst c1
  simp [zaa,zhP,zkH]
 have c1':¬(64:Int)≤n:=by omega
 have hp:2 ^ n≤2 ^ 63:=Nat.pow_le_pow_right (by omega) (by omega)
 have hq:0<2 ^ n:=Nat.two_pow_pos n
 have hn0:¬(n:Int)<0:=by omega
 obtain ⟨P,hP⟩:∃ P,P=2 ^ n:=⟨_,rfl⟩
 have w1:IntKind.u64.wrap (2 ^ min n IntKind.u64.bits)=(P:Int):=by
  rw [show min n IntKind.u64.bits=n from Nat.min_eq_left (show n≤64 by omega),show ((2:Int) ^ n)=(P:Int) by rw [hP];simp]
  exact zlr (by omega) (by omega)
 have w2:IntKind.u64.wrap ((P:Int)-1)=((P-1:Nat):Int):=by rw [zlr (by omega) (by omega)];omega
 rw [←hP]
 simp [zaa,zhP,zkH,c0,c0',c1',hn0,w1,w2]
theorem zEm (k:Nat) (hk:k<64) (h:List Ob):acw C zqa [.sl 1 [iv k]] h=some (.ret (uv (2 ^ k)),h):=by
 refine zar (v:=uv (2 ^ k)) (CT zBi) rfl rfl (fun _=>rfl) (by simp) ?_
 have hp:2 ^ k≤2 ^ 63:=Nat.pow_le_pow_right (by omega) (by omega)
 have l1:∀ a:Nat,a=2 ^ k→evw C y0 zkI [(3,uv a),(6,.sl 1 [iv k]),(7,iv 1),(8,iv 1)] []=some (.ext 0,[(3,uv a),(6,.sl 1 [iv k]),(7,iv 1),(8,iv 1),(9,.bool false)],[]):=fun a _=>by
  rw [zse]
  simp [zlN]
 have l0:evw C y0 zkI [(3,.int .u64 0),(6,.sl 1 [iv k]),(7,iv 1),(8,iv 0)] []=some (.ext 0,[(3,uv (2 ^ k)),(6,.sl 1 [iv k]),(7,iv 1),(8,iv 1),(9,.bool false)],[]):=by
  have h1:(k:Int)<64:=by omega
  have hn0:¬(k:Int)<0:=by omega
  have l1:=l1 _ rfl
  obtain ⟨P,hP⟩:∃ P,P=2 ^ k:=⟨_,rfl⟩
  have w1:IntKind.u64.wrap (2 ^ min k IntKind.u64.bits)=(P:Int):=by
   rw [show min k IntKind.u64.bits=k from Nat.min_eq_left (show k≤64 by omega),show ((2:Int) ^ k)=(P:Int) by rw [hP];simp]
   exact zlr (by omega) (by omega)
  have w2:IntKind.u64.wrap ((P:Int) % 2 ^ IntKind.u64.bits)=P:=by
   rw [show ((2:Int) ^ IntKind.u64.bits)=18446744073709551616 from rfl,Int.emod_eq_of_lt (by omega) (by omega)]
   exact zlr (by omega) (by omega)
  rw [←hP] at l1 ⊢
  rw [zse,←l1]
  simp [zlN,h1,hn0,w1,w2]
 simp [zaa,zsL,zwk,l0]
end Go.RR.M
namespace Go.RR
theorem anU' (a b:Nat) (ha:a<18446744073709551616) (hb:b<18446744073709551616):(IntKind.u64.wrap ((BitVec.ofInt IntKind.u64.bits (a:Int)&&&~~~ BitVec.ofInt IntKind.u64.bits (b:Int)).toNat:Int)=0)↔a&&&b=a:=by
 show (IntKind.u64.wrap ((BitVec.ofInt 64 (a:Int)&&&~~~ BitVec.ofInt 64 (b:Int)).toNat:Int)=0)↔a&&&b=a
 rw [BitVec.ofInt_natCast,BitVec.ofInt_natCast]
 have hlt:(BitVec.ofNat 64 a&&&~~~ BitVec.ofNat 64 b).toNat<2 ^ 64:=BitVec.isLt _
 have hw:IntKind.u64.wrap ((BitVec.ofNat 64 a&&&~~~ BitVec.ofNat 64 b).toNat:Int)=((BitVec.ofNat 64 a&&&~~~ BitVec.ofNat 64 b).toNat:Int):=zlr (by omega) (by omega)
 have e3:(BitVec.ofNat 64 a&&&BitVec.ofNat 64 b).toNat=a&&&b:=by
  rw [BitVec.toNat_and,BitVec.toNat_ofNat,BitVec.toNat_ofNat,Nat.mod_eq_of_lt (show a<2 ^ 64 from ha),Nat.mod_eq_of_lt (show b<2 ^ 64 from hb)]
 have e4:(BitVec.ofNat 64 a).toNat=a:=by rw [BitVec.toNat_ofNat];exact Nat.mod_eq_of_lt ha
 have key:(BitVec.ofNat 64 a&&&~~~ BitVec.ofNat 64 b)=0#64↔BitVec.ofNat 64 a&&&BitVec.ofNat 64 b=BitVec.ofNat 64 a:=by
  constructor
  ·intro h
   apply BitVec.eq_of_getLsbD_eq
   intro i hi
   have:=congrArg (fun v=>v.getLsbD i) h
   simp only [BitVec.getLsbD_and,BitVec.getLsbD_not,BitVec.getLsbD_zero,hi,decide_true,Bool.true_and] at this ⊢
   revert this
   generalize (BitVec.ofNat 64 a).getLsbD i=p
   generalize (BitVec.ofNat 64 b).getLsbD i=q
   cases p<;>cases q<;>decide
  ·intro h
   apply BitVec.eq_of_getLsbD_eq
   intro i hi
   have:=congrArg (fun v=>v.getLsbD i) h
   simp only [BitVec.getLsbD_and,BitVec.getLsbD_not,BitVec.getLsbD_zero,hi,decide_true,Bool.true_and] at this ⊢
   revert this
   generalize (BitVec.ofNat 64 a).getLsbD i=p
   generalize (BitVec.ofNat 64 b).getLsbD i=q
   cases p<;>cases q<;>decide
 rw [hw]
 constructor
 ·intro h
  have h0:(BitVec.ofNat 64 a&&&~~~ BitVec.ofNat 64 b)=0#64:=BitVec.eq_of_toNat_eq (by simp only [BitVec.toNat_zero];omega)
  rw [←e3,key.1 h0,e4]
 ·intro h
  have h0:BitVec.ofNat 64 a&&&BitVec.ofNat 64 b=BitVec.ofNat 64 a:=BitVec.eq_of_toNat_eq (by rw [e3,e4,h])
  rw [key.2 h0]
  rfl
theorem an_bin (a b:Nat) (ha:a<18446744073709551616) (hb:b<18446744073709551616):∃ A:Nat,bin .andNot (.int .u64 (a:Int)) (.int .u64 (b:Int))=some (.int .u64 (A:Int))∧(A=0↔a&&&b=a):=by
 have h:=anU' a b ha hb
 have hlt:(BitVec.ofInt IntKind.u64.bits (a:Int)&&&~~~ BitVec.ofInt IntKind.u64.bits (b:Int)).toNat<2 ^ 64:=BitVec.isLt _
 have hw:IntKind.u64.wrap ((BitVec.ofInt IntKind.u64.bits (a:Int)&&&~~~ BitVec.ofInt IntKind.u64.bits (b:Int)).toNat:Int)=((BitVec.ofInt IntKind.u64.bits (a:Int)&&&~~~ BitVec.ofInt IntKind.u64.bits (b:Int)).toNat:Int):=zlr (by omega) (by omega)
 refine ⟨(BitVec.ofInt IntKind.u64.bits (a:Int)&&&~~~ BitVec.ofInt IntKind.u64.bits (b:Int)).toNat,?_,?_⟩
 ·simp only [bin,zvc,if_true]
  rw [hw]
 ·rw [hw] at h
  rw [←h]
  omega
theorem zAY (a n:Nat):a&&&(2 ^ n-1)=a↔a<2 ^ n:=by
 rw [Nat.and_two_pow_sub_one_eq_mod]
 constructor
 ·intro h;rw [←h];exact Nat.mod_lt _ (Nat.two_pow_pos n)
 ·exact Nat.mod_eq_of_lt
end Go.RR
namespace Go.RR.M
open Go Go.RR
theorem zxQ (d:Dm) (hl:d.vals.length≤64):∀ (k i:Nat) (p:Option Int),i+k=d.vals.length→(∀ (h:0<i) (h':i-1<d.vals.length),p=some d.vals[i-1])→(i=0→p=none) →
  ∃ fr',evw C y0 znZ [(1,.ptr 0 0 0 1),(20,zab d.vals),(21,iv d.vals.length),(22,iv i)] [.row 2 [zaj d]]=some (if rising p (d.vals.drop i)=true then (.ext 0,fr',[.row 2 [zaj d]]) else (.ret,[(2,.bool false)],[.row 2 [zaj d]]))
 | 0,i,p,e,hp,h0=>by
  obtain rfl:i=d.vals.length:=by omega
  rw [zsh,List.drop_length]
  refine ⟨[(1,.ptr 0 0 0 1),(20,zab d.vals),(21,iv d.vals.length),(22,iv d.vals.length),(23,.bool false)],?_⟩
  simp [zd2,rising]
 | k+1,i,p,e,hp,h0=>by
  have hlt:i<d.vals.length:=by omega
  have h2:(i:Int)<d.vals.length:=by omega
  have h3:d.vals[i]? = some d.vals[i]:=by simp [hlt]
  have hw:=zac (i:=i) (n:=d.vals.length) hlt (by omega)
  obtain ⟨fr',ih⟩:=zxQ d hl k (i+1) (some d.vals[i]) (by omega) (fun _ _=>rfl) (by omega)
  simp only [Int.natCast_add,Int.cast_ofNat_Int] at ih
  rw [zsh,List.drop_eq_getElem_cons hlt]
  simp only [rising]
  by_cases c1:d.vals[i] < -1048576
  ·have c1':¬(-1048576≤d.vals[i]):=by omega
   exact ⟨[],by simp [zd2,h2,h3,c1,c1']⟩
  have c1':-1048576≤d.vals[i]:=by omega
  by_cases c2:1048576<d.vals[i]
  ·have c2':¬(d.vals[i]≤1048576):=by omega
   exact ⟨[],by simp [zd2,h2,h3,c1,c1',c2,c2']⟩
  have c2':d.vals[i]≤1048576:=by omega
  by_cases c4:0<i
  ·have hlt':i-1<d.vals.length:=by omega
   have hp1:=hp c4 hlt'
   subst hp1
   have w2:IntKind.i64.wrap ((i:Int)-1)=((i-1:Nat):Int):=by rw [wrap64 (by omega) (by omega)];omega
   have h5:d.vals[i-1]? = some d.vals[i-1]:=by simp [hlt']
   by_cases c5:d.vals[i]≤d.vals[i-1]
   ·have c5':¬(d.vals[i-1]<d.vals[i]):=by omega
    exact ⟨[],by simp [zd2,h2,h3,c1,c1',c2,c2',c4,w2,h5,c5,c5']⟩
   ·have c5':d.vals[i-1]<d.vals[i]:=by omega
    refine ⟨fr',?_⟩
    simp only [c1',c2',c5',decide_true,Bool.true_and,←ih]
    simp [zd2,h2,h3,c1,c2,c4,w2,h5,c5,hw]
  ·have hi0:i=0:=by omega
   have hp0:=h0 hi0
   subst hp0
   refine ⟨fr',?_⟩
   simp only [c1',c2',decide_true,Bool.true_and,←ih]
   simp [zd2,h2,h3,c1,c2,c4,hw]
theorem zjb (d:Dm) (hd:d.live<18446744073709551616) (hn:d.vals.length≤1000000) (h:List Ob):acw C zcl [zaj d] h=some (.ret (.bool (zcX d)),h):=by
 refine zar (v:=.bool (zcX d)) (CT zAg) rfl rfl (fun _=>rfl) (by simp) ?_
 by_cases c1:(64:Int)<d.vals.length
 ·have e:zcX d=false:=by unfold zcX;simp;omega
  rw [e]
  simp [zaa,zlI,zmO,c1]
 have hl:d.vals.length≤64:=by omega
 have kf:=first d.vals.length hl
 have hp:2 ^ d.vals.length≤2 ^ 64:=Nat.pow_le_pow_right (by omega) hl
 have hq:0<2 ^ d.vals.length:=Nat.two_pow_pos _
 obtain ⟨A,kA,ha⟩:=an_bin d.live (2 ^ d.vals.length-1) hd (by omega)
 have ha:=ha.trans (zAY d.live d.vals.length)
 obtain ⟨F,hF⟩:∃ F,F=2 ^ d.vals.length-1:=⟨_,rfl⟩
 rw [←hF] at kf kA
 obtain ⟨fr',lp⟩:=zxQ d hl d.vals.length 0 none (by omega) (by omega) (fun _=>rfl)
 simp only [List.drop_zero,Int.cast_ofNat_Int] at lp
 by_cases c2:d.live<2 ^ d.vals.length
 ·have ha:=ha.2 c2
  cases cr:rising none d.vals with
  | true=>
   have e:zcX d=true:=zBt.2 ⟨hl,c2,cr⟩
   rw [cr] at lp
   rw [e]
   simp at lp
   subst ha
   simp [zaa,zlI,zmO,c1,kf,kA,lp,ieq,ine]
  | false=>
   have e:zcX d=false:=by unfold zcX;rw [cr,Bool.and_false]
   rw [cr] at lp
   rw [e]
   simp at lp
   subst ha
   simp [zaa,zlI,zmO,c1,kf,kA,lp,ieq,ine]
 ·have ha:¬A=0:=fun x=>c2 (ha.1 x)
  have e:zcX d=false:=by unfold zcX;simp [c2]
  rw [e]
  simp [zaa,zlI,zmO,c1,kf,kA,ha,ieq,ine]
theorem zth {d:Dm} (hm:zcX d=true):d.live<18446744073709551616∧ziI 64 d.live=ziI d.vals.length d.live:=by
 obtain ⟨h1,h2,h3⟩:=zBt.1 hm
 have hp:2 ^ d.vals.length≤2 ^ 64:=Nat.pow_le_pow_right (by omega) h1
 exact ⟨by omega,zs7 _ _ _ h2 h1⟩
theorem zvj (d:Dm) (ks:List Nat) (hk:∀ k∈ks,k<d.vals.length) (hn:ks.length≤1000):∀ (m i:Nat) (v:V) (acc:List Int) (h:List Ob),i+m=ks.length→acc.length≤i→h[0]? = some (.row 2 [zaj d])→zmL 1 h v 1 (acc.map (V.int .i64)) →
  ∃ v' h',evw C y0 zjM [(1,.ptr 0 0 0 1),(3,v),(8,.sl 1 (nsV ks)),(9,iv ks.length),(10,iv i)] h=some (.ext 0,[(1,.ptr 0 0 0 1),(3,v'),(8,.sl 1 (nsV ks)),(9,iv ks.length),(10,iv ks.length),(11,.bool false)],h')∧zmL 1 h' v' 1 ((acc++(ks.drop i).map (fun k=>d.vals.getD k 0)).map (V.int .i64))
 | 0,i,v,acc,h,e,ha,h0,hA=>by
  obtain rfl:i=ks.length:=by omega
  rw [List.drop_length,zoU]
  refine ⟨v,h,?_,by simpa using hA⟩
  simp [zhi]
 | m+1,i,v,acc,h,e,ha,h0,hA=>by
  have hlt:i<ks.length:=by omega
  have h2:(i:Int)<ks.length:=by omega
  have h3:ks[i]? = some ks[i]:=by simp [hlt]
  have hw:=zac (i:=i) (n:=ks.length) hlt (by omega)
  have hks:=hk ks[i] (List.getElem_mem hlt)
  have h4:d.vals[ks[i]]? = some d.vals[ks[i]]:=by simp [hks]
  have hh:=(List.getElem?_eq_some_iff.1 h0).1
  obtain ⟨v1,w,e1,e2,-,e4⟩:=hA.app (b:=8) (y:=.sl 1 [iv d.vals[ks[i]]]) (ys:=[iv d.vals[ks[i]]]) (by omega) rfl (by simp only [List.length_cons,List.length_nil,List.length_map];omega) (by simp only [List.length_cons,List.length_nil,List.length_map];omega)
  have e2':zmL 1 (wr h w) v1 1 ((acc++[d.vals[ks[i]]]).map (V.int .i64)):=by simpa using e2
  obtain ⟨v',h',ih1,ih2⟩:=zvj d ks hk hn m (i+1) v1 (acc++[d.vals[ks[i]]]) _ (by omega) (by simp;omega) (by rw [e4 0 (by omega)];exact h0) e2'
  have k4:zii (.int .i64 0) [iv d.vals[ks[i]]]=some (.sl 1 [iv d.vals[ks[i]]]):=rfl
  simp only [Int.natCast_add,Int.cast_ofNat_Int] at ih1
  refine ⟨v',h',?_,?_⟩
  ·rw [zoU,←ih1]
   simp [zhi,h2,h3,h0,h4,k4,e1,hw]
  ·rw [List.drop_eq_getElem_cons hlt,List.map_cons]
   rw [List.append_assoc] at ih2
   have:d.vals.getD ks[i] 0=d.vals[ks[i]]:=by simp [hks]
   rw [this]
   exact ih2
theorem zyG (d:Dm) (hm:zcX d=true) (h:List Ob):acw C zfz [zaj d] h=some (.ret (zab (zdH d.vals d.live)),h):=by
 obtain ⟨hl,hp⟩:=zth hm
 obtain ⟨h1,h2,-⟩:=zBt.1 hm
 have kb:=blist d.live hl
 rw [hp] at kb
 have hn:(ziI d.vals.length d.live).length≤64:=by have:=zrS d.vals.length d.live;omega
 obtain ⟨v',h',l1,l2⟩:=zvj d (ziI d.vals.length d.live) (fun k hk=>zuR _ _ _ hk) (by omega) (ziI d.vals.length d.live).length 0 (.nsl 1) [] [.row 2 [zaj d]] (by omega) (by simp) rfl .nil
 rw [List.drop_zero,List.nil_append,zlA] at l2
 obtain ⟨K,hK⟩:∃ K,K=ziI d.vals.length d.live:=⟨_,rfl⟩
 rw [←hK] at kb l1
 simp only [Int.cast_ofNat_Int] at l1
 have hf:RR.frz h' fdepth v'=some (zab (zdH d.vals d.live)):=l2.frz 11 (zum _ _ _)
 refine zap (a2:=[zaj d]) (h':=h') (v:=v') (CT zvr) rfl rfl ?_ hf (by simp)
 simp [zaa,znx,zqZ,kb,l1]
theorem zhf (d:Dm) (hd:d.live<18446744073709551616) (hn:d.vals.length≤1000000) (h:List Ob):acw C zbZ [zaj d] h=some (.ret (zab (zag d)),h):=by
 have k1:=zjb d hd hn
 have k2:∀ h,acw C ze8 [zaj d,.fn (.func zfz) [] []] h=some (.ret (zab (zag d)),h):=fun h=>by
  unfold zag
  cases hm:zcX d with
  | true=>
   rw [hm] at k1
   have k3:=zyG d hm
   obtain ⟨L,hL⟩:∃ L,L=zdH d.vals d.live:=⟨_,rfl⟩
   rw [←hL] at k3
   rw [if_pos rfl,←hL]
   refine zar (v:=zab L) (CT zmr) rfl rfl (fun _=>rfl) (by simp) ?_
   simp [zaa,ze5,zh6,k1,k3]
  | false=>
   rw [hm] at k1
   rw [if_neg (by simp)]
   refine zap (a2:=[zaj d,.fn (.func zfz) [] []]) (h':=[.row 2 [zaj d]]) (v:=.nsl 1) (CT zmr) rfl rfl ?_ rfl (by simp)
   simp [zaa,ze5,zh6,k1]
 refine zar (v:=zab (zag d)) (CT zys) rfl rfl (fun _=>rfl) (by simp) ?_
 obtain ⟨L,hL⟩:∃ L,L=zag d:=⟨_,rfl⟩
 rw [←hL] at k2 ⊢
 simp [zaa,zqH,zt2,k2]
theorem zrH (d:Dm) (hd:d.live<18446744073709551616) (hn:d.vals.length≤1000000) (h:List Ob):acw C zgW [zaj d] h=some (.ret (iv (zfV d)),h):=by
 have k1:=zjb d hd hn
 have kc:=count d.live hd
 have k3:∀ h,acw C zhz [zaj d] h=some (.ret (iv (Go.Lib.popAux 64 d.live)),h):=fun h=>by
  refine zar (v:=iv (Go.Lib.popAux 64 d.live)) (CT zvF) rfl rfl (fun _=>rfl) (by simp) ?_
  simp [zaa,znT,zrl,kc]
 have k2:∀ h,acw C zfX [zaj d,.fn (.func zhz) [] []] h=some (.ret (iv (zfV d)),h):=fun h=>by
  refine zar (v:=iv (zfV d)) (CT zs8) rfl rfl (fun _=>rfl) (by simp) ?_
  unfold zfV zag
  cases hm:zcX d with
  | true=>
   obtain ⟨h1,h2,-⟩:=zBt.1 hm
   rw [hm] at k1
   rw [if_pos rfl,←zy1 d.vals d.live h1 h2]
   simp [zaa,zgp,zjG,k1,k3]
  | false=>
   rw [hm] at k1
   rw [if_neg (by simp)]
   simp [zaa,zgp,zjG,k1]
 refine zar (v:=iv (zfV d)) (CT zyu) rfl rfl (fun _=>rfl) (by simp) ?_
 simp [zaa,zqr,ztS,k2]
def zmB (d:Dm):Int×Bool:=match (zag d)[0]? with
 | some v=>(v,true)
 | none=>(0,false)
def zoJ (d:Dm):Int×Bool:=match (zag d).getLast? with
 | some v=>(v,true)
 | none=>(0,false)
def zl1 (d:Dm):Int×Bool:=if zfV d=1 then zmB d else (0,false)
theorem zDf (d:Dm) (k:Int) (x:Int×Bool) (hk:x=if k<0 then (0,false) else (d.vals.getD k.toNat 0,true)) (h0:¬k<0→k.toNat<d.vals.length) (h:List Ob):acw C zpQ [zaj d,iv k] h=some (.ret (.tup [iv x.1,.bool x.2]),h):=by
 refine zar (v:=.tup [iv x.1,.bool x.2]) (CT zCG) rfl rfl (fun _=>rfl) (by simp) ?_
 subst hk
 by_cases c:k<0
 ·rw [if_pos c]
  simp [zaa,zrC,zug,c]
 ·rw [if_neg c]
  have h1:=h0 c
  obtain ⟨m,rfl⟩:=Int.eq_ofNat_of_zero_le (show 0≤k by omega)
  simp only [Int.toNat_natCast] at h1 ⊢
  have h2:d.vals[m]? = some d.vals[m]:=by simp [h1]
  have h3:d.vals.getD m 0=d.vals[m]:=by simp [h1]
  rw [h3]
  simp [zaa,zrC,zug,c,h1,h2]
theorem zvM (d:Dm) (hd:d.live<18446744073709551616) (hn:d.vals.length≤1000000) (h:List Ob):acw C zjf [zaj d] h=some (.ret (.tup [iv (zmB d).1,.bool (zmB d).2]),h):=by
 have k1:=zjb d hd hn
 refine zar (v:=.tup [iv (zmB d).1,.bool (zmB d).2]) (CT zw3) rfl rfl (fun _=>rfl) (by simp) ?_
 cases hm:zcX d with
 | true=>
  obtain ⟨h1,h2,-⟩:=zBt.1 hm
  rw [hm] at k1
  have kl:=least d.live hd
  have ka:=zDf d (if d.live=0 then -1 else Go.Lib.ctz 64 d.live) (zmB d) (by
   unfold zmB zag
   rw [hm,if_pos rfl]
   by_cases c:d.live=0
   ·rw [if_pos c,(zwE d.vals d.live h2).2 c]
    rfl
   ·rw [if_neg c,zym d.vals d.live h1 h2 c,if_neg (by omega),Int.toNat_natCast]) (by
   intro hc
   by_cases c:d.live=0
   ·rw [if_pos c] at hc;omega
   ·rw [if_neg c,Int.toNat_natCast]
    exact ctz_lt _ _ h1 h2 c)
  obtain ⟨K,hK⟩:∃ K:Int,K=if d.live=0 then -1 else (Go.Lib.ctz 64 d.live:Int):=⟨_,rfl⟩
  rw [←hK] at kl ka
  simp [zaa,zl5,zpa,k1,kl,ka]
 | false=>
  rw [hm] at k1
  have e:zmB d=(0,false):=by unfold zmB zag;rw [hm];rfl
  rw [e]
  simp [zaa,zl5,zpa,k1]
theorem zvV (d:Dm) (hd:d.live<18446744073709551616) (hn:d.vals.length≤1000000) (h:List Ob):acw C zg8 [zaj d] h=some (.ret (.tup [iv (zoJ d).1,.bool (zoJ d).2]),h):=by
 have k1:=zjb d hd hn
 refine zar (v:=.tup [iv (zoJ d).1,.bool (zoJ d).2]) (CT ztF) rfl rfl (fun _=>rfl) (by simp) ?_
 cases hm:zcX d with
 | true=>
  obtain ⟨h1,h2,-⟩:=zBt.1 hm
  rw [hm] at k1
  have kl:=greatest d.live hd
  have hb:=zBd d.live d.vals.length h1 h2
  have ka:=zDf d (Go.Lib.bitLen d.live-1) (zoJ d) (by
   unfold zoJ zag
   rw [hm,if_pos rfl]
   by_cases c:d.live=0
   ·rw [(zwE d.vals d.live h2).2 c,c]
    rfl
   ·have:=hb c
    have hx:((Go.Lib.bitLen d.live:Int)-1).toNat=Go.Lib.bitLen d.live-1:=by omega
    rw [zyT d.vals d.live h1 h2 c,if_neg (by omega),hx]) (by
   intro hc
   by_cases c:d.live=0
   ·rw [c] at hc;exact absurd (by decide) hc
   ·have:=hb c
    omega)
  obtain ⟨K,hK⟩:∃ K:Int,K=(Go.Lib.bitLen d.live:Int)-1:=⟨_,rfl⟩
  rw [←hK] at kl ka
  simp [zaa,zhl,zlj,k1,kl,ka]
 | false=>
  rw [hm] at k1
  have e:zoJ d=(0,false):=by unfold zoJ zag;rw [hm];rfl
  rw [e]
  simp [zaa,zhl,zlj,k1]
theorem zy2 (d:Dm) (hd:d.live<18446744073709551616) (hn:d.vals.length≤1000000) (h:List Ob):acw C zkx [zaj d] h=some (.ret (.tup [iv (zl1 d).1,.bool (zl1 d).2]),h):=by
 have k1:=zrH d hd hn
 have k2:=zvM d hd hn
 refine zar (v:=.tup [iv (zl1 d).1,.bool (zl1 d).2]) (CT zvX) rfl rfl (fun _=>rfl) (by simp) ?_
 unfold zl1
 by_cases c:zfV d=1
 ·rw [if_pos c]
  have c':(zfV d:Int)=1:=by omega
  simp [zaa,zkb,zm9,k1,k2,c',c,ieq,ine]
 ·rw [if_neg c]
  have c':¬(zfV d:Int)=1:=by omega
  simp [zaa,zkb,zm9,k1,k2,c',c,ieq,ine]
theorem zpP (l:List Int) (x:Int) (hl:l.length≤4611686018427387904) (h:List Ob):acw C zaz [zab l,iv x] h=some (.ret (.bool (l.any fun y=>x==y)),h):=
 contains (C:=C) (n:=zbe) (CT zgb) (CT zeu) (enc:=V.int .i64) (q:=fun a b=>a==b) zAF l x hl (fun _ _=>zqD) Fz.int h
theorem zbz (d:Dm):(zag d).length≤64:=by
 unfold zag
 split
 ·rename_i hm
  obtain ⟨h1,-,-⟩:=zBt.1 hm
  rw [zvt]
  have:=zrS d.vals.length d.live
  omega
 ·simp
theorem zwM (d:Dm) (v:Int) (hd:d.live<18446744073709551616) (hn:d.vals.length≤1000000) (h:List Ob):acw C zjB [zaj d,iv v] h=some (.ret (.bool ((zag d).any fun y=>v==y)),h):=by
 have k1:=zhf d hd hn
 have hl:=zbz d
 have k2:=zpP (zag d) v (by omega)
 obtain ⟨L,hL⟩:∃ L,L=zag d:=⟨_,rfl⟩
 rw [←hL] at k1 k2 ⊢
 obtain ⟨B,hB⟩:∃ B,B=L.any fun y=>v==y:=⟨_,rfl⟩
 rw [←hB] at k2 ⊢
 refine zar (v:=.bool B) (CT zBc) rfl rfl (fun _=>rfl) (by simp) ?_
 simp [zaa,zsE,zww,k1,k2]
theorem zBC (l m:List Int) (hl:l.length≤4611686018427387904) (h:List Ob):acw C zbf [zab l,zab m] h=some (.ret (.bool (decide (l=m))),h):=by
 have:=equal (C:=C) (n:=zbf) (CT zlV) rfl (enc:=V.int .i64) (q:=fun a b=>a==b) zCE l m hl (fun _=>zqD) h
 rw [zAc] at this
 rw [this]
 congr 4
 by_cases e:l=m<;>simp [e]
theorem zCP (d o:Dm) (hn:d.vals.length≤1000000) (h:List Ob):acw C zgX [zaj d,zaj o] h=some (.ret (.bool (decide (d=o))),h):=by
 have k:=zBC d.vals o.vals (by omega)
 refine zar (v:=.bool (decide (d=o))) (CT zy8) rfl rfl (fun _=>rfl) (by simp) ?_
 obtain ⟨a,b⟩:=d
 obtain ⟨a',b'⟩:=o
 simp only [Dm.mk.injEq] at k ⊢
 by_cases c:b=b'
 ·subst c
  by_cases c2:a=a'
  ·subst c2
   simp at k
   simp [zaa,zlB,zn6,k,ieq]
  ·simp [c2] at k
   simp [zaa,zlB,zn6,k,c2,ieq]
 ·have c':¬(b:Int)=b':=by omega
  simp [zaa,zlB,zn6,c,c',ieq]
abbrev zD:V:=.agg [.nsl 1,.int .u64 0]
section
variable (d:Dm) (p:Int→Bool) (f kid:Nat) (cap cap2:List V) (h:List Ob)
abbrev gK (d:Dm) (h:List Ob) (acc:Nat):List Ob:=h++[.row 2 [zaj d],.row 2 [zD],.row 2 [.agg [zab d.vals,uv acc]]]
theorem znK (hk:h[kid]? = some (.row 1 [.fn (.func f) [] cap])) (hd:dataL cap=false) (hd2:dataL cap2=true) (hz:∀ t x,zj4 ((h++t).take 4096) (iv x::cap)=some (iv x::cap2)) (hf:∀ x,acw C f (iv x::cap2) []=some (.ret (.bool (p x)),[]))
  (ks:List Nat) (hks:∀ k∈ks,k<d.vals.length) (hn:d.vals.length≤64) (hkn:ks.length≤64):∀ (m i acc:Nat),i+m=ks.length→acc<18446744073709551616 →
  evw C y0 zjA [(1,.ptr kid 0 0 1),(2,.ptr h.length 0 0 1),(3,.ptr (h.length+1) 0 0 1),(4,.ptr (h.length+2) 0 0 1),(13,.sl 1 (nsV ks)),(14,iv ks.length),(15,iv i)] (gK d h acc) =
   some (.ext 0,[(1,.ptr kid 0 0 1),(2,.ptr h.length 0 0 1),(3,.ptr (h.length+1) 0 0 1),(4,.ptr (h.length+2) 0 0 1),(13,.sl 1 (nsV ks)),(14,iv ks.length),(15,iv ks.length),(16,.bool false)],gK d h ((ks.drop i).foldl (fun a k=>if p (d.vals.getD k 0)=true then a|||2 ^ k else a) acc))
 | 0,i,acc,e,ha=>by
  obtain rfl:i=ks.length:=by omega
  rw [List.drop_length,zkV]
  simp [ze1]
 | m+1,i,acc,e,ha=>by
  have hlt:i<ks.length:=by omega
  have h2:(i:Int)<ks.length:=by omega
  have h3:ks[i]? = some ks[i]:=by simp [hlt]
  have hw:=zac (i:=i) (n:=ks.length) hlt (by omega)
  have hki:=hks ks[i] (List.getElem_mem hlt)
  have h4:d.vals[ks[i]]? = some d.vals[ks[i]]:=by simp [hki]
  have h5:d.vals.getD ks[i] 0=d.vals[ks[i]]:=by simp [hki]
  have hkl:=(List.getElem?_eq_some_iff.1 hk).1
  have hk':∀ t,(h++t)[kid]? = some (.row 1 [.fn (.func f) [] cap]):=fun t=>za3 hk
  have hq:∀ t r,dq false r (crw C y0) f (iv d.vals[ks[i]]::cap) (h++t)=some (.ret (.bool (p d.vals[ks[i]])),h++t):=fun t r=>
   dq_frz (hz t _) (by simp [dataL,V.data,hd]) (by simp [dataL,V.data,hd2]) (hf _) rfl rfl r
  have hdl:dataL (iv d.vals[ks[i]]::cap)=false:=by simp [dataL,V.data,hd]
  rw [List.drop_eq_getElem_cons hlt,List.foldl_cons,h5]
  cases c:p d.vals[ks[i]] with
  | true=>
   have hp:2 ^ ks[i]≤2 ^ 63:=Nat.pow_le_pow_right (by omega) (by omega)
   have ih:=znK hk hd hd2 hz hf ks hks hn hkn m (i+1) (acc|||2 ^ ks[i]) (by omega) (Nat.or_lt_two_pow (n:=64) ha (by omega))
   have ho:=orU' acc (2 ^ ks[i]) ha (by omega)
   have kb:=zEm ks[i] (by omega)
   obtain ⟨P,hP⟩:∃ P,P=2 ^ ks[i]:=⟨_,rfl⟩
   rw [←hP] at ih ho kb ⊢
   have k4:zii (.int .i64 0) [iv ks[i]]=some (.sl 1 [iv ks[i]]):=rfl
   simp only [Int.natCast_add,Int.cast_ofNat_Int] at ih
   rw [if_pos rfl,zkV,←ih]
   rw [c] at hq
   simp [ze1,h2,h3,h4,hk',hdl,hq,kb,k4,ho,hw]
  | false=>
   have ih:=znK hk hd hd2 hz hf ks hks hn hkn m (i+1) acc (by omega) ha
   simp only [Int.natCast_add,Int.cast_ofNat_Int] at ih
   rw [if_neg (by simp),zkV,←ih]
   rw [c] at hq
   simp [ze1,h2,h3,h4,hk',hdl,hq,hw]
end
theorem zgY (l:List Int) (hl:l.length≤1000000) (h:List Ob):acw C zas [zab l] h=some (.ret (zab l),h):=by
 refine zEL (a2:=[zab l]) rfl rfl rfl ?_ (by simp)
 have h1:l.length*8≤70368744177664:=by omega
 have h2:l.length≤70368744177664:=by omega
 have h3:dataL (l.map (V.int .i64))=true:=zrW (by simp)
 simp [C,S,zuW,h1,h2,h3]
theorem kept1 (d:Dm) (p:Int→Bool) (f kid:Nat) (cap cap2:List V) (h:List Ob) (hm:zcX d=true) (hk:h[kid]? = some (.row 1 [.fn (.func f) [] cap])) (hd:dataL cap=false) (hd2:dataL cap2=true) (hz:∀ t x,zj4 ((h++t).take 4096) (iv x::cap)=some (iv x::cap2)) (hf:∀ x,acw C f (iv x::cap2) []=some (.ret (.bool (p x)),[])) :
  acw C zfu [zaj d,.ptr kid 0 0 1] h=some (.ret (zaj ⟨d.vals,zcY p d.vals d.live⟩),h++[.row 2 [zaj d],.row 2 [zaj ⟨d.vals,zcY p d.vals d.live⟩],.row 2 [zaj ⟨d.vals,zcY p d.vals d.live⟩]]):=by
 obtain ⟨h1,h2,-⟩:=zBt.1 hm
 obtain ⟨hl,hp⟩:=zth hm
 have kb:=blist d.live hl
 rw [hp] at kb
 have kc:=zgY d.vals (by omega)
 have hcnt:=zrS d.vals.length d.live
 have lp:=znK d p f kid cap cap2 h hk hd hd2 hz hf (ziI d.vals.length d.live) (fun k hk=>zuR _ _ _ hk) h1 (by omega) (ziI d.vals.length d.live).length 0 0 (by omega) (by omega)
 have e:(ziI d.vals.length d.live).foldl (fun a k=>if p (d.vals.getD k 0)=true then a|||2 ^ k else a) 0=zcY p d.vals d.live:=by
  have:=zog p d.vals d.live 0 0 (fun k=>d.vals.getD k 0) (fun k _=>rfl) (by simp)
  simpa using this
 rw [List.drop_zero,e] at lp
 obtain ⟨K,hK⟩:∃ K,K=ziI d.vals.length d.live:=⟨_,rfl⟩
 obtain ⟨B,hB⟩:∃ B,B=zcY p d.vals d.live:=⟨_,rfl⟩
 rw [←hK] at kb lp
 rw [←hB] at lp ⊢
 simp only [gK,zD,uv,Int.cast_ofNat_Int] at lp
 rw [zbd (CT zvQ) rfl]
 simp [zaa,zmM,zqW,kb,kc,lp]
def zyD (p:Int→Bool) (d:Dm):V:=if zcX d=true then zaj ⟨d.vals,zcY p d.vals d.live⟩ else zD
theorem zAy (p:Int→Bool) (d:Dm):∃ a b,zyD p d=.agg [a,.int .u64 b]∧a.cells.length=1∧a.one=true:=by
 unfold zyD
 split
 ·exact ⟨_,_,rfl,rfl,rfl⟩
 ·exact ⟨_,_,rfl,rfl,rfl⟩
theorem zzT (p:Int→Bool) (d:Dm) (h:List Ob):frz h fdepth (zyD p d)=some (zaj (zau p d)):=by
 unfold zyD zau
 split<;>rfl
theorem kept (d:Dm) (p:Int→Bool) (f:Nat) (cap cap2:List V) (h:List Ob) (hv:d.live<18446744073709551616) (hn:d.vals.length≤1000000) (hd:dataL cap=false) (hd2:dataL cap2=true) (hz:∀ t x,zj4 ((h++t).take 4096) (iv x::cap)=some (iv x::cap2)) (hf:∀ x,acw C f (iv x::cap2) []=some (.ret (.bool (p x)),[])) :
  ∃ t,acw C zol [zaj d,.fn (.func f) [] cap] h=some (.ret (zyD p d),h++t):=by
 have k1:=zjb d hv hn
 unfold zyD
 cases hm:zcX d with
 | true=>
  rw [hm] at k1
  rw [if_pos rfl]
  have ka:∀ g,g[h.length+1]? = some (.row 1 [.fn (.func f) [] cap])→(∀ t x,zj4 ((g++t).take 4096) (iv x::cap)=some (iv x::cap2))→∃ t,acw C zb0 [zaj d,.fn (.func zfu) [] [.ptr (h.length+1) 0 0 1]] g=some (.ret (zaj ⟨d.vals,zcY p d.vals d.live⟩),g++t):=by
   intro g hg hgz
   have kk:=kept1 d p f (h.length+1) cap cap2 (g++[.row 2 [zaj d],.row 2 [zD],.row 2 [zD]]) hm (za3 hg) hd hd2 (fun t x=>by rw [List.append_assoc];exact hgz _ x) hf
   obtain ⟨B,hB⟩:∃ B,B=zcY p d.vals d.live:=⟨_,rfl⟩
   rw [←hB] at kk ⊢
   refine ⟨[.row 2 [zaj d],.row 2 [zaj ⟨d.vals,B⟩],.row 2 [zD],.row 2 [zaj d],.row 2 [zaj ⟨d.vals,B⟩],.row 2 [zaj ⟨d.vals,B⟩]],?_⟩
   rw [zbd (CT zja) rfl]
   simp at kk
   simp [zaa,zc8,zfk,k1,kk]
  obtain ⟨t,ka⟩:=ka (h++[.row 2 [zaj d],.row 1 [.fn (.func f) [] cap],.row 2 [zD]]) (by simp) (fun t x=>by rw [List.append_assoc];exact hz _ x)
  obtain ⟨B,hB⟩:∃ B,B=zcY p d.vals d.live:=⟨_,rfl⟩
  rw [←hB] at ka ⊢
  refine ⟨[.row 2 [zaj d],.row 1 [.fn (.func f) [] cap],.row 2 [zaj ⟨d.vals,B⟩]]++t,?_⟩
  rw [zbd (CT ztP) rfl]
  simp at ka
  simp [zaa,zod,zqF,ka]
 | false=>
  rw [hm] at k1
  rw [if_neg (by simp)]
  have ka:∀ g,acw C zb0 [zaj d,.fn (.func zfu) [] [.ptr (h.length+1) 0 0 1]] g=some (.ret zD,g++[.row 2 [zaj d],.row 2 [zD],.row 2 [zD]]):=by
   intro g
   rw [zbd (CT zja) rfl]
   simp [zaa,zc8,zfk,k1]
  refine ⟨[.row 2 [zaj d],.row 1 [.fn (.func f) [] cap],.row 2 [zD],.row 2 [zaj d],.row 2 [zD],.row 2 [zD]],?_⟩
  rw [zbd (CT ztP) rfl]
  simp [zaa,zod,zqF,ka]
theorem less_1 (x v:Int) (h:List Ob):acw C zhT [iv x,.pin (iv v) 0] h=some (.ret (.bool (x != v)),h):=by
 refine zar (v:=.bool (x != v)) (CT zwv) rfl rfl (fun _=>rfl) (by simp) ?_
 simp [zaa,zna,zq4]
theorem zqf (d:Dm) (v:Int) (hv:d.live<18446744073709551616) (hn:d.vals.length≤1000000) (h:List Ob):acw C zfB [zaj d,iv v] h=some (.ret (zaj (zau (fun x=>x != v) d)),h):=by
 obtain ⟨t,k⟩:=kept d (fun x=>x != v) zhT [.ptr 1 0 0 1] [.pin (iv v) 0] [.row 2 [zaj d],.row 1 [iv v],.row 2 [zD]] hv hn rfl rfl (fun t x=>rfl) (fun x=>less_1 x v [])
 have hf:=zzT (fun x=>x != v) d
 obtain ⟨a,b,e,e1,e2⟩:=zAy (fun x=>x != v) d
 rw [e] at k hf
 simp at k
 refine zap (a2:=[zaj d,iv v]) (h':=[.row 2 [zaj d],.row 1 [iv v],.row 2 [.agg [a,.int .u64 b]]]++t) (v:=.agg [a,.int .u64 b]) (CT zyn) rfl rfl ?_ (hf _) (by simp [dataL,V.data])
 simp [zaa,zqu,zt8,k,e1]
end Go.RR.M
namespace Go.RR.FX
open Go Go.RR Go.RR.M
theorem zny {p q:Int→Bool} {d:Dm} (hm:zcX d=true):zau p (zau q d)=zau (fun x=>q x&&p x) d:=by
 have e:zau q d=⟨d.vals,zcY q d.vals d.live⟩:=if_pos hm
 have h2:=(zhg (p:=q) hm).2.1
 rw [e] at h2 ⊢
 unfold zau
 rw [if_pos h2,if_pos hm,zs5]
theorem zaB {d:Dm} (hm:zcX d=true):d.live<18446744073709551616∧d.vals.length≤1000000:=⟨(zth hm).1,by have:=(zBt.1 hm).1;omega⟩
theorem zeM {d:Dm} (hm:zcX d=true) {x:Int} (hx:x∈zag d):-1048576≤x∧x≤1048576:=by
 unfold zag at hx
 rw [if_pos hm] at hx
 exact (zoa (zBt.1 hm).2.2).1 x (znE _ _ _ hx)
theorem zCm {d:Dm} (h:zag d≠[]):zmB d=(lo (zag d),true):=by
 unfold zmB lo
 cases e:zag d with
 | nil=>exact absurd e h
 | cons a r=>rfl
theorem zCl {d:Dm} (h:zag d≠[]):zoJ d=(hi (zag d),true):=by
 unfold zoJ hi
 rw [List.getLastD_eq_getLast?,List.getLast?_eq_some_getLast h]
 rfl
theorem may_1 (x rel a:Int) (h:List Ob):acw C zb2 [iv x,.pin (iv rel) 0,.pin (iv a) 0] h=some (.ret (.bool (zCT rel x a)),h):=by
 have k:=fun h=>zyL x rel a h
 refine zar (v:=.bool (zCT rel x a)) (CT zjP) rfl rfl (fun _=>rfl) (by simp) ⟨[],?_⟩
 simp [zaa,zff,zjx,k]
theorem may_1f (x rel a u w:Int):acw C zb2 [iv x,.ptr 1 0 0 1,.ptr 2 0 0 1] [.row 2 [.agg [iv u,iv w]],.row 1 [iv rel],.row 1 [iv a]]=some (.ret (.bool (zCT rel x a)),[.row 2 [.agg [iv u,iv w]],.row 1 [iv rel],.row 1 [iv a]]):=
 zgG (a2:=[iv x,.pin (iv rel) 0,.pin (iv a) 0]) (CT zjP) rfl rfl rfl (may_1 x rel a []) rfl
theorem may (u w rel a:Int) (hr:0≤rel∧rel≤5) (h:List Ob):acw C zbX [.agg [iv u,iv w],iv rel,iv a] h=some (.ret (.bool (zmA u w rel a)),h):=by
 have k1:=fun x=>may_1f x rel a u w
 refine zar (v:=.bool (zmA u w rel a)) (CT zqR) rfl rfl (fun _=>rfl) (by simp) ⟨[.row 2 [.agg [iv u,iv w]],.row 1 [iv rel],.row 1 [iv a]],?_⟩
 have:rel=0∨rel=1∨rel=2∨rel=3∨rel=4∨rel=5:=by omega
 unfold zmA
 rcases this with rfl|rfl|rfl|rfl|rfl|rfl
 ·by_cases c1:u≤a<;>by_cases c2:a≤w<;>simp [zaa,zbp,zbV,c1,c2]
 ·have e1:=k1 u
  have e2:=k1 w
  simp only [zCT] at e1 e2
  by_cases c1:u=a
  ·by_cases c2:w=a
   ·subst c1;subst c2
    simp at e1
    simp [zaa,zbp,zbV,e1]
   ·subst c1
    simp [c2] at e1 e2
    simp [zaa,zbp,zbV,e1,e2,c2]
  ·simp [c1] at e1
   simp [zaa,zbp,zbV,e1,c1]
 all_goals
  have e1:=k1 u
  have e2:=k1 w
  simp [zCT] at e1 e2
  simp [zaa,zbp,zbV,e1,e2]
theorem contrary (r:Int) (h0:0≤r∧r≤5) (h:List Ob):acw C zcT [iv r] h=some (.ret (iv (zgF r)),h):=by
 refine zar (v:=iv (zgF r)) (CT zqy) rfl rfl (fun _=>rfl) (by simp) ⟨[],?_⟩
 have:r=0∨r=1∨r=2∨r=3∨r=4∨r=5:=by omega
 rcases this with rfl|rfl|rfl|rfl|rfl|rfl<;>simp [zaa,zg1,zlK,zgF]
theorem zkG {k x:Int} (hk:-1048576≤k∧k≤1048576) (hx:-1048576≤x∧x≤1048576):-1099511627776≤k*x∧k*x≤1099511627776:=zAA hk hx
theorem plus (a b k s:Int) (d:Dm) (hm:zcX d=true) (hne:zag d≠[]) (hk:-1048576≤k∧k≤1048576) (hs:s=1∨s=-1) (ha:-1125899906842624≤a∧a≤1125899906842624) (hb:-1125899906842624≤b∧b≤1125899906842624) (h:List Ob) :
  acw C zcj [.agg [iv a,iv b],iv k,zaj d,iv s] h=some (.ret (.agg [iv (a+s*min (k*lo (zag d)) (k*hi (zag d))),iv (b+s*max (k*lo (zag d)) (k*hi (zag d)))]),h):=by
 obtain ⟨h1,h2⟩:=zaB hm
 have k1:=fun h=>zvM d h1 h2 h
 have k2:=fun h=>zvV d h1 h2 h
 rw [zCm hne] at k1
 rw [zCl hne] at k2
 have l1:=zeM hm (zt1 hne)
 have l2:=zeM hm (zs2 hne)
 obtain ⟨x,hx⟩:∃ x,x=lo (zag d):=⟨_,rfl⟩
 obtain ⟨y,hy⟩:∃ y,y=hi (zag d):=⟨_,rfl⟩
 rw [←hx] at k1 l1 ⊢
 rw [←hy] at k2 l2 ⊢
 have m1:=zkG hk l1
 have m2:=zkG hk l2
 obtain ⟨p,hp⟩:∃ p,p=k*x:=⟨_,rfl⟩
 obtain ⟨q,hq⟩:∃ q,q=k*y:=⟨_,rfl⟩
 have w1:IntKind.i64.wrap (k*x)=p:=by rw [hp];exact wrap64 (by omega) (by omega)
 have w2:IntKind.i64.wrap (k*y)=q:=by rw [hq];exact wrap64 (by omega) (by omega)
 rw [←hp] at m1 ⊢
 rw [←hq] at m2 ⊢
 obtain ⟨u,hu⟩:∃ u,u=min p q:=⟨_,rfl⟩
 obtain ⟨v,hv⟩:∃ v,v=max p q:=⟨_,rfl⟩
 have hu2:-1099511627776≤u∧u≤1099511627776:=by omega
 have hv2:-1099511627776≤v∧v≤1099511627776:=by omega
 have j1:mxV false [iv p,iv q]=some (iv u):=by
  rw [hu]
  simp only [mxV,zAk,if_true,Bool.false_eq_true,if_false,Option.some.injEq,V.int.injEq,true_and]
  by_cases c:q<p
  ·rw [if_pos c];omega
  ·rw [if_neg c];omega
 have j2:mxV true [iv p,iv q]=some (iv v):=by
  rw [hv]
  simp only [mxV,zAk,if_true,Option.some.injEq,V.int.injEq,true_and]
  by_cases c:q>p
  ·rw [if_pos c];omega
  ·rw [if_neg c];omega
 rw [←hu,←hv]
 refine zar (v:=.agg [iv (a+s*u),iv (b+s*v)]) (CT zpF) rfl rfl (fun _=>rfl) (by simp) ⟨[.row 2 [.agg [iv a,iv b]],.row 2 [zaj d],.row 2 [.agg [iv (a+s*u),iv (b+s*v)]]],?_⟩
 rcases hs with rfl|rfl
 ·have w3:IntKind.i64.wrap (1*u)=1*u:=wrap64 (by omega) (by omega)
  have w4:IntKind.i64.wrap (1*v)=1*v:=wrap64 (by omega) (by omega)
  have w5:IntKind.i64.wrap (a+1*u)=a+1*u:=wrap64 (by omega) (by omega)
  have w6:IntKind.i64.wrap (b+1*v)=b+1*v:=wrap64 (by omega) (by omega)
  simp only [Int.one_mul] at w3 w4 w5 w6
  simp [zaa,zdK,zfH,k1,k2,w1,w2,zEi,j1,j2,w3,w4,w5,w6]
 ·have w3:IntKind.i64.wrap (-1*u)=-1*u:=wrap64 (by omega) (by omega)
  have w4:IntKind.i64.wrap (-1*v)=-1*v:=wrap64 (by omega) (by omega)
  have w5:IntKind.i64.wrap (a+-1*u)=a+-1*u:=wrap64 (by omega) (by omega)
  have w6:IntKind.i64.wrap (b+-1*v)=b+-1*v:=wrap64 (by omega) (by omega)
  simp [zaa,zdK,zfH,k1,k2,w1,w2,zEi,j1,j2] at w3 w4 w5 w6 ⊢
  simp [w3,w4,w5,w6]
abbrev dsV (l:Ds):V:=.sl 2 (l.map zaj)
def znt (ks:List Int):Prop:=∀ k∈ks,-1048576≤k∧k≤1048576
structure zwT (c:Con) (vs:List Int) (l:Ds):Prop where
 hl:c.coefs.length=vs.length
 hb:∀ v∈vs,0≤v∧v<l.length
 ok:okL l
 ne:∀ v∈vs,atL (lists l) v≠[]
 hk:znt c.coefs
 h9:vs.length≤9
theorem zxI {p q:Int} (h1:-1099511627776≤p∧p≤1099511627776) (h2:-1099511627776≤q∧q≤1099511627776):-1099511627776≤min p q∧min p q≤1099511627776 ∧ -1099511627776≤max p q∧max p q≤1099511627776:=by omega
theorem zyo {c:Con} {vs:List Int} {l:Ds} (hs:zwT c vs l):∀ (n i:Nat) (a b:Int),i+n=vs.length→(-(i*1099511627776)≤a∧a≤i*1099511627776)→(-(i*1099511627776)≤b∧b≤i*1099511627776) →
  evw C y0 zgH [(2,dsV l),(3,.ptr 0 0 0 1),(6,.ptr 1 0 0 1),(7,.ptr 2 0 0 1),(10,zab vs),(11,iv vs.length),(12,iv i)] [.row 6 [zaq c],.row 2 [.agg [iv 0,iv 0]],.row 2 [.agg [iv a,iv b]]] =
   some (.ext 0,[(2,dsV l),(3,.ptr 0 0 0 1),(6,.ptr 1 0 0 1),(7,.ptr 2 0 0 1),(10,zab vs),(11,iv vs.length),(12,iv vs.length),(13,.bool false)],[.row 6 [zaq c],.row 2 [.agg [iv 0,iv 0]],.row 2 [.agg [iv (a+(ends (lists l) (fun _=>false) (c.coefs.drop i) (vs.drop i)).1),iv (b+(ends (lists l) (fun _=>false) (c.coefs.drop i) (vs.drop i)).2)]]]):=by
 intro n
 induction n with
 | zero=>
  intro i a b hin _ _
  have:i=vs.length:=by omega
  subst this
  rw [zmv,List.drop_length]
  have e:ends (lists l) (fun _=>false) (c.coefs.drop vs.length) []=(0,0):=by cases c.coefs.drop vs.length<;>simp [ends]
  rw [e]
  simp [zfc]
 | succ n ih=>
  intro i a b hin ha hb
  have hlt:i<vs.length:=by omega
  have hlk:i<c.coefs.length:=by have:=hs.hl;omega
  obtain ⟨v,hv⟩:∃ v,v=vs[i]:=⟨_,rfl⟩
  obtain ⟨k,hk⟩:∃ k,k=c.coefs[i]:=⟨_,rfl⟩
  have hvm:v∈vs:=by rw [hv];exact List.getElem_mem hlt
  have hvb:=hs.hb v hvm
  have hne:=hs.ne v hvm
  have hks:=hs.hk k (by rw [hk];exact List.getElem_mem hlk)
  rw [zbn hvb] at hne
  obtain ⟨w,rfl⟩:∃ w:Nat,v=w:=⟨v.toNat,by omega⟩
  have hw:w<l.length:=by omega
  obtain ⟨d,hd⟩:∃ d,d=l[w]:=⟨_,rfl⟩
  have hdm:=hs.ok d (by rw [hd];exact List.getElem_mem hw)
  have hat:atL (lists l) (w:Int)=zag d:=by rw [zbn hvb,hd];rfl
  have hne2:zag d≠[]:=by rw [←hat,zbn hvb];exact hne
  have h9:=hs.h9
  have kp:=fun h=>plus a b k 1 d hdm hne2 hks (.inl rfl) (by omega) (by omega) h
  have l1:=zeM hdm (zt1 hne2)
  have l2:=zeM hdm (zs2 hne2)
  have bd:=zxI (zkG hks l1) (zkG hks l2)
  rw [List.drop_eq_getElem_cons hlt,List.drop_eq_getElem_cons hlk,←hv,←hk,ends,if_neg (by simp),hat]
  obtain ⟨p,hp⟩:∃ p,p=min (k*lo (zag d)) (k*hi (zag d)):=⟨_,rfl⟩
  obtain ⟨q,hq⟩:∃ q,q=max (k*lo (zag d)) (k*hi (zag d)):=⟨_,rfl⟩
  rw [←hp,←hq] at kp bd ⊢
  have ih:=ih (i+1) (a+1*p) (b+1*q) (by omega) (by omega) (by omega)
  have e1:∀ x,a+1*p+x=a+(x+p):=fun x=>by omega
  have e2:∀ x,b+1*q+x=b+(x+q):=fun x=>by omega
  rw [e1,e2] at ih
  simp only [Int.natCast_add,Int.cast_ofNat_Int,Int.one_mul] at ih kp
  have hv1:vs[i]? = some (w:Int):=by simp [hlt,hv]
  have hv2:∀ h:i<vs.length,vs[i]'h=(w:Int):=fun _=>hv.symm
  have hk1:c.coefs[i]? = some k:=by simp [hlk,hk]
  have hk2:∀ h:i<c.coefs.length,c.coefs[i]'h=k:=fun _=>hk.symm
  have hd1:l[w]? = some d:=by simp [hw,hd]
  have hd2:∀ h:w<l.length,l[w]'h=d:=fun _=>hd.symm
  have hi4:(i:Int)<vs.length:=by omega
  have hi5:(i:Int)<c.coefs.length:=by omega
  have hi6:(w:Int)<l.length:=by omega
  have hwr:=zac hlt (by omega)
  simp only
  rw [←ih,zmv]
  simp [zfc,hlt,hlk,hv1,hv2,hk1,hk2,hd1,hd2,hw,hi4,hi5,hi6,hwr,kp]
theorem total {c:Con} {vs:List Int} {l:Ds} (hs:zwT c vs l) (h:List Ob):acw C zeC [zaq c,zab vs,dsV l] h=some (.ret (.agg [iv (ends (lists l) (fun _=>false) c.coefs vs).1,iv (ends (lists l) (fun _=>false) c.coefs vs).2]),h):=by
 have e:=zyo hs vs.length 0 0 0 (by omega) (by simp) (by simp)
 simp only [List.drop_zero,Int.cast_ofNat_Int,Int.zero_add] at e
 refine zar (v:=.agg [iv (ends (lists l) (fun _=>false) c.coefs vs).1,iv (ends (lists l) (fun _=>false) c.coefs vs).2]) (CT ztA) rfl rfl (fun _=>rfl) (by simp) ⟨[.row 6 [zaq c],.row 2 [.agg [iv (ends (lists l) (fun _=>false) c.coefs vs).1,iv (ends (lists l) (fun _=>false) c.coefs vs).2]],.row 2 [.agg [iv (ends (lists l) (fun _=>false) c.coefs vs).1,iv (ends (lists l) (fun _=>false) c.coefs vs).2]]],?_⟩
 simp [zaa,zkX,zoT,e]
def qk (p:Int→Bool) (xs:List Int) (i:Nat) (x:Int):Bool:=p x||!((xs.take i).contains x)
theorem znK (d:Dm) (hm:zcX d=true) (p:Int→Bool) (f:Nat) (cap:List V) (h:List Ob) (hf:∀ x∈zag d,∀ t,acw C f (iv x::cap) (h++t)=some (.ret (.bool (p x)),h++t)):∀ (n i:Nat),i+n=(zag d).length →
  evw C y0 zh3 [(1,.fn (.func f) [] cap),(2,.ptr h.length 0 0 1),(4,.ptr (h.length+1) 0 0 1),(8,zab (zag d)),(9,iv (zag d).length),(10,iv i)] (h++[.row 2 [zaj (zau (qk p (zag d) i) d)],.row 2 [.agg [.nsl 1,.int .u64 0]]]) =
   some (.ext 0,[(1,.fn (.func f) [] cap),(2,.ptr h.length 0 0 1),(4,.ptr (h.length+1) 0 0 1),(8,zab (zag d)),(9,iv (zag d).length),(10,iv (zag d).length),(11,.bool false)],h++[.row 2 [zaj (zau (qk p (zag d) (zag d).length) d)],.row 2 [.agg [.nsl 1,.int .u64 0]]]):=by
 intro n
 induction n with
 | zero=>
  intro i hin
  have:i=(zag d).length:=by omega
  subst this
  rw [znl]
  simp [zee]
 | succ n ih=>
  intro i hin
  have hlt:i<(zag d).length:=by omega
  obtain ⟨x,hx⟩:∃ x,x=(zag d)[i]:=⟨_,rfl⟩
  have hxm:x∈zag d:=by rw [hx];exact List.getElem_mem hlt
  have kf:=hf x hxm
  have ih:=ih (i+1) (by omega)
  have hi4:(i:Int)<(zag d).length:=by omega
  have hlen:=zbz d
  have hwr:=zac hlt (by omega)
  obtain ⟨L,hL⟩:∃ L,L=zag d:=⟨_,rfl⟩
  have htk:(L.take (i+1)).contains x=true:=by
   rw [List.contains_iff_mem,hL,List.take_succ_eq_append_getElem hlt,←hx]
   simp
  have hq:∀ y,(L.take (i+1)).contains y=((L.take i).contains y||y==x):=fun y=>by
   rw [hL,List.take_succ_eq_append_getElem hlt,←hx,Bool.eq_iff_iff]
   simp [List.contains_iff_mem]
  have hx1:L[i]? = some x:=by simp [hL,hlt,hx]
  have hx2:∀ h:i<L.length,L[i]'h=x:=fun _=>by subst hL;exact hx.symm
  rw [←hL] at hlt hi4 ih ⊢
  simp only [Int.natCast_add,Int.cast_ofNat_Int] at ih
  rw [←ih,znl]
  by_cases c:p x=true
  ·rw [c] at kf
   have e:zau (qk p L (i+1)) d=zau (qk p L i) d:=zaD fun y _=>by
    unfold qk
    rw [hq]
    by_cases hy:y=x
    ·rw [hy,c];rfl
    ·have:(y==x)=false:=by simpa using hy
     rw [this,Bool.or_false]
   rw [e]
   simp [zee,hlt,hx1,hx2,hi4,hwr,kf]
  ·have c':p x=false:=by simpa using c
   rw [c'] at kf
   have e:zau (qk p L (i+1)) d=zau (fun y=>y != x) (zau (qk p L i) d):=by
    rw [zny hm]
    refine zaD fun y _=>?_
    unfold qk
    rw [hq]
    by_cases hy:y=x
    ·rw [hy,c'];simp
    ·have h1:(y==x)=false:=by simpa using hy
     have h2:(y != x)=true:=by simpa [bne_iff_ne] using hy
     rw [h1,h2,Bool.or_false,Bool.and_true]
   obtain ⟨D,hD⟩:∃ D,D=zau (qk p L i) d:=⟨_,rfl⟩
   have hDm:zcX D=true:=by rw [hD];exact (zhg hm).2.1
   have kl:=fun h=>zqf D x (zaB hDm).1 (zaB hDm).2 h
   rw [e,←hD]
   obtain ⟨E,hE⟩:∃ E,E=zau (fun y=>y != x) D:=⟨_,rfl⟩
   rw [←hE] at kl ⊢
   simp [zee,hlt,hx1,hx2,hi4,hwr,kf,kl]
theorem kept (d:Dm) (hm:zcX d=true) (p:Int→Bool) (f:Nat) (cap:List V) (h:List Ob) (hf:∀ x∈zag d,∀ t,acw C f (iv x::cap) (h++t)=some (.ret (.bool (p x)),h++t)) :
  acw C zco [zaj d,.fn (.func f) [] cap] h=some (.ret (zaj (zau p d)),h++[.row 2 [zaj (zau p d)],.row 2 [zaj (zau p d)]]):=by
 have e:=znK d hm p f cap h hf (zag d).length 0 (by omega)
 have e0:zau (qk p (zag d) 0) d=d:=ziD hm fun x _=>by simp [qk]
 have e1:zau (qk p (zag d) (zag d).length) d=zau p d:=zaD fun x hx=>by
  unfold qk
  rw [List.take_length,List.contains_iff_mem.2 hx]
  simp
 rw [e0,e1] at e
 have kl:=fun h=>zhf d (zaB hm).1 (zaB hm).2 h
 simp only [Int.cast_ofNat_Int] at e
 obtain ⟨D,hD⟩:∃ D,D=zau p d:=⟨_,rfl⟩
 rw [←hD] at e ⊢
 rw [zbd (CT zun) rfl]
 simp [zaa,zl2,zpY,kl,e]
theorem none_1 (x:Int) (h:List Ob):acw C zdR [iv x] h=some (.ret (.bool false),h):=by
 refine zar (v:=.bool false) (CT zsl) rfl rfl (fun _=>rfl) (by simp) ⟨[],?_⟩
 simp [zaa,zjH,znN]
theorem sum_1 (x:Int) (c:Con) (i:Nat) (k u w rel:Int) (hi:i<c.coefs.length) (hk:k=c.coefs[i]) (hks:-1048576≤k∧k≤1048576) (hx:-1048576≤x∧x≤1048576) (hu:-1125899906842624≤u∧u≤1125899906842624) (hw:-1125899906842624≤w∧w≤1125899906842624) (hr:0≤rel∧rel≤5) (h:List Ob) :
  acw C zdA [iv x,.pin (zaq c) 0,.pin (iv i) 0,.pin (.agg [iv u,iv w]) 0,.pin (iv rel) 0] h=some (.ret (.bool (zmA (u+k*x) (w+k*x) rel c.const)),h):=by
 have m:=zkG hks hx
 obtain ⟨q,hq⟩:∃ q,q=k*x:=⟨_,rfl⟩
 have w1:IntKind.i64.wrap (k*x)=q:=by rw [hq];exact wrap64 (by omega) (by omega)
 rw [←hq] at m ⊢
 have w2:IntKind.i64.wrap (u+q)=u+q:=wrap64 (by omega) (by omega)
 have w3:IntKind.i64.wrap (w+q)=w+q:=wrap64 (by omega) (by omega)
 have km:=fun h=>may (u+q) (w+q) rel c.const hr h
 have hk1:c.coefs[i]? = some k:=by simp [hi,hk]
 have hk2:∀ h:i<c.coefs.length,c.coefs[i]'h=k:=fun _=>hk.symm
 have hi4:(i:Int)<c.coefs.length:=by omega
 refine zar (v:=.bool _) (CT zoG) rfl rfl (fun _=>rfl) (by simp) ⟨[],?_⟩
 simp [zaa,zll,zox,hi,hi4,hk1,hk2,w1,w2,w3,km]
def zmD (P:Int→Int→Bool) (l:Ds) (vs:List Int) (ds:Ds):Ds:=vs.foldl (fun ds v=>ds.set v.toNat (zau (P v) (l.getD v.toNat ⟨[],0⟩))) ds
theorem zcH {P:Int→Int→Bool} {l:Ds}:∀ {vs:List Int} {ds:Ds},(zmD P l vs ds).length=ds.length
 | [],ds=>rfl
 | v::vs,ds=>by
  unfold zmD
  rw [List.foldl_cons]
  have:=zcH (P:=P) (l:=l) (vs:=vs) (ds:=ds.set v.toNat (zau (P v) (l.getD v.toNat ⟨[],0⟩)))
  unfold zmD at this
  rw [this,List.length_set]
structure Mvd (id:Nat) (h h':List Ob) (ds:Ds):Prop where
 le:h.length≤h'.length
 at_:h'[id]? = some (.row 2 (ds.map zaj))
 same:∀ j,j<h.length→j≠id→h'[j]? = h[j]?
theorem Mvd.trans {id:Nat} {h h' h'':List Ob} {a b:Ds} (x:Mvd id h h' a) (y:Mvd id h' h'' b):Mvd id h h'' b:=⟨Nat.le_trans x.le y.le,y.at_,fun j h1 h2=>(y.same j (Nat.lt_of_lt_of_le h1 x.le) h2).trans (x.same j h1 h2)⟩
theorem zoM {h:List Ob} {a sa:Nat} {x x':V} (ha:h[a]? = some (.row sa [x])) (hx:frz h 11 x=some x'):frz h fdepth (.ptr a 0 0 1)=some (.pin x' 0):=by
 have e1:zaF h a 1=some (sa,[x]):=by simp [zaF,ha]
 simp [fdepth,frz,ha,hx]
theorem zat {h t:List Ob} {j:Nat} {o:Ob} (e:h[j]? = some o):(h++t)[j]? = some o:=by
 rw [List.getElem?_append_left (List.getElem?_eq_some_iff.1 e).1,e]
theorem zq3 {h t:List Ob} {i:Nat} {o:Ob} (hi:i<h.length):wr (h++t) (some (i,o))=h.set i o++t:=by
 rw [zfi (by rw [List.length_append];omega),List.set_append_left _ _ hi]
theorem ztI {L:Ls} {v:Int}:∀ {vs ks:List Int},vs.Nodup→v∈vs→ks.length=vs.length→(ends L (fun u=>u==v) ks vs).1+min (zkv ks vs v*lo (atL L v)) (zkv ks vs v*hi (atL L v))=(ends L (fun _=>false) ks vs).1∧(ends L (fun u=>u==v) ks vs).2+max (zkv ks vs v*lo (atL L v)) (zkv ks vs v*hi (atL L v))=(ends L (fun _=>false) ks vs).2
 | [],ks,_,h,_=>by simp at h
 | u::vs,[],_,_,h=>by simp at h
 | u::vs,k::ks,hn,hv,hl=>by
  have hn2:=List.nodup_cons.1 hn
  rw [ends,ends]
  by_cases c:u=v
  ·subst c
   have e:zkv (k::ks) (u::vs) u=k:=by simp [zkv]
   have no:∀ {vs ks:List Int},u∉vs→ends L (fun w=>w==u) ks vs=ends L (fun _=>false) ks vs:=fun {vs ks}=>by
    induction vs generalizing ks with
    | nil=>intro _;cases ks<;>simp [ends]
    | cons w r ih=>
     intro h
     simp only [List.mem_cons,not_or] at h
     cases ks with
     | nil=>simp [ends]
     | cons k ks=>
      have:(w==u)=false:=by simp only [beq_eq_false_iff_ne];exact fun e=>h.1 e.symm
      rw [ends,ends,ih h.2]
      simp [this]
   rw [e,no hn2.1]
   simp
  ·have c2:(u==v)=false:=by simpa using c
   have hv2:v∈vs:=by
    rcases List.mem_cons.1 hv with e|h
    ·exact absurd e.symm c
    ·exact h
   have ih:=ztI (L:=L) hn2.2 hv2 (ks:=ks) (by simpa using hl)
   have e:zkv (k::ks) (u::vs) v=zkv ks vs v:=by
    unfold zkv
    rw [List.idxOf_cons,c2]
    simp
   rw [e]
   simp only [c2,Bool.false_eq_true,if_false]
   omega
theorem zAa {L:Ls} {skip:Int→Bool}:∀ {vs ks:List Int},znt ks→(∀ v∈vs,∀ x∈atL L v,-1048576≤x∧x≤1048576)→(∀ v∈vs,atL L v≠[]) → -(vs.length*1099511627776:Int)≤(ends L skip ks vs).1∧(ends L skip ks vs).1≤vs.length*1099511627776 ∧ -(vs.length*1099511627776:Int)≤(ends L skip ks vs).2∧(ends L skip ks vs).2≤vs.length*1099511627776
 | [],ks,_,_,_=>by cases ks<;>simp [ends]
 | v::vs,[],_,_,_=>by simp only [ends,List.length_cons];omega
 | v::vs,k::ks,h1,h2,h3=>by
  have ih:=zAa (L:=L) (skip:=skip) (vs:=vs) (ks:=ks) (fun k hk=>h1 k (by simp [hk])) (fun u hu=>h2 u (by simp [hu])) (fun u hu=>h3 u (by simp [hu]))
  have bd:=zxI (zkG (h1 k (by simp)) (h2 v (by simp) _ (zt1 (h3 v (by simp))))) (zkG (h1 k (by simp)) (h2 v (by simp) _ (zs2 (h3 v (by simp)))))
  rw [ends]
  simp only [List.length_cons]
  split
  ·omega
  ·simp only
   omega
theorem zwT.bd {c:Con} {vs:List Int} {l:Ds} (hs:zwT c vs l) (skip:Int→Bool):-9895604649984≤(ends (lists l) skip c.coefs vs).1∧(ends (lists l) skip c.coefs vs).1≤9895604649984 ∧ -9895604649984≤(ends (lists l) skip c.coefs vs).2∧(ends (lists l) skip c.coefs vs).2≤9895604649984:=by
 have:=zAa (L:=lists l) (skip:=skip) (vs:=vs) hs.hk (fun v hv x hx=>by
  rw [zbn (hs.hb v hv)] at hx
  exact zeM (hs.ok _ (List.getElem_mem _)) hx) hs.ne
 have:=hs.h9
 omega
theorem zBX {c:Con} {vs:List Int} {l:Ds} {rel:Int} (hs:zwT c vs l) (hn:vs.Nodup) (hr:0≤rel∧rel≤5) (id b:Nat):∀ (n i:Nat) (ds:Ds) (H:List Ob),i+n=vs.length→ds.length=l.length→H[id]? = some (.row 2 (ds.map zaj))→id<b→H[b]? = some (.row 6 [zaq c])→H[b+1]? = some (.row 1 [iv rel])→H[b+2]? = some (.row 2 [.agg [iv (ends (lists l) (fun _=>false) c.coefs vs).1,iv (ends (lists l) (fun _=>false) c.coefs vs).2]]) →
  ∃ H',evw C y0 zjv [(3,dsV l),(4,.own id 0 l.length l.length),(5,.ptr b 0 0 1),(7,.ptr (b+1) 0 0 1),(10,.ptr (b+2) 0 0 1),(18,zab vs),(19,iv vs.length),(20,iv i)] H =
   some (.ext 0,[(3,dsV l),(4,.own id 0 l.length l.length),(5,.ptr b 0 0 1),(7,.ptr (b+1) 0 0 1),(10,.ptr (b+2) 0 0 1),(18,zab vs),(19,iv vs.length),(20,iv vs.length),(21,.bool false)],H')∧Mvd id H H' (zmD (zti c.coefs vs rel c.const (lists l)) l (vs.drop i) ds):=by
 intro n
 induction n with
 | zero=>
  intro i ds H hin hdl g0 hlt g1 g2 g3
  have:i=vs.length:=by omega
  subst this
  rw [zoL,List.drop_length]
  refine ⟨H,?_,Nat.le_refl _,g0,fun _ _ _=>rfl⟩
  simp [zg9]
 | succ n ih=>
  intro i ds H hin hdl g0 hid g1 g2 g3
  have hlt:i<vs.length:=by omega
  have hlk:i<c.coefs.length:=by have:=hs.hl;omega
  obtain ⟨v,hv⟩:∃ v,v=vs[i]:=⟨_,rfl⟩
  obtain ⟨k,hk⟩:∃ k,k=c.coefs[i]:=⟨_,rfl⟩
  have hvm:v∈vs:=by rw [hv];exact List.getElem_mem hlt
  have hvb:=hs.hb v hvm
  have hne:=hs.ne v hvm
  have hks:=hs.hk k (by rw [hk];exact List.getElem_mem hlk)
  have hck:zkv c.coefs vs v=k:=by
   unfold zkv
   rw [hv,hn.idxOf_getElem i hlt,List.getD_eq_getElem?_getD,List.getElem?_eq_getElem hlk,hk]
   rfl
  have hsp:=ztI (L:=lists l) hn hvm hs.hl
  have bd:=hs.bd (fun u=>u==v)
  have bd2:=hs.bd (fun _=>false)
  rw [hck] at hsp
  rw [zbn hvb] at hne
  obtain ⟨w,rfl⟩:∃ w:Nat,v=w:=⟨v.toNat,by omega⟩
  have hw:w<l.length:=by omega
  obtain ⟨d,hd⟩:∃ d,d=l[w]:=⟨_,rfl⟩
  have hdm:=hs.ok d (by rw [hd];exact List.getElem_mem hw)
  have hat:atL (lists l) (w:Int)=zag d:=by rw [zbn hvb,hd];rfl
  have hne2:zag d≠[]:=by rw [←hat,zbn hvb];exact hne
  rw [hat] at hsp
  obtain ⟨E1,hE1⟩:∃ x,x=(ends (lists l) (fun _=>false) c.coefs vs).1:=⟨_,rfl⟩
  obtain ⟨E2,hE2⟩:∃ x,x=(ends (lists l) (fun _=>false) c.coefs vs).2:=⟨_,rfl⟩
  obtain ⟨R1,hR1⟩:∃ x,x=(ends (lists l) (fun u=>u==(w:Int)) c.coefs vs).1:=⟨_,rfl⟩
  obtain ⟨R2,hR2⟩:∃ x,x=(ends (lists l) (fun u=>u==(w:Int)) c.coefs vs).2:=⟨_,rfl⟩
  rw [←hE1,←hE2] at g3
  simp only [←hE1,←hE2,←hR1,←hR2] at hsp bd bd2
  have kp:=fun h=>plus E1 E2 k (-1) d hdm hne2 hks (.inr rfl) (by omega) (by omega) h
  have e1:E1+-1*min (k*lo (zag d)) (k*hi (zag d))=R1:=by omega
  have e2:E2+-1*max (k*lo (zag d)) (k*hi (zag d))=R2:=by omega
  rw [e1,e2] at kp
  obtain ⟨D,hD⟩:∃ D,D=zau (zti c.coefs vs rel c.const (lists l) w) d:=⟨_,rfl⟩
  have hv1:vs[i]? = some (w:Int):=by simp [hlt,hv]
  have hv2:∀ h:i<vs.length,vs[i]'h=(w:Int):=fun _=>hv.symm
  have hk1:c.coefs[i]? = some k:=by simp [hlk,hk]
  have hk2:∀ h:i<c.coefs.length,c.coefs[i]'h=k:=fun _=>hk.symm
  have hd1:l[w]? = some d:=by simp [hw,hd]
  have hd2:∀ h:w<l.length,l[w]'h=d:=fun _=>hd.symm
  have hi4:(i:Int)<vs.length:=by omega
  have hi5:(i:Int)<c.coefs.length:=by omega
  have hi6:(w:Int)<l.length:=by omega
  have h9:=hs.h9
  have hwr:=zac hlt (by omega)
  have hbH:b+2<H.length:=(List.getElem?_eq_some_iff.1 g3).1
  have q1:∀ t,(H++t)[b]? = some (.row 6 [zaq c]):=fun t=>zat g1
  have q2:∀ t,(H++t)[b+1]? = some (.row 1 [iv rel]):=fun t=>zat g2
  have q3:∀ t,(H++t)[b+2]? = some (.row 2 [.agg [iv E1,iv E2]]):=fun t=>zat g3
  have q0:∀ t,(H++t)[id]? = some (.row 2 (ds.map zaj)):=fun t=>zat g0
  have kk:acw C zco [zaj d,.fn (.func zdA) [] [.ptr b 0 0 1,.ptr H.length 0 0 1,.ptr (H.length+1) 0 0 1,.ptr (b+1) 0 0 1]] (H++[.row 1 [iv i],.row 2 [.agg [iv R1,iv R2]]])=some (.ret (zaj D),H++[.row 1 [iv i],.row 2 [.agg [iv R1,iv R2]],.row 2 [zaj D],.row 2 [zaj D]]):=by
   have:=kept d hdm (zti c.coefs vs rel c.const (lists l) w) zdA [.ptr b 0 0 1,.ptr H.length 0 0 1,.ptr (H.length+1) 0 0 1,.ptr (b+1) 0 0 1] (H++[.row 1 [iv i],.row 2 [.agg [iv R1,iv R2]]]) (fun x hx t=>by
    have k1:=sum_1 x c i k R1 R2 rel hlk hk hks (zeM hdm hx) (by omega) (by omega) hr []
    have e:zti c.coefs vs rel c.const (lists l) w x=zmA (R1+k*x) (R2+k*x) rel c.const:=by
     unfold zti
     rw [hck,hR1,hR2]
    rw [e]
    refine zgG (a2:=[iv x,.pin (zaq c) 0,.pin (iv i) 0,.pin (.agg [iv R1,iv R2]) 0,.pin (iv rel) 0]) (CT zoG) rfl ?_ rfl k1 rfl
    rw [List.append_assoc]
    have z1:=zoM (q1 ([.row 1 [iv i],.row 2 [.agg [iv R1,iv R2]]]++t)) (x':=zaq c) rfl
    have z2:=zoM (h:=H++([.row 1 [iv i],.row 2 [.agg [iv R1,iv R2]]]++t)) (a:=H.length) (sa:=1) (x:=iv i) (x':=iv i) (by simp) rfl
    have z3:=zoM (h:=H++([.row 1 [iv i],.row 2 [.agg [iv R1,iv R2]]]++t)) (a:=H.length+1) (sa:=2) (x:=.agg [iv R1,iv R2]) (x':=.agg [iv R1,iv R2]) (by simp) rfl
    have z4:=zoM (q2 ([.row 1 [iv i],.row 2 [.agg [iv R1,iv R2]]]++t)) (x':=iv rel) rfl
    have z0:frz (H++([.row 1 [iv i],.row 2 [.agg [iv R1,iv R2]]]++t)) fdepth (iv x)=some (iv x):=rfl
    simp only [zj4,zdP,z0,z1,z2,z3,z4])
   rw [this,←hD,List.append_assoc]
   rfl
  obtain ⟨H',ih1,ih2⟩:=ih (i+1) (ds.set w D) (H.set id (.row 2 ((ds.set w D).map zaj))++[.row 1 [iv i],.row 2 [.agg [iv R1,iv R2]],.row 2 [zaj D],.row 2 [zaj D]]) (by omega) (by simpa using hdl) (zat (List.getElem?_set_self (by omega))) hid (zat (by rw [List.getElem?_set_ne (by omega)];exact g1)) (zat (by rw [List.getElem?_set_ne (by omega)];exact g2)) (zat (by rw [List.getElem?_set_ne (by omega)];rw [←hE1,←hE2];exact g3))
  simp only [Int.natCast_add,Int.cast_ofNat_Int] at ih1
  refine ⟨H',?_,?_⟩
  ·rw [←ih1,zoL]
   have hds:w<ds.length:=by omega
   simp [zg9,hlt,hlk,hv1,hv2,hk1,hk2,hd1,hd2,hw,hi4,hi5,hi6,hwr,kp,kk,q0,q1,q2,q3,hds,hdl]
   rw [zq3 (by omega)]
  ·rw [List.drop_eq_getElem_cons hlt,←hv]
   unfold zmD
   rw [List.foldl_cons]
   have e0:zau (zti c.coefs vs rel c.const (lists l) ↑w) (l.getD (w:Int).toNat ⟨[],0⟩)=D:=by
    rw [Int.toNat_natCast,List.getD_eq_getElem?_getD,hd1]
    exact hD.symm
   rw [e0,Int.toNat_natCast]
   refine Mvd.trans (h':=H.set id (.row 2 ((ds.set w D).map zaj))++[.row 1 [iv i],.row 2 [.agg [iv R1,iv R2]],.row 2 [zaj D],.row 2 [zaj D]]) (a:=ds.set w D) ⟨by simp,zat (List.getElem?_set_self (by omega)),fun j h1 h2=>?_⟩ ih2
   rw [List.getElem?_append_left (by simpa using h1),List.getElem?_set_ne (by omega)]
theorem Mvd.refl {id:Nat} {h:List Ob} {ds:Ds} (g:h[id]? = some (.row 2 (ds.map zaj))):Mvd id h h ds:=⟨Nat.le_refl _,g,fun _ _ _=>rfl⟩
theorem Mvd.grow {id:Nat} {h t:List Ob} {ds:Ds} (g:h[id]? = some (.row 2 (ds.map zaj))):Mvd id h (h++t) ds:=⟨by simp,zat g,fun j h1 _=>List.getElem?_append_left h1⟩
theorem sum {c:Con} {vs:List Int} {l:Ds} {rel:Int} (hs:zwT c vs l) (hn:vs.Nodup) (hr:0≤rel∧rel≤5) (id:Nat) (ds:Ds) (h:List Ob) (hdl:ds.length=l.length) (g0:h[id]? = some (.row 2 (ds.map zaj))) :
  ∃ h',acw C zfv [zaq c,zab vs,iv rel,dsV l,.own id 0 l.length l.length] h=some (.ret (.tup []),h')∧Mvd id h h' (zmD (zti c.coefs vs rel c.const (lists l)) l vs ds):=by
 have kt:=fun h=>total hs h
 obtain ⟨E1,hE1⟩:∃ x,x=(ends (lists l) (fun _=>false) c.coefs vs).1:=⟨_,rfl⟩
 obtain ⟨E2,hE2⟩:∃ x,x=(ends (lists l) (fun _=>false) c.coefs vs).2:=⟨_,rfl⟩
 have hid:id<h.length:=(List.getElem?_eq_some_iff.1 g0).1
 obtain ⟨H',e,m⟩:=zBX hs hn hr id h.length vs.length 0 ds (h++[.row 6 [zaq c],.row 1 [iv rel],.row 2 [.agg [iv E1,iv E2]]]) (by omega) hdl (zat g0) hid (by simp) (by simp) (by rw [hE1,hE2];simp)
 rw [List.drop_zero] at m
 simp only [Int.cast_ofNat_Int] at e
 refine ⟨H',?_,(Mvd.grow g0).trans m⟩
 rw [←hE1,←hE2] at kt
 rw [zbd (CT zvp) rfl]
 simp [zaa,zm8,zrc,kt,e]
theorem zkq {P:Int→Int→Bool} {l:Ds}:∀ {vs:List Int} {ds:Ds} {i:Nat} (h:i<(zmD P l vs ds).length) (hi:i<ds.length) (hl:i<l.length),(∀ v∈vs,0≤v)→(zmD P l vs ds)[i]=if (i:Int)∈vs then zau (P i) l[i] else ds[i]
 | [],ds,i,h,hi,hl,_=>by simp [zmD]
 | v::vs,ds,i,h,hi,hl,hp=>by
  have e:zmD P l (v::vs) ds=zmD P l vs (ds.set v.toNat (zau (P v) (l.getD v.toNat ⟨[],0⟩))):=rfl
  have ih:=zkq (P:=P) (l:=l) (vs:=vs) (ds:=ds.set v.toNat (zau (P v) (l.getD v.toNat ⟨[],0⟩))) (i:=i) (by rw [zcH,List.length_set];exact hi) (by simpa using hi) hl (fun u hu=>hp u (by simp [hu]))
  simp only [e]
  rw [ih]
  by_cases c:(i:Int)∈vs
  ·rw [if_pos c,if_pos (by simp [c])]
  ·rw [if_neg c,List.getElem_set]
   have hv:=hp v (by simp)
   by_cases d:v.toNat=i
   ·rw [if_pos d,if_pos (by simp only [List.mem_cons];exact .inl (by omega)),d,List.getD_eq_getElem?_getD,List.getElem?_eq_getElem hl]
    have:v=(i:Int):=by omega
    rw [this]
    rfl
   ·rw [if_neg d,if_neg (by simp only [List.mem_cons,not_or];exact ⟨by omega,c⟩)]
theorem zAd {c:Con} {l:Ds} (ok:okL l) (hn:c.vars.Nodup) (hb:∀ v∈c.vars,0≤v∧v<l.length) (h9:c.vars.length≤9) (id:Nat):∀ (n i:Nat) (H:List Ob),i+n=c.vars.length→H[id]? = some (.row 2 ((zmD (fun _ _=>false) l (c.vars.take i) l).map zaj)) →
  ∃ H',evw C y0 zh1 [(1,.own id 0 l.length l.length),(7,zab c.vars),(8,iv c.vars.length),(9,iv i)] H =
   some (.ext 0,[(1,.own id 0 l.length l.length),(7,zab c.vars),(8,iv c.vars.length),(9,iv c.vars.length),(10,.bool false)],H')∧Mvd id H H' (zmD (fun _ _=>false) l c.vars l):=by
 intro n
 induction n with
 | zero=>
  intro i H hin g0
  have:i=c.vars.length:=by omega
  subst this
  rw [List.take_length] at g0
  rw [zm3]
  refine ⟨H,?_,Mvd.refl g0⟩
  simp [zf4]
 | succ n ih=>
  intro i H hin g0
  have hlt:i<c.vars.length:=by omega
  obtain ⟨v,hv⟩:∃ v,v=c.vars[i]:=⟨_,rfl⟩
  have hvm:v∈c.vars:=by rw [hv];exact List.getElem_mem hlt
  have hvb:=hb v hvm
  obtain ⟨w,rfl⟩:∃ w:Nat,v=w:=⟨v.toNat,by omega⟩
  obtain ⟨ds,hds⟩:∃ ds,ds=zmD (fun _ _=>false) l (c.vars.take i) l:=⟨_,rfl⟩
  have hdl:ds.length=l.length:=by rw [hds,zcH]
  have hw:w<l.length:=by omega
  have hw2:w<ds.length:=by omega
  have hnot:(w:Int)∉c.vars.take i:=fun q=>by
   obtain ⟨j,hj,e⟩:=List.mem_iff_getElem.1 q
   rw [List.length_take] at hj
   rw [List.getElem_take,hv] at e
   have:=(List.getElem_inj hn).1 e
   omega
  have hdw:ds[w]=l[w]:=by
   have:=zkq (P:=fun _ _=>false) (l:=l) (vs:=c.vars.take i) (ds:=l) (i:=w) (by rw [zcH];exact hw) hw hw (fun u hu=>(hb u (List.mem_of_mem_take hu)).1)
   rw [if_neg hnot] at this
   subst hds
   exact this
  obtain ⟨d,hd⟩:∃ d,d=l[w]:=⟨_,rfl⟩
  have hdm:=ok d (by rw [hd];exact List.getElem_mem hw)
  obtain ⟨D,hD⟩:∃ D,D=zau (fun _=>false) d:=⟨_,rfl⟩
  have kk:=kept d hdm (fun _=>false) zdR [] H (fun x _ t=>none_1 x _)
  rw [←hD] at kk
  have e1:zmD (fun _ _=>false) l (c.vars.take (i+1)) l=ds.set w D:=by
   rw [List.take_succ_eq_append_getElem hlt,←hv,hds]
   unfold zmD
   rw [List.foldl_append]
   simp only [List.foldl_cons,List.foldl_nil,Int.toNat_natCast]
   rw [hD,hd,List.getD_eq_getElem?_getD,List.getElem?_eq_getElem hw]
   rfl
  rw [←hds] at g0
  have hidl:id<H.length:=(List.getElem?_eq_some_iff.1 g0).1
  have hi4:(i:Int)<c.vars.length:=by omega
  have hi6:(w:Int)<l.length:=by omega
  have hwr:=zac hlt (by omega)
  have hv1:c.vars[i]? = some (w:Int):=by simp [hlt,hv]
  have hv2:∀ h:i<c.vars.length,c.vars[i]'h=(w:Int):=fun _=>hv.symm
  have hd1:ds[w]? = some d:=by rw [List.getElem?_eq_getElem hw2,hdw,hd]
  have hd2:∀ h:w<ds.length,ds[w]'h=d:=fun _=>by rw [hdw,hd]
  have q0:∀ t,(H++t)[id]? = some (.row 2 (ds.map zaj)):=fun t=>zat g0
  obtain ⟨H',ih1,ih2⟩:=ih (i+1) (H.set id (.row 2 ((ds.set w D).map zaj))++[.row 2 [zaj D],.row 2 [zaj D]]) (by omega) (by rw [e1];exact zat (List.getElem?_set_self hidl))
  simp only [Int.natCast_add,Int.cast_ofNat_Int] at ih1
  refine ⟨H',?_,Mvd.trans (h':=H.set id (.row 2 ((ds.set w D).map zaj))++[.row 2 [zaj D],.row 2 [zaj D]]) (a:=ds.set w D) ⟨by simp,zat (List.getElem?_set_self hidl),fun j h1 h2=>?_⟩ ih2⟩
  ·rw [←ih1,zm3]
   simp [zf4,hlt,hv1,hv2,hd1,hd2,hw,hw2,hi4,hi6,hwr,kk,q0,g0,hdl]
   rw [zq3 hidl]
  ·rw [List.getElem?_append_left (by simpa using h1),List.getElem?_set_ne (by omega)]
theorem lnone {c:Con} {l:Ds} (ok:okL l) (hn:c.vars.Nodup) (hb:∀ v∈c.vars,0≤v∧v<l.length) (h9:c.vars.length≤9) (id:Nat) (h:List Ob) (g0:h[id]? = some (.row 2 (l.map zaj))) :
  ∃ h',acw C zf2 [zaq c,.own id 0 l.length l.length] h=some (.ret (.tup []),h')∧Mvd id h h' (zmD (fun _ _=>false) l c.vars l):=by
 obtain ⟨H',e,m⟩:=zAd ok hn hb h9 id c.vars.length 0 (h++[.row 6 [zaq c]]) (by omega) (by rw [List.take_zero];exact zat g0)
 simp only [Int.cast_ofNat_Int] at e
 refine ⟨H',?_,(Mvd.grow g0).trans m⟩
 rw [zbd (CT zuF) rfl]
 simp [zaa,zl4,zqm,e]
theorem iff_1 (x:Int) (c:Con) (u w:Int) (hr:0≤c.rel∧c.rel≤5) (h:List Ob) :
  acw C zdB [iv x,.pin (.agg [iv u,iv w]) 0,.pin (zaq c) 0] h=some (.ret (.bool ((decide (x=1)&&zmA u w c.rel c.const)||(decide (x=0)&&zmA u w (zgF c.rel) c.const))),h):=by
 have k1:=fun h=>may u w c.rel c.const hr h
 have k2:=fun h=>may u w (zgF c.rel) c.const (zrJ hr) h
 have k3:=fun h=>contrary c.rel hr h
 refine zar (v:=.bool _) (CT zoQ) rfl rfl (fun _=>rfl) (by simp) ⟨[],?_⟩
 by_cases c1:x=1
 ·subst c1
  cases hm:zmA u w c.rel c.const<;>rw [hm] at k1<;>simp [zaa,ze2,zg4,k1,ieq,ine]
 ·by_cases c0:x=0
  ·subst c0
   simp [zaa,ze2,zg4,k2,k3,ieq,ine]
  ·simp [zaa,ze2,zg4,c1,c0,ieq,ine]
theorem ztk {l:Ds} (ok:okL l) (hn:l.length≤1000) (p q:V) (B:Nat):∀ (n i:Nat) (v:V) (h:List Ob),i+n=l.length→B≤h.length→zmL B h v 2 ((l.take i).map zaj) →
  ∃ v' h',evw C y0 zh9 [(2,p),(3,q),(6,v),(28,dsV l),(29,iv l.length),(30,iv i)] h=some (.ext 0,[(2,p),(3,q),(6,v'),(28,dsV l),(29,iv l.length),(30,iv l.length),(31,.bool false)],h')∧zmL B h' v' 2 (l.map zaj)∧∀ j,j<B→h'[j]? = h[j]?
 | 0,i,v,h,e,hB,hA=>by
  obtain rfl:i=l.length:=by omega
  rw [List.take_length] at hA
  rw [znW]
  refine ⟨v,h,?_,hA,fun _ _=>rfl⟩
  simp [zgg]
 | n+1,i,v,h,e,hB,hA=>by
  have hlt:i<l.length:=by omega
  obtain ⟨d,hd⟩:∃ d,d=l[i]:=⟨_,rfl⟩
  have hdm:=ok d (by rw [hd];exact List.getElem_mem hlt)
  have hd1:l[i]? = some d:=by simp [hlt,hd]
  have hd2:∀ h:i<l.length,l[i]'h=d:=fun _=>hd.symm
  have hi4:(i:Int)<l.length:=by omega
  have hw:=zac (i:=i) (n:=l.length) hlt (by omega)
  have kc:=fun h=>zgY d.vals (zaB hdm).2 h
  have k4:zii (.agg [.nsl 1,.int .u64 0]) [zaj d]=some (.sl 2 [zaj d]):=rfl
  obtain ⟨v1,w,e1,e2,-,e4⟩:=(hA.more (l:=[.row 2 [zaj d]])).app (b:=32) (y:=.sl 2 [zaj d]) (ys:=[zaj d]) (by simp;omega) rfl (by simp only [List.length_cons,List.length_nil,List.length_map,List.length_take];omega) (by simp only [List.length_cons,List.length_nil,List.length_map,List.length_take];omega)
  have e2':zmL B (wr (h++[.row 2 [zaj d]]) w) v1 2 ((l.take (i+1)).map zaj):=by
   rw [List.take_succ_eq_append_getElem hlt,←hd]
   simpa using e2
  obtain ⟨v',h',ih1,ih2,ih3⟩:=ztk ok hn p q B n (i+1) v1 _ (by omega) (Nat.le_trans (by simp;omega) (zjR _ w)) e2'
  simp only [Int.natCast_add,Int.cast_ofNat_Int] at ih1
  refine ⟨v',h',?_,ih2,fun j hj=>?_⟩
  ·rw [znW,←ih1]
   simp at e1
   simp [zgg,hlt,hd1,hd2,hi4,hw,kc,k4,e1]
  ·rw [ih3 j hj,e4 j hj,List.getElem?_append_left (by omega)]
theorem zq6 {l:Ds} (ok:okL l) (hn:l.length≤1000) (p q:V) (B:Nat):∀ (n i:Nat) (v:V) (h:List Ob),i+n=l.length→B≤h.length→zmL B h v 2 ((l.take i).map zaj) →
  ∃ v' h',evw C y0 zgT [(1,p),(2,q),(6,v),(29,dsV l),(30,iv l.length),(31,iv i)] h=some (.ext 0,[(1,p),(2,q),(6,v'),(29,dsV l),(30,iv l.length),(31,iv l.length),(32,.bool false)],h')∧zmL B h' v' 2 (l.map zaj)∧∀ j,j<B→h'[j]? = h[j]?
 | 0,i,v,h,e,hB,hA=>by
  obtain rfl:i=l.length:=by omega
  rw [List.take_length] at hA
  rw [zmp]
  refine ⟨v,h,?_,hA,fun _ _=>rfl⟩
  simp [zfa]
 | n+1,i,v,h,e,hB,hA=>by
  have hlt:i<l.length:=by omega
  obtain ⟨d,hd⟩:∃ d,d=l[i]:=⟨_,rfl⟩
  have hdm:=ok d (by rw [hd];exact List.getElem_mem hlt)
  have hd1:l[i]? = some d:=by simp [hlt,hd]
  have hd2:∀ h:i<l.length,l[i]'h=d:=fun _=>hd.symm
  have hi4:(i:Int)<l.length:=by omega
  have hw:=zac (i:=i) (n:=l.length) hlt (by omega)
  have kc:=fun h=>zgY d.vals (zaB hdm).2 h
  have k4:zii (.agg [.nsl 1,.int .u64 0]) [zaj d]=some (.sl 2 [zaj d]):=rfl
  obtain ⟨v1,w,e1,e2,-,e4⟩:=(hA.more (l:=[.row 2 [zaj d]])).app (b:=32) (y:=.sl 2 [zaj d]) (ys:=[zaj d]) (by simp;omega) rfl (by simp only [List.length_cons,List.length_nil,List.length_map,List.length_take];omega) (by simp only [List.length_cons,List.length_nil,List.length_map,List.length_take];omega)
  have e2':zmL B (wr (h++[.row 2 [zaj d]]) w) v1 2 ((l.take (i+1)).map zaj):=by
   rw [List.take_succ_eq_append_getElem hlt,←hd]
   simpa using e2
  obtain ⟨v',h',ih1,ih2,ih3⟩:=zq6 ok hn p q B n (i+1) v1 _ (by omega) (Nat.le_trans (by simp;omega) (zjR _ w)) e2'
  simp only [Int.natCast_add,Int.cast_ofNat_Int] at ih1
  refine ⟨v',h',?_,ih2,fun j hj=>?_⟩
  ·rw [zmp,←ih1]
   simp at e1
   simp [zfa,hlt,hd1,hd2,hi4,hw,kc,k4,e1]
  ·rw [ih3 j hj,e4 j hj,List.getElem?_append_left (by omega)]
theorem zrb {l:Ds} (ok:okL l) (hn:l.length≤1000) (p q:V) (B:Nat):∀ (n i:Nat) (v:V) (h:List Ob),i+n=l.length→B≤h.length→zmL B h v 2 ((l.take i).map zaj) →
  ∃ v' h',evw C y0 zgM [(2,p),(3,q),(6,v),(26,dsV l),(27,iv l.length),(28,iv i)] h=some (.ext 0,[(2,p),(3,q),(6,v'),(26,dsV l),(27,iv l.length),(28,iv l.length),(29,.bool false)],h')∧zmL B h' v' 2 (l.map zaj)∧∀ j,j<B→h'[j]? = h[j]?
 | 0,i,v,h,e,hB,hA=>by
  obtain rfl:i=l.length:=by omega
  rw [List.take_length] at hA
  rw [zmq]
  refine ⟨v,h,?_,hA,fun _ _=>rfl⟩
  simp [zfd]
 | n+1,i,v,h,e,hB,hA=>by
  have hlt:i<l.length:=by omega
  obtain ⟨d,hd⟩:∃ d,d=l[i]:=⟨_,rfl⟩
  have hdm:=ok d (by rw [hd];exact List.getElem_mem hlt)
  have hd1:l[i]? = some d:=by simp [hlt,hd]
  have hd2:∀ h:i<l.length,l[i]'h=d:=fun _=>hd.symm
  have hi4:(i:Int)<l.length:=by omega
  have hw:=zac (i:=i) (n:=l.length) hlt (by omega)
  have kc:=fun h=>zgY d.vals (zaB hdm).2 h
  have k4:zii (.agg [.nsl 1,.int .u64 0]) [zaj d]=some (.sl 2 [zaj d]):=rfl
  obtain ⟨v1,w,e1,e2,-,e4⟩:=(hA.more (l:=[.row 2 [zaj d]])).app (b:=32) (y:=.sl 2 [zaj d]) (ys:=[zaj d]) (by simp;omega) rfl (by simp only [List.length_cons,List.length_nil,List.length_map,List.length_take];omega) (by simp only [List.length_cons,List.length_nil,List.length_map,List.length_take];omega)
  have e2':zmL B (wr (h++[.row 2 [zaj d]]) w) v1 2 ((l.take (i+1)).map zaj):=by
   rw [List.take_succ_eq_append_getElem hlt,←hd]
   simpa using e2
  obtain ⟨v',h',ih1,ih2,ih3⟩:=zrb ok hn p q B n (i+1) v1 _ (by omega) (Nat.le_trans (by simp;omega) (zjR _ w)) e2'
  simp only [Int.natCast_add,Int.cast_ofNat_Int] at ih1
  refine ⟨v',h',?_,ih2,fun j hj=>?_⟩
  ·rw [zmq,←ih1]
   simp at e1
   simp [zfd,hlt,hd1,hd2,hi4,hw,kc,k4,e1]
  ·rw [ih3 j hj,e4 j hj,List.getElem?_append_left (by omega)]
theorem zsv {l:Ds} (ok:okL l) (hn:l.length≤1000) (p q:V) (B:Nat):∀ (n i:Nat) (v:V) (h:List Ob),i+n=l.length→B≤h.length→zmL B h v 2 ((l.take i).map zaj) →
  ∃ v' h',evw C y0 zir [(2,p),(3,q),(6,v),(26,dsV l),(27,iv l.length),(28,iv i)] h=some (.ext 0,[(2,p),(3,q),(6,v'),(26,dsV l),(27,iv l.length),(28,iv l.length),(29,.bool false)],h')∧zmL B h' v' 2 (l.map zaj)∧∀ j,j<B→h'[j]? = h[j]?
 | 0,i,v,h,e,hB,hA=>by
  obtain rfl:i=l.length:=by omega
  rw [List.take_length] at hA
  rw [zmR]
  refine ⟨v,h,?_,hA,fun _ _=>rfl⟩
  simp [zfN]
 | n+1,i,v,h,e,hB,hA=>by
  have hlt:i<l.length:=by omega
  obtain ⟨d,hd⟩:∃ d,d=l[i]:=⟨_,rfl⟩
  have hdm:=ok d (by rw [hd];exact List.getElem_mem hlt)
  have hd1:l[i]? = some d:=by simp [hlt,hd]
  have hd2:∀ h:i<l.length,l[i]'h=d:=fun _=>hd.symm
  have hi4:(i:Int)<l.length:=by omega
  have hw:=zac (i:=i) (n:=l.length) hlt (by omega)
  have kc:=fun h=>zgY d.vals (zaB hdm).2 h
  have k4:zii (.agg [.nsl 1,.int .u64 0]) [zaj d]=some (.sl 2 [zaj d]):=rfl
  obtain ⟨v1,w,e1,e2,-,e4⟩:=(hA.more (l:=[.row 2 [zaj d]])).app (b:=32) (y:=.sl 2 [zaj d]) (ys:=[zaj d]) (by simp;omega) rfl (by simp only [List.length_cons,List.length_nil,List.length_map,List.length_take];omega) (by simp only [List.length_cons,List.length_nil,List.length_map,List.length_take];omega)
  have e2':zmL B (wr (h++[.row 2 [zaj d]]) w) v1 2 ((l.take (i+1)).map zaj):=by
   rw [List.take_succ_eq_append_getElem hlt,←hd]
   simpa using e2
  obtain ⟨v',h',ih1,ih2,ih3⟩:=zsv ok hn p q B n (i+1) v1 _ (by omega) (Nat.le_trans (by simp;omega) (zjR _ w)) e2'
  simp only [Int.natCast_add,Int.cast_ofNat_Int] at ih1
  refine ⟨v',h',?_,ih2,fun j hj=>?_⟩
  ·rw [zmR,←ih1]
   simp at e1
   simp [zfN,hlt,hd1,hd2,hi4,hw,kc,k4,e1]
  ·rw [ih3 j hj,e4 j hj,List.getElem?_append_left (by omega)]
theorem ztK {l:Ds} (ok:okL l) (hn:l.length≤1000) (p q:V) (B:Nat):∀ (n i:Nat) (v:V) (h:List Ob),i+n=l.length→B≤h.length→zmL B h v 2 ((l.take i).map zaj) →
  ∃ v' h',evw C y0 zjD [(1,p),(2,q),(6,v),(28,dsV l),(29,iv l.length),(30,iv i)] h=some (.ext 0,[(1,p),(2,q),(6,v'),(28,dsV l),(29,iv l.length),(30,iv l.length),(31,.bool false)],h')∧zmL B h' v' 2 (l.map zaj)∧∀ j,j<B→h'[j]? = h[j]?
 | 0,i,v,h,e,hB,hA=>by
  obtain rfl:i=l.length:=by omega
  rw [List.take_length] at hA
  rw [zow]
  refine ⟨v,h,?_,hA,fun _ _=>rfl⟩
  simp [zhv]
 | n+1,i,v,h,e,hB,hA=>by
  have hlt:i<l.length:=by omega
  obtain ⟨d,hd⟩:∃ d,d=l[i]:=⟨_,rfl⟩
  have hdm:=ok d (by rw [hd];exact List.getElem_mem hlt)
  have hd1:l[i]? = some d:=by simp [hlt,hd]
  have hd2:∀ h:i<l.length,l[i]'h=d:=fun _=>hd.symm
  have hi4:(i:Int)<l.length:=by omega
  have hw:=zac (i:=i) (n:=l.length) hlt (by omega)
  have kc:=fun h=>zgY d.vals (zaB hdm).2 h
  have k4:zii (.agg [.nsl 1,.int .u64 0]) [zaj d]=some (.sl 2 [zaj d]):=rfl
  obtain ⟨v1,w,e1,e2,-,e4⟩:=(hA.more (l:=[.row 2 [zaj d]])).app (b:=32) (y:=.sl 2 [zaj d]) (ys:=[zaj d]) (by simp;omega) rfl (by simp only [List.length_cons,List.length_nil,List.length_map,List.length_take];omega) (by simp only [List.length_cons,List.length_nil,List.length_map,List.length_take];omega)
  have e2':zmL B (wr (h++[.row 2 [zaj d]]) w) v1 2 ((l.take (i+1)).map zaj):=by
   rw [List.take_succ_eq_append_getElem hlt,←hd]
   simpa using e2
  obtain ⟨v',h',ih1,ih2,ih3⟩:=ztK ok hn p q B n (i+1) v1 _ (by omega) (Nat.le_trans (by simp;omega) (zjR _ w)) e2'
  simp only [Int.natCast_add,Int.cast_ofNat_Int] at ih1
  refine ⟨v',h',?_,ih2,fun j hj=>?_⟩
  ·rw [zow,←ih1]
   simp at e1
   simp [zhv,hlt,hd1,hd2,hi4,hw,kc,k4,e1]
  ·rw [ih3 j hj,e4 j hj,List.getElem?_append_left (by omega)]
theorem zxC {l:Ds} (ok:okL l) (hn:l.length≤1000) (B:Nat):∀ (n i:Nat) (v:V) (h:List Ob),i+n=l.length→B≤h.length→zmL B h v 2 ((l.take i).map zaj) →
  ∃ v' h',evw C y0 zjo [(3,v),(6,dsV l),(7,iv l.length),(8,iv i)] h=some (.ext 0,[(3,v'),(6,dsV l),(7,iv l.length),(8,iv l.length),(9,.bool false)],h')∧zmL B h' v' 2 (l.map zaj)∧∀ j,j<B→h'[j]? = h[j]?
 | 0,i,v,h,e,hB,hA=>by
  obtain rfl:i=l.length:=by omega
  rw [List.take_length] at hA
  rw [zoK]
  refine ⟨v,h,?_,hA,fun _ _=>rfl⟩
  simp [zg2]
 | n+1,i,v,h,e,hB,hA=>by
  have hlt:i<l.length:=by omega
  obtain ⟨d,hd⟩:∃ d,d=l[i]:=⟨_,rfl⟩
  have hdm:=ok d (by rw [hd];exact List.getElem_mem hlt)
  have hd1:l[i]? = some d:=by simp [hlt,hd]
  have hd2:∀ h:i<l.length,l[i]'h=d:=fun _=>hd.symm
  have hi4:(i:Int)<l.length:=by omega
  have hw:=zac (i:=i) (n:=l.length) hlt (by omega)
  have kc:=fun h=>zgY d.vals (zaB hdm).2 h
  have k4:zii (.agg [.nsl 1,.int .u64 0]) [zaj d]=some (.sl 2 [zaj d]):=rfl
  obtain ⟨v1,w,e1,e2,-,e4⟩:=(hA.more (l:=[.row 2 [zaj d]])).app (b:=32) (y:=.sl 2 [zaj d]) (ys:=[zaj d]) (by simp;omega) rfl (by simp only [List.length_cons,List.length_nil,List.length_map,List.length_take];omega) (by simp only [List.length_cons,List.length_nil,List.length_map,List.length_take];omega)
  have e2':zmL B (wr (h++[.row 2 [zaj d]]) w) v1 2 ((l.take (i+1)).map zaj):=by
   rw [List.take_succ_eq_append_getElem hlt,←hd]
   simpa using e2
  obtain ⟨v',h',ih1,ih2,ih3⟩:=zxC ok hn B n (i+1) v1 _ (by omega) (Nat.le_trans (by simp;omega) (zjR _ w)) e2'
  simp only [Int.natCast_add,Int.cast_ofNat_Int] at ih1
  refine ⟨v',h',?_,ih2,fun j hj=>?_⟩
  ·rw [zoK,←ih1]
   simp at e1
   simp [zg2,hlt,hd1,hd2,hi4,hw,kc,k4,e1]
  ·rw [ih3 j hj,e4 j hj,List.getElem?_append_left (by omega)]
theorem zu4 {c:Con} {l out:Ds} (ok:okL l) (hl:out.length=l.length) (h:∀ i (h1:i<out.length) (h2:i<l.length),out[i]=if (i:Int)∈c.vars then zau (kp c (lists l) i) l[i] else l[i]):out=zai c l:=by
 refine List.ext_getElem (by rw [zby];exact hl) fun i h1 h2=>?_
 rw [h i h1 (by omega),zhB]
 split
 ·rfl
 ·rename_i hv
  exact (ziD (ok _ (List.getElem_mem _)) fun x _=>zqY hv).symm
theorem zn3 {c:Con} {l:Ds} {P:Int→Int→Bool} (ok:okL l) (hb:∀ v∈c.vars,0≤v) (hP:∀ (i:Nat) (h:i<l.length),(i:Int)∈c.vars→∀ x∈zag l[i],P i x=kp c (lists l) i x):zmD P l c.vars l=zai c l:=by
 refine zu4 ok zcH fun i h1 h2=>?_
 rw [zkq h1 h2 h2 hb]
 split
 ·rename_i hv
  exact zaD (hP i h2 hv)
 ·rfl
theorem zmZ {l:Ds} {i:Nat} (h:i<l.length):atL (lists l) (i:Int)=zag l[i]:=by rw [zbn (by omega)];rfl
theorem kp_iff {c:Con} {L:Ls} {v x:Int} (hk:c.kind=3) (hw:wiped c.vars L=false) (hv:v∈c.vars):kp c L v x=zxe c L v x:=by
 unfold kp
 rw [if_neg (by rw [List.contains_iff_mem.2 hv];simp),if_neg (by omega),if_pos hk,hw]
 rfl
theorem iff {c:Con} {l:Ds} (ok:okL l) (hc:RC c l.length) (hk:c.kind=3) (hks:znt c.coefs) (hw:wiped c.vars (lists l)=false) (hll:l.length≤1000) (id:Nat) (h:List Ob) (g0:h[id]? = some (.row 2 (l.map zaj))) :
  ∃ h',acw C zkp [zaq c,dsV l,.own id 0 l.length l.length] h=some (.ret (.tup []),h')∧Mvd id h h' (zai c l):=by
 obtain ⟨hi1,hr⟩:=hc.i hk
 have hne:=zn1 hw
 have hcb:=hc.b
 have hnd:=hc.nd
 have hv9:=hc.v8.1
 obtain ⟨f,rest,hcv⟩:∃ f rest,c.vars=f::rest:=by
  cases e:c.vars with
  | nil=>rw [e] at hi1;simp at hi1
  | cons f rest=>exact ⟨f,rest,rfl⟩
 have hiff:∀ v∈c.vars,∀ x,kp c (lists l) v x=zxe c (lists l) v x:=fun v hv x=>kp_iff hk hw hv
 have kn:=lnone ok hnd hcb hv9 id
 rw [hcv] at hi1 hne hcb hnd hv9
 have hn2:=List.nodup_cons.1 hnd
 simp only [List.length_cons] at hi1 hv9
 have hs:zwT c rest l:=⟨by omega,fun v hv=>hcb v (by simp [hv]),ok,fun v hv=>hne v (by simp [hv]),hks,by omega⟩
 have kt:=fun h=>total hs h
 obtain ⟨E1,hE1⟩:∃ x,x=(ends (lists l) (fun _=>false) c.coefs rest).1:=⟨_,rfl⟩
 obtain ⟨E2,hE2⟩:∃ x,x=(ends (lists l) (fun _=>false) c.coefs rest).2:=⟨_,rfl⟩
 rw [←hE1,←hE2] at kt
 have hfb:=hcb f (by simp)
 obtain ⟨w,rfl⟩:∃ w:Nat,f=w:=⟨f.toNat,by omega⟩
 have hwl:w<l.length:=by omega
 obtain ⟨d,hd⟩:∃ d,d=l[w]:=⟨_,rfl⟩
 have hdm:=ok d (by rw [hd];exact List.getElem_mem hwl)
 have hat:atL (lists l) (w:Int)=zag d:=by rw [zmZ hwl,hd]
 have kh:=fun v h=>zwM d v (zaB hdm).1 (zaB hdm).2 h
 have hany:∀ v:Int,((zag d).any fun y=>v==y)=(zag d).contains v:=fun v=>by
  rw [Bool.eq_iff_iff]
  simp [List.any_eq_true,List.contains_iff_mem]
 simp only [hany] at kh
 obtain ⟨yes,hy⟩:∃ y,y=(zag d).contains 1:=⟨_,rfl⟩
 obtain ⟨no,hno⟩:∃ y,y=(zag d).contains 0:=⟨_,rfl⟩
 have kh1:=fun h=>kh 1 h
 have kh0:=fun h=>kh 0 h
 rw [←hy] at kh1
 rw [←hno] at kh0
 have hid:id<h.length:=(List.getElem?_eq_some_iff.1 g0).1
 have hd1:l[w]? = some d:=by simp [hwl,hd]
 have hd2:∀ h:w<l.length,l[w]'h=d:=fun _=>hd.symm
 have hi6:(w:Int)<l.length:=by omega
 have hcV:zaq c=.agg [iv c.kind,zab ((w:Int)::rest),zab c.coefs,iv c.rel,iv c.const,zab c.nums]:=by rw [←hcv]
 -- the first variable, whatever stands in the row
 have last:∀ (ds:Ds) (H:List Ob),ds.length=l.length→H[id]? = some (.row 2 (ds.map zaj))→H[h.length]? = some (.row 6 [zaq c])→h.length<H.length →
   acw C zco [zaj d,.fn (.func zdB) [] [.ptr H.length 0 0 1,.ptr h.length 0 0 1]] (H++[.row 2 [.agg [iv E1,iv E2]]])=some (.ret (zaj (zau (fun x=>(decide (x=1)&&zmA E1 E2 c.rel c.const)||(decide (x=0)&&zmA E1 E2 (zgF c.rel) c.const)) d)),H++[.row 2 [.agg [iv E1,iv E2]],.row 2 [zaj (zau (fun x=>(decide (x=1)&&zmA E1 E2 c.rel c.const)||(decide (x=0)&&zmA E1 E2 (zgF c.rel) c.const)) d)],.row 2 [zaj (zau (fun x=>(decide (x=1)&&zmA E1 E2 c.rel c.const)||(decide (x=0)&&zmA E1 E2 (zgF c.rel) c.const)) d)]]):=fun ds H h1 h2 h3 h4=>by
  have:=kept d hdm (fun x=>(decide (x=1)&&zmA E1 E2 c.rel c.const)||(decide (x=0)&&zmA E1 E2 (zgF c.rel) c.const)) zdB [.ptr H.length 0 0 1,.ptr h.length 0 0 1] (H++[.row 2 [.agg [iv E1,iv E2]]]) (fun x hx t=>by
   refine zgG (a2:=[iv x,.pin (.agg [iv E1,iv E2]) 0,.pin (zaq c) 0]) (CT zoQ) rfl ?_ rfl (iff_1 x c E1 E2 hr []) rfl
   rw [List.append_assoc]
   have z1:=zoM (h:=H++([.row 2 [.agg [iv E1,iv E2]]]++t)) (a:=H.length) (sa:=2) (x:=.agg [iv E1,iv E2]) (x':=.agg [iv E1,iv E2]) (by simp) rfl
   have z2:=zoM (zat (t:=[.row 2 [.agg [iv E1,iv E2]]]++t) h3) (x':=zaq c) rfl
   have z0:frz (H++([.row 2 [.agg [iv E1,iv E2]]]++t)) fdepth (iv x)=some (iv x):=rfl
   simp only [zj4,zdP,z0,z1,z2])
  rw [this,List.append_assoc]
  rfl
 obtain ⟨D,hD⟩:∃ D,D=zau (fun x=>(decide (x=1)&&zmA E1 E2 c.rel c.const)||(decide (x=0)&&zmA E1 E2 (zgF c.rel) c.const)) d:=⟨_,rfl⟩
 simp only [←hD] at last
 have g0':(h++[.row 6 [zaq c]])[id]? = some (.row 2 (l.map zaj)):=zat g0
 have gc:(h++[.row 6 [zaq c]])[h.length]? = some (.row 6 [zaq c]):=by simp
 -- what is written at last
 have out:∀ (P:Int→Int→Bool),(!yes&&!no)=false→(∀ (i:Nat) (h:i<l.length),(i:Int)∈rest→∀ x∈zag l[i],P i x=zxe c (lists l) i x)→(zmD P l rest l).set w D=zai c l:=fun P hyn hP=>by
  refine zu4 ok (by rw [List.length_set,zcH]) fun i h1 h2=>?_
  rw [hcv,List.getElem_set]
  by_cases e:w=i
  ·subst e
   rw [if_pos rfl,if_pos (by simp),hD,←hd]
   refine zaD fun x hx=>?_
   rw [hiff w (by rw [hcv];simp)]
   unfold zxe
   rw [hcv]
   simp only
   rw [hat,←hy,←hno,if_neg (by rw [hyn];simp),if_pos trivial,←hE1,←hE2]
  ·rw [if_neg e,zkq (by rw [zcH];exact h2) h2 h2 (fun v hv=>(hs.hb v hv).1)]
   by_cases hr':(i:Int)∈rest
   ·rw [if_pos hr',if_pos (by simp [hr'])]
    refine zaD fun x hx=>?_
    rw [hP i h2 hr' x hx,hiff i (by rw [hcv];simp [hr'])]
   ·rw [if_neg hr',if_neg (by simp only [List.mem_cons,not_or];exact ⟨by omega,hr'⟩)]
 have nf:∀ i:Nat,(i:Int)∈rest→¬(i:Int)=(w:Int):=fun i hi e=>hn2.1 (by rw [←e];exact hi)
 have kifr:∀ (i:Nat) (x:Int),(i:Int)∈rest→(!yes&&!no)=false→zxe c (lists l) i x=if no=false then zti c.coefs rest c.rel c.const (lists l) i x else if yes=false then zti c.coefs rest (zgF c.rel) c.const (lists l) i x else true:=fun i x hi hyn=>by
  unfold zxe
  rw [hcv]
  simp only
  rw [hat,←hy,←hno,if_neg (by rw [hyn];simp),if_neg (nf i hi)]
 have wrd:∀ (ds:Ds),(ds.map zaj).set w (zaj D)=(ds.set w D).map zaj:=fun ds=>by rw [List.map_set]
 have fin:∀ (ds:Ds) (H:List Ob),H[id]? = some (.row 2 (ds.map zaj))→id<H.length→Mvd id (h++[.row 6 [zaq c]]) H ds→Mvd id h (H.set id (.row 2 ((ds.map zaj).set w (zaj D)))++[.row 2 [.agg [iv E1,iv E2]],.row 2 [zaj D],.row 2 [zaj D]]) (ds.set w D):=fun ds H e1 e2 m=>by
  rw [wrd]
  refine ⟨by have:=m.le;simp at this ⊢;omega,zat (List.getElem?_set_self e2),fun j h1 h2=>?_⟩
  have:=m.le
  rw [List.length_append] at this
  rw [List.getElem?_append_left (by rw [List.length_set];omega),List.getElem?_set_ne (by omega),m.same j (by simp;omega) h2,List.getElem?_append_left h1]
 have hl1:(1:Int)≤rest.length+1:=by omega
 have tk:(rest.map (V.int .i64)).take rest.length=rest.map (V.int .i64):=List.take_of_length_le (by simp)
 cases yes with
 | false=>
  cases no with
  | false=>
   obtain ⟨h',e,m⟩:=kn (h++[.row 6 [zaq c]]) g0'
   refine ⟨h',?_,?_⟩
   ·rw [zbd (CT zkf) rfl]
    rw [hcV] at e ⊢
    simp [zaa,zfs,zhH,hl1,tk,hwl,hd1,hd2,hi6,kh1,kh0,e]
   ·have es:zmD (fun _ _=>false) l c.vars l=zai c l:=zn3 ok (fun v hv=>(hc.b v hv).1) fun i hi hv x hx=>by
     rw [hiff i hv]
     unfold zxe
     rw [hcv]
     simp only
     rw [hat,←hy,←hno,if_pos (by simp)]
    rw [←es]
    exact (Mvd.grow g0).trans m
  | true=>
   obtain ⟨h1,e,m⟩:=sum hs hn2.2 (zrJ hr) id l (h++[.row 6 [zaq c]]) rfl g0'
   have hlt:id<h1.length:=(List.getElem?_eq_some_iff.1 m.at_).1
   have hle:=m.le
   rw [List.length_append,List.length_singleton] at hle
   have gc1:h1[h.length]? = some (.row 6 [zaq c]):=by rw [m.same h.length (by simp) (by omega)];exact gc
   obtain ⟨ds,hds⟩:∃ ds,ds=zmD (zti c.coefs rest (zgF c.rel) c.const (lists l)) l rest l:=⟨_,rfl⟩
   have hdl:ds.length=l.length:=by rw [hds,zcH]
   have ho:=out (zti c.coefs rest (zgF c.rel) c.const (lists l)) rfl (fun i hi hr' x hx=>by rw [kifr i x hr' rfl];simp)
   rw [←hds] at m ho
   have kl:=last ds h1 hdl m.at_ gc1 (by omega)
   have q0:∀ t,(h1++t)[id]? = some (.row 2 (ds.map zaj)):=fun t=>zat m.at_
   have q1:∀ t,(h1++t)[h.length]? = some (.row 6 [zaq c]):=fun t=>zat gc1
   have k3:=fun h=>contrary c.rel hr h
   have hw2:w<ds.length:=by omega
   refine ⟨_,?_,by rw [←ho];exact fin ds h1 m.at_ hlt m⟩
   rw [zbd (CT zkf) rfl]
   rw [hcV] at e kt gc1 q1 ⊢
   simp [zaa,zfs,zhH,hl1,tk,hwl,hd1,hd2,hi6,kh1,kh0,e,kt,kl,gc1,q0,q1,k3,hdl,hw2]
   rw [zq3 hlt]
 | true=>
  cases no with
  | false=>
   obtain ⟨h1,e,m⟩:=sum hs hn2.2 hr id l (h++[.row 6 [zaq c]]) rfl g0'
   have hlt:id<h1.length:=(List.getElem?_eq_some_iff.1 m.at_).1
   have hle:=m.le
   rw [List.length_append,List.length_singleton] at hle
   have gc1:h1[h.length]? = some (.row 6 [zaq c]):=by rw [m.same h.length (by simp) (by omega)];exact gc
   obtain ⟨ds,hds⟩:∃ ds,ds=zmD (zti c.coefs rest c.rel c.const (lists l)) l rest l:=⟨_,rfl⟩
   have hdl:ds.length=l.length:=by rw [hds,zcH]
   have ho:=out (zti c.coefs rest c.rel c.const (lists l)) rfl (fun i hi hr' x hx=>by rw [kifr i x hr' rfl];simp)
   rw [←hds] at m ho
   have kl:=last ds h1 hdl m.at_ gc1 (by omega)
   have q0:∀ t,(h1++t)[id]? = some (.row 2 (ds.map zaj)):=fun t=>zat m.at_
   have q1:∀ t,(h1++t)[h.length]? = some (.row 6 [zaq c]):=fun t=>zat gc1
   have hw2:w<ds.length:=by omega
   refine ⟨_,?_,by rw [←ho];exact fin ds h1 m.at_ hlt m⟩
   rw [zbd (CT zkf) rfl]
   rw [hcV] at e kt gc1 q1 ⊢
   simp [zaa,zfs,zhH,hl1,tk,hwl,hd1,hd2,hi6,kh1,kh0,e,kt,kl,gc1,q0,q1,hdl,hw2]
   rw [zq3 hlt]
  | true=>
   have hlt:id<(h++[Ob.row 6 [zaq c]]).length:=by rw [List.length_append];omega
   have ho:=out (fun _ _=>true) rfl (fun i hi hr' x hx=>by rw [kifr i x hr' rfl];simp)
   have eu:zmD (fun _ _=>true) l rest l=l:=by
    refine List.ext_getElem zcH fun i h1 h2=>?_
    rw [zkq h1 h2 h2 (fun v hv=>(hs.hb v hv).1)]
    split
    ·exact ziD (ok _ (List.getElem_mem h2)) fun _ _=>rfl
    ·rfl
   rw [eu] at ho
   have kl:=last l (h++[.row 6 [zaq c]]) rfl g0' gc (by simp)
   have q0:∀ t,(h++t)[id]? = some (.row 2 (l.map zaj)):=fun t=>zat g0
   refine ⟨_,?_,by rw [←ho];exact fin l (h++[.row 6 [zaq c]]) g0' hlt (Mvd.refl g0')⟩
   rw [zbd (CT zkf) rfl]
   rw [hcV] at kt ⊢
   simp only [List.length_append,List.length_singleton,List.append_assoc,List.cons_append,List.nil_append] at kl
   rw [hcV] at kl
   simp [zaa,zfs,zhH,hl1,tk,hwl,hd1,hd2,hi6,kh1,kh0,kt,kl,q0]
   rw [zq3 hid,List.set_append_left _ _ hid,List.append_assoc]
   rfl
end Go.RR.FX
namespace Go.RR
open Go.Lib
end Go.RR
namespace Go.RR.M
open Go Go.RR Go.Lib
section
variable (c:Con) (row:List Int) (hr:∀ v∈c.vars,0≤v∧v<row.length)
end
inductive Kd (c:Con) (n:Int):Prop where
 | lin (h:c.kind=1) (hv:zfq c n 1 8=true) (hs:zw2 c 0=true)
 | prod (h:c.kind=2) (hv:zfq c n 3 3=true) (hs:znA c 0 0=true)
 | iff (h:c.kind=3) (hv:zfq c n 2 9=true) (hs:zw2 c 1=true)
 | elt (h:c.kind=4) (hv:zfq c n 2 2=true) (hs:znA c 1 96=true)
 | dif (h:c.kind=5) (hv:zfq c n 2 8=true) (hs:znA c 0 0=true)
 | tab (h:c.kind=6) (hv:zfq c n 1 8=true) (hs:znA c 0 96=true) (hm:((c.nums.length:Int).tmod c.vars.length)=0)
theorem kd {c:Con} {n:Int} (h:zaC c n=true):Kd c n:=by
 unfold zaC at h
 split at h
 ·rename_i e;unfold zlt at h;simp only [Bool.and_eq_true] at h;exact .lin e h.1 h.2
 split at h
 ·rename_i e;unfold zkE at h;simp only [Bool.and_eq_true] at h;exact .prod e h.1 h.2
 split at h
 ·rename_i e;unfold zBY at h;simp only [Bool.and_eq_true] at h;exact .iff e h.1 h.2
 split at h
 ·rename_i e;unfold zkQ at h;simp only [Bool.and_eq_true] at h;exact .elt e h.1 h.2
 split at h
 ·rename_i e;unfold zlk at h;simp only [Bool.and_eq_true] at h;exact .dif e h.1 h.2
 split at h
 ·rename_i e;unfold zrk at h;simp only [Bool.and_eq_true,decide_eq_true_eq] at h;exact .tab e h.1 h.2.1 h.2.2
 ·cases h
end Go.RR.M
namespace Go.RR
def c150 (c:Con):Prop:=c.vars.length≤150∧c.coefs.length≤150∧c.nums.length≤150
end Go.RR
namespace Go.RR.M
open Go Go.RR
theorem zki {c:Con} (h:c150 c):zu7 c:=⟨by have:=h.1;omega,by have:=h.2.1;omega,by have:=h.2.2;omega⟩
end Go.RR.M
namespace Go.RR
end Go.RR
namespace Go.RR.M
open Go Go.RR
def zmu (c:Con):Bool:=decide (150<(c.vars.length:Int))||(decide (150<(c.coefs.length:Int))||decide (150<(c.nums.length:Int)))
def zph (l:List Con) (row:List Int):Bool:=decide (40<(l.length:Int))||(decide (40<(row.length:Int))||l.any zmu)
theorem zyv (l:List Con) (hl:l.length≤40):∀ (k i:Nat) (h:List Ob),i+k=l.length →
  ∃ fr' h',evw C y0 ziq [(15,zaW l),(16,iv l.length),(17,iv i)] h=some (if (l.drop i).any zmu=true then (.ret,[(4,.bool true)],h') else (.ext 0,fr',h')):=by
 intro k
 induction k with
 | zero=>
  intro i h hi
  have:i=l.length:=by omega
  subst this
  refine ⟨[(15,zaW l),(16,iv l.length),(17,iv l.length),(18,.bool false)],h,?_⟩
  rw [znj,List.drop_length]
  simp [zb4]
 | succ k ih=>
  intro i h hi
  have hlt:i<l.length:=by omega
  have hw:=zac hlt (by omega)
  obtain ⟨fr',h',ih⟩:=ih (i+1) (h++[.row 6 [zaq l[i]]]) (by omega)
  simp only [Int.natCast_add,Int.cast_ofNat_Int] at ih
  rw [znj,List.drop_eq_getElem_cons hlt,List.any_cons]
  by_cases c1:150<(l[i].vars.length:Int)
  ·have e:zmu l[i]=true:=by simp [zmu,c1]
   refine ⟨[],h++[.row 6 [zaq l[i]]],?_⟩
   simp only [e,Bool.true_or,if_true]
   simp [zb4,hlt,c1]
  by_cases c2:150<(l[i].coefs.length:Int)
  ·have e:zmu l[i]=true:=by simp [zmu,c2]
   refine ⟨[],h++[.row 6 [zaq l[i]]],?_⟩
   simp only [e,Bool.true_or,if_true]
   simp [zb4,hlt,c1,c2]
  by_cases c3:150<(l[i].nums.length:Int)
  ·have e:zmu l[i]=true:=by simp [zmu,c3]
   refine ⟨[],h++[.row 6 [zaq l[i]]],?_⟩
   simp only [e,Bool.true_or,if_true]
   simp [zb4,hlt,c1,c2,c3]
  have e:zmu l[i]=false:=by simp [zmu,c1,c2,c3]
  refine ⟨fr',h',?_⟩
  simp only [e,Bool.false_or,←ih]
  simp [zb4,hlt,c1,c2,c3,hw]
theorem gLarge (l:List Con) (row:List Int) (h:List Ob):acw C zfM [zaW l,zab row] h=some (.ret (.bool (zph l row)),h):=by
 refine zar (v:=.bool (zph l row)) (CT zqg) rfl rfl (fun _=>rfl) (by simp) ?_
 unfold zph
 by_cases c1:40<(l.length:Int)
 ·simp [zaa,zej,zfG,c1]
 by_cases c2:40<(row.length:Int)
 ·simp [zaa,zej,zfG,c1,c2]
 obtain ⟨fr',h',e⟩:=zyv l (by omega) l.length 0 [] (by omega)
 simp only [List.drop_zero,Int.cast_ofNat_Int] at e
 simp only [decide_eq_false c1,decide_eq_false c2,Bool.false_or]
 rcases Bool.eq_false_or_eq_true (l.any zmu) with b|b<;>simp only [b,Bool.false_eq_true,if_true,if_false] at e<;>simp only [b]
 ·simp [zaa,zej,zfG,c1,c2,e]
 ·simp [zaa,zej,zfG,c1,c2,e]
end Go.RR.M
namespace Go.RR.FX
open Go Go.RR Go.RR.M
structure zmK (l:Ds):Prop where
 n:l.length≤1000
 d:∀ d∈l,d.live<18446744073709551616∧d.vals.length≤1000000
def zfR (l:Ds):Bool:=l.all zcX
theorem zgu {l:Ds} (h:zfR l=true):okL l:=List.all_eq_true.1 h
theorem zCQ (d:Dm):Elt true 2 (zaj d):=zzM rfl
theorem zAM (d:Dm):Fz (zaj d):=Fz.agg rfl
theorem zC5 {h:List Ob} {f a sa:Nat} {x x':V} (ha:h[a]? = some (.row sa [x])) (hx:frz h 10 x=some x'):frz h fdepth (.fn (.func f) [] [.ptr a 0 0 1])=some (.fn (.func f) [] [.pin x' 0]):=by
 have e1:zaF h a 1=some (sa,[x]):=by simp [zaF,ha]
 simp [fdepth,frz,ha,hx]
theorem zd9 (p:Dm→Bool) (g:Nat) (l:Ds) (hp:∀ d∈l,∀ h,acw C g [zaj d] h=some (.ret (.bool (p d)),h)) (hl:l.length≤1000) (h:List Ob):acw C zaf [dsV l,.fn (.func g) [] []] h=some (.ret (.bool (l.any p)),h):=
 zfr (C:=C) (m:=zaf) (n:=zaJ) (enc:=zaj) (CT zfp) (CT zeh) (g:=g) (first:=[]) (cap:=[]) l (by omega) (fun _ _=>zCQ _) (f':=.fn (.func g) [] []) (h:=h) rfl (fun _=>rfl) (p:=p) (fun a ha=>hp a ha [])
theorem zgD (l:Ds):(l.any fun d=>!zcX d)=!zfR l:=by
 unfold zfR
 rw [List.not_all_eq_any_not]
theorem lmay_1 (d:Dm) (hd:d.live<18446744073709551616∧d.vals.length≤1000000) (h:List Ob):acw C zdO [zaj d] h=some (.ret (.bool (!zcX d)),h):=by
 have k:=fun h=>zjb d hd.1 hd.2 h
 refine zar (v:=.bool _) (CT zr7) rfl rfl (fun _=>rfl) (by simp) ⟨[.row 2 [zaj d]],?_⟩
 simp [zaa,zje,znF,k]
theorem size0 (d:Dm):((zfV d:Int)==0)=(zag d).isEmpty:=by
 unfold zfV
 cases zag d with
 | nil=>rfl
 | cons a r=>
  have:((a::r).length:Int)≠0:=by simp only [List.length_cons];omega
  simp only [beq_eq_false_iff_ne.2 this,List.isEmpty_cons]
theorem zEV (v:Int) (l:Ds) (ok:okL l) (hv:0≤v∧v<l.length) (h:List Ob):acw C zcR [iv v,.pin (dsV l) 0] h=some (.ret (.bool (atL (lists l) v).isEmpty),h):=by
 obtain ⟨w,rfl⟩:∃ w:Nat,v=w:=⟨v.toNat,by omega⟩
 have hw:w<l.length:=by omega
 rw [zmZ hw]
 obtain ⟨d,hd⟩:∃ d,d=l[w]:=⟨_,rfl⟩
 have hdm:=ok d (by rw [hd];exact List.getElem_mem hw)
 have k:=fun h=>zrH d (zaB hdm).1 (zaB hdm).2 h
 rw [←hd,←size0]
 have hd1:l[w]? = some d:=by simp [hw,hd]
 have hd2:∀ h:w<l.length,l[w]'h=d:=fun _=>hd.symm
 have hi6:(w:Int)<l.length:=by omega
 refine zar (v:=.bool _) (CT zrY) rfl rfl (fun _=>rfl) (by simp) ⟨[],?_⟩
 simp [zaa,zjN,znk,hw,hd1,hd2,hi6,k]
theorem zyB {vs:List Int} {l:Ds} (ok:okL l) (hb:∀ v∈vs,0≤v∧v<l.length) (hl:vs.length≤9) (a:Nat) (h:List Ob) (ha:h[a]? = some (.row 1 [dsV l])):acw C zan [zab vs,.fn (.func zcR) [] [.ptr a 0 0 1]] h=some (.ret (.bool (wiped vs (lists l))),h):=
 zfr (C:=C) (m:=zan) (n:=zaH) (enc:=V.int .i64) (CT zb1) (CT zbw) (g:=zcR) (first:=[]) (cap:=[.pin (dsV l) 0]) vs (by omega) (fun _ _=>zqD) (zC5 ha rfl) (fun _=>rfl) (p:=fun v=>(atL (lists l) v).isEmpty) (fun v hv=>zEV v l ok (hb v hv) [])
theorem zmj {h:List Ob} {id n:Nat} {ds:Ds} (e:h[id]? = some (.row 2 (ds.map zaj))) (hn:n=ds.length) (k:Nat):frz h (k+6) (.own id 0 n n)=some (dsV ds):=
 zmL.frz (B:=0) (z:=2) (xs:=ds.map zaj) (k+5) (.inr ⟨id,by omega,by simp [hn],e⟩) (znz fun x hx=>by
  obtain ⟨b,-,rfl⟩:=List.mem_map.1 hx
  exact zAM b _ (k+1))
def znO (kind:Bool) (c:Con) (l:Ds):Ds×Int:=if (kind&&(zaC c l.length&&zfR l))=true then (zai c l,0) else ([],1)
theorem zpf {c:Con} {n:Int} (h:zaC c n=true) (hk:c.kind=1∨c.kind=3):znt c.coefs:=by
 unfold zaC at h
 rcases hk with e|e
 ·rw [if_pos e] at h
  unfold zlt zw2 at h
  simp only [Bool.and_eq_true] at h
  exact fun k hk=>zsT h.2.2.1 k hk
 ·rw [if_neg (by omega),if_neg (by omega),if_pos e] at h
  unfold zBY zw2 at h
  simp only [Bool.and_eq_true] at h
  exact fun k hk=>zsT h.2.2.1 k hk
theorem zBW {c:Con} {L:Ls} {v x:Int} (hk:c.kind=1∨c.kind=3) (hw:wiped c.vars L=true) (hv:v∈c.vars):kp c L v x=false:=by
 unfold kp
 rw [if_neg (by rw [List.contains_iff_mem.2 hv];simp),hw]
 rcases hk with e|e
 ·rw [if_pos e];rfl
 ·rw [if_neg (by omega),if_pos e];rfl
theorem zxr (c:Con) (hc:c150 c) (l:Ds) (hl:zmK l) (h:List Ob):acw C zf6 [zaq c,dsV l] h=some (.ret (.tup [dsV (znO (decide (c.kind=1)||decide (c.kind=3)) c l).1,iv (znO (decide (c.kind=1)||decide (c.kind=3)) c l).2]),h):=by
 have kr:=fun h=>right c l.length (zki hc) h
 have km:=fun h=>zd9 (fun d=>!zcX d) zdO l (fun d hd h=>lmay_1 d (hl.d d hd) h) hl.n h
 rw [zgD] at km
 unfold znO
 have bad:∀ (g:(decide (c.kind=1)||decide (c.kind=3))=false∨zaC c l.length=false∨zfR l=false),acw C zf6 [zaq c,dsV l] h=some (.ret (.tup [dsV [],iv 1]),h):=fun g=>by
  refine zap (h':=[.row 6 [zaq c],.row 1 [dsV l]]) (v:=.tup [.nsl 2,iv 1]) (v':=.tup [dsV [],iv 1]) (CT zqe) rfl rfl ?_ rfl (by simp)
  by_cases c1:c.kind=1
  ·have n1:(c.kind != 1)=false:=by rw [c1];rfl
   rcases g with g|g|g
   ·simp [c1] at g
   ·simp [zaa,za5,zbu,n1,kr,g]
   ·cases hr:zaC c l.length<;>rw [hr] at kr<;>simp [zaa,za5,zbu,n1,kr,km,g]
  ·have c1':(c.kind != 1)=true:=by rw [bne_iff_ne];exact c1
   by_cases c3:c.kind=3
   ·have n3:(c.kind != 3)=false:=by rw [c3];rfl
    rcases g with g|g|g
    ·simp [c3] at g
    ·simp [zaa,za5,zbu,c1',n3,kr,g]
    ·cases hr:zaC c l.length<;>rw [hr] at kr<;>simp [zaa,za5,zbu,c1',n3,kr,km,g]
   ·have c3':(c.kind != 3)=true:=by rw [bne_iff_ne];exact c3
    simp [zaa,za5,zbu,c1',c3']
 cases hk:(decide (c.kind=1)||decide (c.kind=3)) with
 | false=>exact bad (.inl hk)
 | true=>
 cases hr:zaC c l.length with
 | false=>exact bad (.inr (.inl hr))
 | true=>
 cases hm:zfR l with
 | false=>exact bad (.inr (.inr hm))
 | true=>
 simp only [Bool.and_self,if_true]
 rw [hr] at kr
 rw [hm] at km
 have hk2:c.kind=1∨c.kind=3:=by simpa using hk
 have ok:=zgu hm
 have rc:=RC.of hr
 have hks:=zpf hr hk2
 obtain ⟨v,h1,e1,a1,s1⟩:=ztk ok hl.n (.ptr 0 0 0 1) (.ptr 1 0 0 1) 2 l.length 0 (.nsl 2) [.row 6 [zaq c],.row 1 [dsV l]] (by omega) (by simp) (.inl ⟨rfl,by simp⟩)
 simp only [Int.cast_ofNat_Int] at e1
 have b0:h1[0]? = some (.row 6 [zaq c]):=by rw [s1 0 (by omega)];rfl
 have b1:h1[1]? = some (.row 1 [dsV l]):=by rw [s1 1 (by omega)];rfl
 have hpos:0<l.length:=by
  have hvl:c.vars≠[]:=by
   intro e
   rcases hk2 with q|q
   ·have:=(rc.s q).1
    unfold zaC zlt zfq at hr
    rw [if_pos q,e] at hr
    simp at hr
   ·have:=(rc.i q).1
    rw [e] at this
    simp at this
  obtain ⟨u,hu⟩:=List.exists_mem_of_ne_nil _ hvl
  have:=rc.b u hu
  omega
 obtain ⟨id,hid,rfl,g1⟩:∃ id,2≤id∧v=.own id 0 l.length l.length∧h1[id]? = some (.row 2 (l.map zaj)):=by
  rcases a1 with ⟨-,q⟩|⟨id,q1,q2,q3⟩
  ·have:=congrArg List.length q
   simp at this
   rw [this] at hpos
   simp at hpos
  ·exact ⟨id,q1,by simpa using q2,q3⟩
 have kw:=zyB ok rc.b rc.v8.1 1 h1 b1
 have key:∃ h2,zpt (evw C y0) za5 [zaq c,dsV l] []=some (.ret (.tup [.own id 0 l.length l.length,iv 0]),h2)∧h2[id]? = some (.row 2 ((zai c l).map zaj)):=by
  cases hw:wiped c.vars (lists l) with
  | true=>
   rw [hw] at kw
   obtain ⟨h2,e2,m2⟩:=lnone ok rc.nd rc.b rc.v8.1 id h1 g1
   refine ⟨h2,?_,?_⟩
   ·rcases hk2 with q|q
    ·have n1:(c.kind != 1)=false:=by rw [q];rfl
     have q1:(c.kind==1)=true:=by rw [q];rfl
     simp [zaa,za5,zbu,n1,q1,kr,km,e1,b0,b1,kw] at e2 ⊢
     simp [e2]
    ·have n1:(c.kind != 1)=true:=by rw [q];rfl
     have q1:(c.kind==1)=false:=by rw [q];rfl
     have n3:(c.kind != 3)=false:=by rw [q];rfl
     simp [zaa,za5,zbu,n1,q1,n3,kr,km,e1,b0,b1,kw] at e2 ⊢
     simp [e2]
   ·rw [←zn3 (P:=fun _ _=>false) ok (fun v hv=>(rc.b v hv).1) fun i hi hv x hx=>(zBW hk2 hw hv).symm]
    exact m2.at_
  | false=>
   rw [hw] at kw
   rcases hk2 with q|q
   ·have hs:zwT c c.vars l:=⟨(rc.s q).1,rc.b,ok,zn1 hw,hks,rc.v8.1⟩
    obtain ⟨h2,e2,m2⟩:=sum hs rc.nd (rc.s q).2 id l h1 rfl g1
    refine ⟨h2,?_,?_⟩
    ·have n1:(c.kind != 1)=false:=by rw [q];rfl
     have q1:(c.kind==1)=true:=by rw [q];rfl
     simp [zaa,za5,zbu,n1,q1,kr,km,e1,b0,b1,kw] at e2 ⊢
     simp [e2]
    ·rw [←zn3 (P:=zti c.coefs c.vars c.rel c.const (lists l)) ok (fun v hv=>(rc.b v hv).1) fun i hi hv x hx=>?_]
     ·exact m2.at_
     ·unfold kp
      rw [if_neg (by rw [List.contains_iff_mem.2 hv];simp),if_pos q,hw]
      rfl
   ·obtain ⟨h2,e2,m2⟩:=iff ok rc q hks hw hl.n id h1 g1
    refine ⟨h2,?_,m2.at_⟩
    have n1:(c.kind != 1)=true:=by rw [q];rfl
    have q1:(c.kind==1)=false:=by rw [q];rfl
    have n3:(c.kind != 3)=false:=by rw [q];rfl
    simp [zaa,za5,zbu,n1,q1,n3,kr,km,e1,b0,b1,kw] at e2 ⊢
    simp [e2]
 obtain ⟨h2,r2,g2⟩:=key
 refine zap (h':=h2) (v:=.tup [.own id 0 l.length l.length,iv 0]) (v':=.tup [dsV (zai c l),iv 0]) (CT zqe) rfl rfl r2 ?_ (by simp)
 have f1:=zmj g2 (n:=l.length) (by rw [zby]) 5
 have f2:frz h2 fdepth (.tup [.own id 0 l.length l.length,iv 0])=(zdP (frz h2 11) [.own id 0 l.length l.length,iv 0]).map .tup:=rfl
 rw [f2]
 simp only [zdP,f1]
 rfl
@[simp] theorem zCA {i:Nat}:(V.mp i).cells=[.mp i]:=rfl
@[simp] theorem mp_und {i:Nat}:(V.mp i).isUnd=false:=rfl
@[simp] theorem mp_tup {i:Nat}:(V.mp i).isTup=false:=rfl
@[simp] theorem zDo {i:Nat}:(V.mp i).size=1:=rfl
@[simp] theorem zBG:V.size .nmp=1:=rfl
abbrev Em:=Int×Int×Nat
def eI (e:Em):V×V×Nat:=(iv e.1,iv e.2.1,e.2.2)
abbrev mI (L:List Em):List (V×V×Nat):=L.map eI
def gM:List Em→Int→Option Int
 | [],_=>none
 | e::r,x=>if e.1=x then some e.2.1 else gM r x
def zdl (L:List Em):List Int:=L.map (·.1)
theorem zsU {x:Int}:∀ {L:List Em} {n:Nat},gM L x=none→mfind (iv x) (mI L) n=some none
 | [],n,_=>rfl
 | e::r,n,h=>by
  unfold gM at h
  by_cases c:e.1=x
  ·rw [if_pos c] at h;cases h
  ·rw [if_neg c] at h
   have h2:(x==e.1)=false:=by simp only [beq_eq_false_iff_ne];exact fun q=>c q.symm
   simp only [List.map_cons,eI,mfind,ztr,if_true,h2]
   exact zsU h
theorem zpz {x v:Int}:∀ {L:List Em} {n:Nat},gM L x=some v→∃ i b,mfind (iv x) (mI L) n=some (some (n+i,iv v))∧i<L.length∧zlJ (mI L) i=b∧∀ w:Int,(∀ y,gM (L.set i (x,w,b)) y=if y=x then some w else gM L y)∧zdl (L.set i (x,w,b))=zdl L
 | [],n,h=>by simp [gM] at h
 | e::r,n,h=>by
  unfold gM at h
  by_cases c:e.1=x
  ·rw [if_pos c] at h
   have hv:e.2.1=v:=by simpa using h
   have h2:(x==e.1)=true:=by simp [c]
   refine ⟨0,zlJ (mI (e::r)) 0,by simp only [List.map_cons,eI,mfind,ztr,if_true,h2,hv,Nat.add_zero],by simp,rfl,fun w=>⟨fun y=>?_,?_⟩⟩
   ·rw [List.set_cons_zero]
    by_cases d:y=x
    ·simp [gM,d]
    ·have d2:¬x=y:=fun q=>d q.symm
     have d3:¬e.1=y:=by rw [c];exact d2
     simp [gM,d,d2,d3]
   ·simp [zdl,c]
  ·rw [if_neg c] at h
   have h2:(x==e.1)=false:=by simp only [beq_eq_false_iff_ne];exact fun q=>c q.symm
   obtain ⟨i,b,k1,k2,k3,k4⟩:=zpz (n:=n+1) h
   refine ⟨i+1,b,?_,by simp;omega,?_,fun w=>⟨fun y=>?_,?_⟩⟩
   ·simp only [List.map_cons,eI,mfind,ztr,if_true,h2]
    rw [k1,show n+1+i=n+(i+1) by omega]
   ·rw [←k3]
    simp [zlJ]
   ·simp only [List.set_cons_succ,gM,(k4 w).1]
    by_cases d:y=x
    ·simp [d,c]
    ·simp [d]
   ·simp only [List.set_cons_succ]
    have:=(k4 w).2
    unfold zdl at this ⊢
    rw [List.map_cons,List.map_cons,this]
theorem zCZ {x w:Int} {b:Nat}:∀ {L:List Em},gM L x=none→∀ y,gM (L++[(x,w,b)]) y=if y=x then some w else gM L y
 | [],_,y=>by
  by_cases d:y=x
  ·simp [gM,d]
  ·have d2:¬x=y:=fun q=>d q.symm
   simp [gM,d,d2]
 | e::r,h,y=>by
  unfold gM at h
  by_cases c:e.1=x
  ·rw [if_pos c] at h;cases h
  ·rw [if_neg c] at h
   simp only [List.cons_append,gM,zCZ h]
   by_cases d:y=x
   ·simp [d,c]
   ·simp [d]
theorem zAo:∀ {L:List Em} {x:Int},gM L x=none↔x∉zdl L
 | [],x=>by simp [gM,zdl]
 | e::r,x=>by
  have ih:=zAo (L:=r) (x:=x)
  have e1:zdl (e::r)=e.1::zdl r:=rfl
  rw [e1,List.mem_cons]
  unfold gM
  by_cases c:e.1=x
  ·rw [if_pos c];simp [c]
  ·rw [if_neg c,ih]
   constructor
   ·intro h;simp only [not_or];exact ⟨fun q=>c q.symm,h⟩
   ·intro h;simp only [not_or] at h;exact h.2
theorem zyP {nid id c:Nat} {h:List Ob} {L:List Em} {x:Int} (e:h[id]? = some (.map (mI L) c)):opJ nid h (.lku (some .i64) (iv 0) false) [.mp id,iv x]=some (iv ((gM L x).getD 0),none):=by
 cases hg:gM L x with
 | none=>
  have f:=zsU (n:=0) hg
  simp [opJ,zgc,e,ziO,f,lkr]
 | some v=>
  obtain ⟨i,b,f,-⟩:=zpz (n:=0) hg
  simp [opJ,zgc,e,ziO,f,lkr]
theorem zyY {nid id c:Nat} {h:List Ob} {L:List Em} {x w:Int} (e:h[id]? = some (.map (mI L) c)):∃ L' c',opJ nid h (.mpu (some .i64)) [.mp id,iv x,iv w]=some (.und,some (id,.map (mI L') c'))∧(∀ y,gM L' y=if y=x then some w else gM L y)∧zdl L'=(if x∈zdl L then zdl L else zdl L++[x]):=by
 cases hg:gM L x with
 | none=>
  have f:=zsU (n:=0) hg
  refine ⟨L++[(x,w,c)],c+1,?_,zCZ hg,?_⟩
  ·simp [opJ,zgc,e,ziO,f,V.isUnd,V.isTup,eI]
  ·rw [if_neg (zAo.1 hg)]
   simp [zdl]
 | some v=>
  obtain ⟨i,b,f,hi,hb,k⟩:=zpz (n:=0) hg
  refine ⟨L.set i (x,w,b),c,?_,(k w).1,?_⟩
  ·rw [Nat.zero_add] at f
   have hb2:zlJ (mI L) i=b:=hb
   simp [opJ,zgc,e,ziO,f,V.isUnd,V.isTup,eI,hb2]
  ·rw [(k w).2,if_pos]
   rcases Classical.em (x∈zdl L) with q|q
   ·exact q
   ·rw [←zAo,hg] at q;cases q
theorem zyC (d:Dm) (hm:zcX d=true) (p:Int→Bool) (f:Nat) (cap:List V) (I:Nat→List Ob→Prop) (N:Nat) (hlenI:∀ i g,I i g→g.length=N) (hf:∀ (i:Nat) (x:Int),(zag d)[i]? = some x→∀ g,I i g→∃ g',I (i+1) g'∧∀ t,acw C f (iv x::cap) (g++t)=some (.ret (.bool (p x)),g'++t)):∀ (n i:Nat) (h:List Ob),i+n=(zag d).length→I i h →
  ∃ h',I (zag d).length h'∧evw C y0 zgJ [(1,.fn (.func f) [] cap),(2,.ptr N 0 0 1),(4,.ptr (N+1) 0 0 1),(8,zab (zag d)),(9,iv (zag d).length),(10,iv i)] (h++[.row 2 [zaj (zau (qk p (zag d) i) d)],.row 2 [.agg [.nsl 1,.int .u64 0]]]) =
   some (.ext 0,[(1,.fn (.func f) [] cap),(2,.ptr N 0 0 1),(4,.ptr (N+1) 0 0 1),(8,zab (zag d)),(9,iv (zag d).length),(10,iv (zag d).length),(11,.bool false)],h'++[.row 2 [zaj (zau (qk p (zag d) (zag d).length) d)],.row 2 [.agg [.nsl 1,.int .u64 0]]]):=by
 intro n
 induction n with
 | zero=>
  intro i h hin hI
  have:i=(zag d).length:=by omega
  subst this
  rw [zms]
  refine ⟨h,hI,?_⟩
  simp [zdn]
 | succ n ih=>
  intro i h hin hI
  have hlt:i<(zag d).length:=by omega
  obtain ⟨x,hx⟩:∃ x,x=(zag d)[i]:=⟨_,rfl⟩
  obtain ⟨h2,hI2,kf⟩:=hf i x (by rw [List.getElem?_eq_getElem hlt,hx]) h hI
  have hN:=hlenI i h hI
  have hN2:=hlenI _ h2 hI2
  obtain ⟨h',hI',ih⟩:=ih (i+1) h2 (by omega) hI2
  refine ⟨h',hI',?_⟩
  have hi4:(i:Int)<(zag d).length:=by omega
  have hlen:=zbz d
  have hwr:=zac hlt (by omega)
  obtain ⟨L,hL⟩:∃ L,L=zag d:=⟨_,rfl⟩
  have hq:∀ y,(L.take (i+1)).contains y=((L.take i).contains y||y==x):=fun y=>by
   rw [hL,List.take_succ_eq_append_getElem hlt,←hx,Bool.eq_iff_iff]
   simp [List.contains_iff_mem]
  have hx1:L[i]? = some x:=by simp [hL,hlt,hx]
  have hx2:∀ h:i<L.length,L[i]'h=x:=fun _=>by subst hL;exact hx.symm
  rw [←hL] at hlt hi4 ih ⊢
  simp only [Int.natCast_add,Int.cast_ofNat_Int] at ih
  rw [←ih,zms]
  subst hN
  have e3:∀ t,(h2++t)[h.length]? = t[0]?:=fun t=>by rw [List.getElem?_append_right (by omega)];simp [hN2]
  have w3:∀ o t,(h2++t).set h.length o=h2++t.set 0 o:=fun o t=>by rw [←hN2,List.set_append_right _ _ (by omega)];simp
  by_cases c:p x=true
  ·rw [c] at kf
   have e:zau (qk p L (i+1)) d=zau (qk p L i) d:=zaD fun y _=>by
    unfold qk
    rw [hq]
    by_cases hy:y=x
    ·rw [hy,c];rfl
    ·have:(y==x)=false:=by simpa using hy
     rw [this,Bool.or_false]
   rw [e]
   simp [zdn,hlt,hx1,hx2,hi4,hwr,kf]
  ·have c':p x=false:=by simpa using c
   rw [c'] at kf
   have e:zau (qk p L (i+1)) d=zau (fun y=>y != x) (zau (qk p L i) d):=by
    rw [zny hm]
    refine zaD fun y _=>?_
    unfold qk
    rw [hq]
    by_cases hy:y=x
    ·rw [hy,c'];simp
    ·have h1:(y==x)=false:=by simpa using hy
     have h2:(y != x)=true:=by simpa [bne_iff_ne] using hy
     rw [h1,h2,Bool.or_false,Bool.and_true]
   obtain ⟨D,hD⟩:∃ D,D=zau (qk p L i) d:=⟨_,rfl⟩
   have hDm:zcX D=true:=by rw [hD];exact (zhg hm).2.1
   have kl:=fun h=>zqf D x (zaB hDm).1 (zaB hDm).2 h
   rw [e,←hD]
   obtain ⟨E,hE⟩:∃ E,E=zau (fun y=>y != x) D:=⟨_,rfl⟩
   rw [←hE] at kl ⊢
   have hlt3:h.length<(h2++[Ob.row 2 [zaj D],Ob.row 2 [.agg [.nsl 1,.int .u64 0]]]).length:=by simp;omega
   simp [zdn,hlt,hx1,hx2,hi4,hwr,kf,kl,e3,zfi hlt3,w3]
theorem ekept (d:Dm) (hm:zcX d=true) (p:Int→Bool) (f:Nat) (cap:List V) (I:Nat→List Ob→Prop) (h:List Ob) (hlenI:∀ i g,I i g→g.length=h.length) (hf:∀ (i:Nat) (x:Int),(zag d)[i]? = some x→∀ g,I i g→∃ g',I (i+1) g'∧∀ t,acw C f (iv x::cap) (g++t)=some (.ret (.bool (p x)),g'++t)) (hI:I 0 h) :
  ∃ h',I (zag d).length h'∧acw C zeW [zaj d,.fn (.func f) [] cap] h=some (.ret (zaj (zau p d)),h'++[.row 2 [zaj (zau p d)],.row 2 [zaj (zau p d)]]):=by
 obtain ⟨h',hI',e⟩:=zyC d hm p f cap I h.length hlenI hf (zag d).length 0 h (by omega) hI
 have e0:zau (qk p (zag d) 0) d=d:=ziD hm fun x _=>by simp [qk]
 have e1:zau (qk p (zag d) (zag d).length) d=zau p d:=zaD fun x hx=>by
  unfold qk
  rw [List.take_length,List.contains_iff_mem.2 hx]
  simp
 rw [e0,e1] at e
 refine ⟨h',hI',?_⟩
 have kl:=fun h=>zhf d (zaB hm).1 (zaB hm).2 h
 simp only [Int.cast_ofNat_Int] at e
 obtain ⟨D,hD⟩:∃ D,D=zau p d:=⟨_,rfl⟩
 rw [←hD] at e ⊢
 have hN:=hlenI _ h' hI'
 have e3:∀ t,(h'++t)[h.length]? = t[0]?:=fun t=>by rw [List.getElem?_append_right (by omega)];simp [hN]
 have e4:∀ t,(h'++t)[h.length+1]? = t[1]?:=fun t=>by rw [List.getElem?_append_right (by omega)];simp [hN]
 have w4:∀ o t,(h'++t).set (h.length+1) o=h'++t.set 1 o:=fun o t=>by rw [←hN,List.set_append_right _ _ (by omega)];simp
 have hlt4:∀ a b,h.length+1<(h'++[(a:Ob),b]).length:=fun a b=>by simp;omega
 rw [zbd (CT ztq) rfl]
 simp [zaa,zlf,zoy,kl,e,e3,e4,zfi (hlt4 _ _),w4]
end Go.RR.FX
