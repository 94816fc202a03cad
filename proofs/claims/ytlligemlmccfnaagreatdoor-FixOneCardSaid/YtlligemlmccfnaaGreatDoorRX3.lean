/- Domains: which may be, by definition. -/
import Derived.Test.YtlligemlmccfnaaGreatDoorRX1
import Derived.Test.YtlligemlmccfnaaGreatDoorRX2
import Derived.KernelRfl
import Derived.Test.YtlligemlmccfnaaGreatDoorR5
set_option linter.unusedSimpArgs false
set_option linter.unusedVariables false
set_option maxHeartbeats 16000000
set_option maxRecDepth 100000
namespace Go.RR.M
open Go Go.RR
theorem zvD (d:Dm) (hl:d.vals.length≤64):∀ (k i:Nat) (p:Option Int),i+k=d.vals.length→(∀ (h:0<i) (h':i-1<d.vals.length),p=some d.vals[i-1])→(i=0→p=none) →
  ∃ fr',evw C y0 zle [(1,.ptr 0 0 0 1),(3,iv i)] [.row 2 [zaj d]]=some (if rising p (d.vals.drop i)=true then (.ext 0,(1,.ptr 0 0 0 1)::fr',[.row 2 [zaj d]]) else (.ret,[(2,.bool false)],[.row 2 [zaj d]]))
 | 0,i,p,e,hp,h0=>by
  obtain rfl:i=d.vals.length:=by omega
  rw [zpG,List.drop_length]
  refine ⟨[(3,iv d.vals.length),(14,.bool false)],?_⟩
  simp [zcp,rising]
 | k+1,i,p,e,hp,h0=>by
  have hlt:i<d.vals.length:=by omega
  have h2:(i:Int)<d.vals.length:=by omega
  have h3:d.vals[i]? = some d.vals[i]:=by simp [hlt]
  have hw:=zac (i:=i) (n:=d.vals.length) hlt (by omega)
  obtain ⟨fr',ih⟩:=zvD d hl k (i+1) (some d.vals[i]) (by omega) (fun _ _=>rfl) (by omega)
  simp only [Int.natCast_add,Int.cast_ofNat_Int] at ih
  rw [zpG,List.drop_eq_getElem_cons hlt]
  simp only [rising]
  by_cases c1:d.vals[i] < -1048576
  ·have c1':¬(-1048576≤d.vals[i]):=by omega
   exact ⟨[],by simp [zcp,h2,h3,c1,c1']⟩
  have c1':-1048576≤d.vals[i]:=by omega
  by_cases c2:1048576<d.vals[i]
  ·have c2':¬(d.vals[i]≤1048576):=by omega
   exact ⟨[],by simp [zcp,h2,h3,c1,c1',c2,c2']⟩
  have c2':d.vals[i]≤1048576:=by omega
  by_cases c4:0<i
  ·have hlt':i-1<d.vals.length:=by omega
   have hp1:=hp c4 hlt'
   subst hp1
   have w2:IntKind.i64.wrap ((i:Int)-1)=((i-1:Nat):Int):=by rw [wrap64 (by omega) (by omega)];omega
   have h5:d.vals[i-1]? = some d.vals[i-1]:=by simp [hlt']
   by_cases c5:d.vals[i]≤d.vals[i-1]
   ·have c5':¬(d.vals[i-1]<d.vals[i]):=by omega
    exact ⟨[],by simp [zcp,h2,h3,c1,c1',c2,c2',c4,w2,h5,c5,c5']⟩
   ·have c5':d.vals[i-1]<d.vals[i]:=by omega
    refine ⟨fr',?_⟩
    simp only [c1',c2',c5',decide_true,Bool.true_and,←ih]
    simp [zcp,h2,h3,c1,c2,c4,w2,h5,c5,hw]
  ·have hi0:i=0:=by omega
   have hp0:=h0 hi0
   subst hp0
   refine ⟨fr',?_⟩
   simp only [c1',c2',decide_true,Bool.true_and,←ih]
   simp [zcp,h2,h3,c1,c2,c4,hw]
theorem zvO (d:Dm) (hl:d.vals.length≤64):∀ (k i:Nat),i+k=d.vals.length →
  evw C y0 zk9 [(1,.ptr 0 0 0 1),(4,uv (2 ^ i % 18446744073709551616)),(5,iv i)] [.row 2 [zaj d]]=some (.ext 2,[(1,.ptr 0 0 0 1),(4,uv (2 ^ d.vals.length % 18446744073709551616)),(5,iv d.vals.length),(53,.bool false)],[.row 2 [zaj d]])
 | 0,i,e=>by
  obtain rfl:i=d.vals.length:=by omega
  rw [zp9]
  simp [ziw]
 | k+1,i,e=>by
  have hlt:i<d.vals.length:=by omega
  have h2:(i:Int)<d.vals.length:=by omega
  have hw:=zac (i:=i) (n:=d.vals.length) hlt (by omega)
  have ih:=zvO d hl k (i+1) (by omega)
  have hp:2 ^ i≤2 ^ 63:=Nat.pow_le_pow_right (by omega) (by omega)
  have hm:2 ^ i % 18446744073709551616=2 ^ i:=Nat.mod_eq_of_lt (by omega)
  have h9:2 ^ (i+1) % 18446744073709551616=(2*2 ^ i) % 18446744073709551616:=by rw [Nat.pow_succ,Nat.mul_comm]
  rw [h9] at ih
  rw [hm]
  obtain ⟨P,hP⟩:∃ P,P=2 ^ i:=⟨_,rfl⟩
  rw [←hP] at ih hp ⊢
  have hw2:IntKind.u64.wrap (2*(P:Int))=((2*P % 18446744073709551616:Nat):Int):=by
   unfold IntKind.wrap
   simp [IntKind.bits,IntKind.signed]
  obtain ⟨M,hM⟩:∃ M,M=2*P % 18446744073709551616:=⟨_,rfl⟩
  rw [←hM] at ih hw2
  simp only [Int.natCast_add,Int.cast_ofNat_Int] at ih
  rw [zp9,←ih]
  simp [ziw,h2,hw,hw2]
theorem zpM (d:Dm) (hd:d.live<18446744073709551616) (hn:d.vals.length≤1000000) (h:List Ob):acw C zfo [zaj d] h=some (.ret (.bool (zcX d)),h):=by
 refine zar (v:=.bool (zcX d)) (CT zxd) rfl rfl (fun _=>rfl) (by simp) ?_
 by_cases c1:(64:Int)<d.vals.length
 ·have e:zcX d=false:=by unfold zcX;simp;omega
  rw [e]
  simp [zaa,zgN,zi1,c1]
 have hl:d.vals.length≤64:=by omega
 obtain ⟨fr',lp⟩:=zvD d hl d.vals.length 0 none (by omega) (by omega) (fun _=>rfl)
 simp only [List.drop_zero,Int.cast_ofNat_Int] at lp
 have lt:=zvO d hl d.vals.length 0 (by omega)
 simp only [Nat.pow_zero] at lt
 cases cr:rising none d.vals with
 | false=>
  have e:zcX d=false:=by unfold zcX;rw [cr,Bool.and_false]
  rw [cr] at lp
  rw [e]
  simp at lp
  simp [zaa,zgN,zi1,c1,lp]
 | true=>
  rw [cr] at lp
  simp at lp
  by_cases c3:d.vals.length=64
  ·have e:zcX d=true:=zBt.2 ⟨hl,by rw [c3];omega,cr⟩
   rw [e]
   have c3':(d.vals.length:Int)=64:=by omega
   obtain ⟨T,hT⟩:∃ T,T=2 ^ d.vals.length % 18446744073709551616:=⟨_,rfl⟩
   rw [←hT] at lt
   simp only [Nat.reduceMod,uv,Int.cast_ofNat_Int] at lt
   simp [zaa,zgN,zi1,c1,lp,lt,c3',ieq]
  ·have hp:2 ^ d.vals.length≤2 ^ 63:=Nat.pow_le_pow_right (by omega) (by omega)
   rw [Nat.mod_eq_of_lt (show 2 ^ d.vals.length<18446744073709551616 by omega)] at lt
   have c3':¬(d.vals.length:Int)=64:=by omega
   obtain ⟨P,hP⟩:∃ P,P=2 ^ d.vals.length:=⟨_,rfl⟩
   rw [←hP] at lt
   have e:zcX d=decide ((d.live:Int)<P):=by
    unfold zcX
    rw [cr,Bool.and_true,←hP]
    rw [show decide (d.vals.length≤64)=true by simp [hl],Bool.true_and]
    simp
   rw [e]
   simp only [Nat.reduceMod,uv,Int.cast_ofNat_Int] at lt
   simp [zaa,zgN,zi1,c1,lp,lt,c3',ieq]
end Go.RR.M
namespace Go.RR
theorem tmod2 (n:Nat):(n:Int).tmod 2=((n % 2:Nat):Int):=by
 simp [Int.tmod]
end Go.RR
namespace Go.RR.M
open Go Go.RR
theorem zqG (d:Dm) (hn:d.vals.length≤64):∀ (m i left:Nat) (acc:List Int),i+m=d.vals.length→acc.length≤i→left<18446744073709551616→∃ L',
  evw C y0 zjY [(1,.ptr 0 0 0 1),(3,.own 1 0 acc.length acc.length),(4,uv left),(5,iv i)] [.row 2 [zaj d],.row 1 (acc.map (V.int .i64))] =
   some (.ext 0,[(1,.ptr 0 0 0 1),(3,.own 1 0 (acc++zdH (d.vals.drop i) left).length (acc++zdH (d.vals.drop i) left).length),(4,uv L'),(5,iv d.vals.length),(17,.bool false)],[.row 2 [zaj d],.row 1 ((acc++zdH (d.vals.drop i) left).map (V.int .i64))])
 | 0,i,left,acc,e,ha,hl=>by
  obtain rfl:i=d.vals.length:=by omega
  rw [List.drop_length,zk8]
  refine ⟨left,?_⟩
  simp [zeX,zdH]
 | m+1,i,left,acc,e,ha,hl=>by
  have hlt:i<d.vals.length:=by omega
  have h2:(i:Int)<d.vals.length:=by omega
  have h3:d.vals[i]? = some d.vals[i]:=by simp [hlt]
  have hw:=zac (i:=i) (n:=d.vals.length) hlt (by omega)
  have ht:=tmod2 left
  have hq:IntKind.u64.wrap ((left:Int) / 2)=((left / 2:Nat):Int):=by rw [zlr (by omega) (by omega)];omega
  rw [List.drop_eq_getElem_cons hlt,zdH]
  obtain ⟨q,hqe⟩:∃ q,q=left / 2:=⟨_,rfl⟩
  rw [←hqe] at hq ⊢
  by_cases c:left % 2=1
  ·rw [if_pos c]
   rw [c] at ht
   obtain ⟨L',ih⟩:=zqG d hn m (i+1) q (acc++[d.vals[i]]) (by omega) (by simp;omega) (by omega)
   have k4:zii (.int .i64 0) [iv d.vals[i]]=some (.sl 1 [iv d.vals[i]]):=rfl
   have k5:∀ nid,zit nid [.row 2 [zaj d],.row 1 (acc.map (V.int .i64))] 1 8 (.own 1 0 acc.length acc.length) (.sl 1 [iv d.vals[i]])=some (.own 1 0 (acc.length+1) (acc.length+1),some (1,.row 1 (acc.map (V.int .i64)++[iv d.vals[i]]))):=fun nid=>zbj rfl (by simp) rfl (by simp) (by simp) (by omega) (by omega)
   refine ⟨L',?_⟩
   rw [List.append_cons]
   simp only [Int.natCast_add,Int.cast_ofNat_Int] at ih ht
   rw [zk8,←ih]
   simp [zeX,h2,h3,ht,hq,k4,k5,hw,ieq]
  ·rw [if_neg c]
   rw [show left % 2=0 by omega] at ht
   obtain ⟨L',ih⟩:=zqG d hn m (i+1) q acc (by omega) (by omega) (by omega)
   refine ⟨L',?_⟩
   simp only [Int.natCast_add,Int.cast_ofNat_Int] at ih ht
   rw [zk8,←ih]
   simp [zeX,h2,h3,ht,hq,hw,ieq]
theorem zzc (d:Dm) (hd:d.live<18446744073709551616) (hn:d.vals.length≤1000000) (h:List Ob):acw C zkS [zaj d] h=some (.ret (zab (zag d)),h):=by
 have k1:=zpM d hd hn
 unfold zag
 cases hm:zcX d with
 | false=>
  rw [hm] at k1
  rw [if_neg (by simp)]
  refine zap (a2:=[zaj d]) (h':=[.row 2 [zaj d],.row 1 []]) (v:=.own 1 0 0 0) (CT zrm) rfl rfl ?_ rfl (by simp)
  simp [zaa,zkn,zmP,k1]
 | true=>
  obtain ⟨h1,h2,-⟩:=zBt.1 hm
  rw [hm] at k1
  rw [if_pos rfl]
  obtain ⟨L',lp⟩:=zqG d h1 d.vals.length 0 d.live [] (by omega) (by simp) hd
  rw [List.drop_zero,List.nil_append] at lp
  obtain ⟨R,hR⟩:∃ R,R=zdH d.vals d.live:=⟨_,rfl⟩
  rw [←hR] at lp ⊢
  simp only [List.length_nil,List.map_nil,Int.cast_ofNat_Int] at lp
  refine zap (a2:=[zaj d]) (h':=[.row 2 [zaj d],.row 1 (R.map (V.int .i64))]) (v:=.own 1 0 R.length R.length) (CT zrm) rfl rfl ?_ (zkA rfl rfl 10) (by simp)
  simp [zaa,zkn,zmP,k1,lp]
theorem zqA (l:List Int) (v:Int) (hn:l.length≤1000000):∀ (m i:Nat) (acc:List Int),i+m=l.length→acc.length≤i →
  evw C y0 zjm [(0,zab l),(1,iv v),(5,.own 0 0 acc.length acc.length),(6,iv i)] [.row 1 (acc.map (V.int .i64))] =
   some (.ext 0,[(0,zab l),(1,iv v),(5,.own 0 0 (acc++(l.drop i).filter (fun x=>x != v)).length (acc++(l.drop i).filter (fun x=>x != v)).length),(6,iv l.length),(11,.bool false)],[.row 1 ((acc++(l.drop i).filter (fun x=>x != v)).map (V.int .i64))])
 | 0,i,acc,e,ha=>by
  obtain rfl:i=l.length:=by omega
  rw [List.drop_length,zlu]
  simp [ze0]
 | m+1,i,acc,e,ha=>by
  have hlt:i<l.length:=by omega
  have h2:(i:Int)<l.length:=by omega
  have h3:l[i]? = some l[i]:=by simp [hlt]
  have hw:=zac (i:=i) (n:=l.length) hlt (by omega)
  rw [List.drop_eq_getElem_cons hlt,List.filter_cons]
  by_cases c:l[i]=v
  ·have ih:=zqA l v hn m (i+1) acc (by omega) (by omega)
   rw [if_neg (by simp [c])]
   obtain ⟨R,hR⟩:∃ R,R=acc++(l.drop (i+1)).filter (fun x=>x != v):=⟨_,rfl⟩
   rw [←hR] at ih ⊢
   simp only [Int.natCast_add,Int.cast_ofNat_Int] at ih
   rw [zlu,←ih]
   simp [ze0,h2,h3,c,hw,ine]
  ·have ih:=zqA l v hn m (i+1) (acc++[l[i]]) (by omega) (by simp;omega)
   have k4:zii (.int .i64 0) [iv l[i]]=some (.sl 1 [iv l[i]]):=rfl
   have k5:∀ nid,zit nid [.row 1 (acc.map (V.int .i64))] 1 8 (.own 0 0 acc.length acc.length) (.sl 1 [iv l[i]])=some (.own 0 0 (acc.length+1) (acc.length+1),some (0,.row 1 (acc.map (V.int .i64)++[iv l[i]]))):=fun nid=>zbj rfl (by simp) rfl (by simp) (by simp) (by omega) (by omega)
   rw [if_pos (by simp [c]),List.append_cons]
   obtain ⟨R,hR⟩:∃ R,R=acc++[l[i]]++(l.drop (i+1)).filter (fun x=>x != v):=⟨_,rfl⟩
   rw [←hR] at ih ⊢
   simp only [Int.natCast_add,Int.cast_ofNat_Int] at ih
   rw [zlu,←ih]
   simp [ze0,h2,h3,c,k4,k5,hw,ine]
theorem zyQ (l:List Int) (v:Int) (hn:l.length≤1000000) (h:List Ob):acw C zkz [zab l,iv v] h=some (.ret (zab (l.filter fun x=>x != v)),h):=by
 have lp:=zqA l v hn l.length 0 [] (by omega) (by simp)
 rw [List.drop_zero,List.nil_append] at lp
 obtain ⟨R,hR⟩:∃ R,R=l.filter (fun x=>x != v):=⟨_,rfl⟩
 rw [←hR] at lp ⊢
 simp only [List.length_nil,List.map_nil,Int.cast_ofNat_Int] at lp
 refine zap (a2:=[zab l,iv v]) (h':=[.row 1 (R.map (V.int .i64))]) (v:=.own 0 0 R.length R.length) (CT zvU) rfl rfl ?_ (zkA rfl rfl 10) (by simp)
 simp [zaa,znM,zra,lp]
end Go.RR.M
namespace Go.RR.FX
open Go Go.RR Go.RR.M
end Go.RR.FX
namespace Go.RR.M
open Go Go.RR
abbrev gR (d:Dm) (L:List Bool):List Ob:=[.row 2 [zaj d],.row 2 [zD],.row 64 [.agg (L.map V.bool)]]
theorem zrM (d:Dm) (l:List Int) (hn:l.length≤1000000) (i left n:Nat) (hi:i<d.vals.length) (pre:List Bool) (hp:pre.length=i) (hn64:pre.length+1+n=64):∀ (m k:Nat) (c:Bool),k+m=l.length →
  evw C y0 zjJ [(1,zab l),(2,.ptr 0 0 0 1),(4,.ptr 1 0 0 1),(5,.ptr 2 0 0 1),(6,uv left),(7,iv i),(8,iv k)] (gR d (pre++c::List.replicate n false)) =
   some (.ext 2,[(1,zab l),(2,.ptr 0 0 0 1),(4,.ptr 1 0 0 1),(5,.ptr 2 0 0 1),(6,uv left),(7,iv i),(8,iv l.length),(26,.bool false)],gR d (pre++(c||(left % 2==1&&(l.drop k).any (fun x=>x==d.vals[i])))::List.replicate n false))
 | 0,k,c,e=>by
  obtain rfl:k=l.length:=by omega
  rw [List.drop_length,zg6]
  simp [zds]
 | m+1,k,c,e=>by
  have hlt:k<l.length:=by omega
  have h2:(k:Int)<l.length:=by omega
  have h3:l[k]? = some l[k]:=by simp [hlt]
  have h4:d.vals[i]? = some d.vals[i]:=by simp [hi]
  have hw:=zac (i:=k) (n:=l.length) hlt (by omega)
  have ht:=tmod2 left
  have hi64:(i:Int)<64:=by omega
  rw [List.drop_eq_getElem_cons hlt,List.any_cons]
  by_cases c1:l[k]=d.vals[i]
  ·by_cases c2:left % 2=1
   ·rw [c2] at ht
    have ih:=zrM d l hn i left n hi pre hp hn64 m (k+1) true (by omega)
    have e1:(c||(left % 2==1&&(l[k]==d.vals[i]||(l.drop (k+1)).any (fun x=>x==d.vals[i]))))=(true||(left % 2==1&&(l.drop (k+1)).any (fun x=>x==d.vals[i]))):=by simp [c1,c2]
    rw [e1]
    have hst:=st_bit (h:=gR d (pre++c::List.replicate n false)) (id:=2) (m:=i) (b:=true) (L':=pre++true::List.replicate n false) rfl (by simp;omega) (by rw [←hp,zEd])
    obtain ⟨P,hP⟩:∃ P,P=pre++c::List.replicate n false:=⟨_,rfl⟩
    obtain ⟨Q,hQ⟩:∃ Q,Q=pre++true::List.replicate n false:=⟨_,rfl⟩
    obtain ⟨R,hR⟩:∃ R,R=pre++(true||(left % 2==1&&(l.drop (k+1)).any (fun x=>x==d.vals[i])))::List.replicate n false:=⟨_,rfl⟩
    rw [←hP,←hQ] at hst
    rw [←hQ,←hR] at ih
    rw [←hP,←hR]
    simp only [Int.natCast_add,Int.cast_ofNat_Int] at ih ht
    rw [zg6,←ih]
    simp [zds,h2,h3,h4,c1,ht,hw,hi64,hst,ieq]
   ·rw [show left % 2=0 by omega] at ht
    have ih:=zrM d l hn i left n hi pre hp hn64 m (k+1) c (by omega)
    have c2':(left % 2==1)=false:=by simp;omega
    simp only [c2',Bool.false_and,Bool.or_false] at ih ⊢
    obtain ⟨P,hP⟩:∃ P,P=pre++c::List.replicate n false:=⟨_,rfl⟩
    rw [←hP] at ih ⊢
    simp only [Int.natCast_add,Int.cast_ofNat_Int] at ih ht
    rw [zg6,←ih]
    simp [zds,h2,h3,h4,c1,ht,hw,ieq]
  ·have ih:=zrM d l hn i left n hi pre hp hn64 m (k+1) c (by omega)
   have e1:(l[k]==d.vals[i]||(l.drop (k+1)).any (fun x=>x==d.vals[i]))=(l.drop (k+1)).any (fun x=>x==d.vals[i]):=by simp [c1]
   rw [e1]
   obtain ⟨P,hP⟩:∃ P,P=pre++c::List.replicate n false:=⟨_,rfl⟩
   obtain ⟨R,hR⟩:∃ R,R=pre++(c||(left % 2==1&&(l.drop (k+1)).any (fun x=>x==d.vals[i])))::List.replicate n false:=⟨_,rfl⟩
   rw [←hP,←hR] at ih
   rw [←hP,←hR]
   simp only [Int.natCast_add,Int.cast_ofNat_Int] at ih
   rw [zg6,←ih]
   simp [zds,h2,h3,h4,c1,hw,ieq]
theorem zvk (d:Dm) (l:List Int) (hn:l.length≤1000000) (h64:d.vals.length≤64):∀ (m i left:Nat) (pre:List Bool),i+m=d.vals.length→pre.length=i→left<18446744073709551616→∃ L',
  evw C y0 zjW [(1,zab l),(2,.ptr 0 0 0 1),(4,.ptr 1 0 0 1),(5,.ptr 2 0 0 1),(6,uv left),(7,iv i)] (gR d (pre++List.replicate (64-i) false)) =
   some (.ext 0,[(1,zab l),(2,.ptr 0 0 0 1),(4,.ptr 1 0 0 1),(5,.ptr 2 0 0 1),(6,uv L'),(7,iv d.vals.length),(20,.bool false)],gR d (pre++zbT (fun v=>l.any (fun x=>x==v)) (d.vals.drop i) left++List.replicate (64-d.vals.length) false))
 | 0,i,left,pre,e,hp,hl=>by
  obtain rfl:i=d.vals.length:=by omega
  rw [List.drop_length,zoF]
  refine ⟨left,?_⟩
  simp [zg7,zbT]
 | m+1,i,left,pre,e,hp,hl=>by
  have hlt:i<d.vals.length:=by omega
  have h2:(i:Int)<d.vals.length:=by omega
  have hw:=zac (i:=i) (n:=d.vals.length) hlt (by omega)
  have hq:IntKind.u64.wrap ((left:Int) / 2)=((left / 2:Nat):Int):=by rw [zlr (by omega) (by omega)];omega
  have lp:=zrM d l hn i left (64-(i+1)) hlt pre hp (by omega) l.length 0 false (by omega)
  rw [List.drop_zero,Bool.false_or] at lp
  obtain ⟨L',ih⟩:=zvk d l hn h64 m (i+1) (left / 2) (pre++[left % 2==1&&l.any (fun x=>x==d.vals[i])]) (by omega) (by simp [hp]) (by omega)
  refine ⟨L',?_⟩
  rw [List.drop_eq_getElem_cons hlt,zbT]
  have e1:pre++List.replicate (64-i) false=pre++false::List.replicate (64-(i+1)) false:=by rw [show 64-i=(64-(i+1))+1 by omega,List.replicate_succ]
  rw [e1]
  obtain ⟨b,hb⟩:∃ b,b=(left % 2==1&&l.any (fun x=>x==d.vals[i])):=⟨_,rfl⟩
  rw [←hb] at lp ih ⊢
  have e2:pre++b::zbT (fun v=>l.any (fun x=>x==v)) (d.vals.drop (i+1)) (left / 2)++List.replicate (64-d.vals.length) false=pre++[b]++zbT (fun v=>l.any (fun x=>x==v)) (d.vals.drop (i+1)) (left / 2)++List.replicate (64-d.vals.length) false:=by simp
  rw [e2]
  obtain ⟨q,hqe⟩:∃ q,q=left / 2:=⟨_,rfl⟩
  rw [←hqe] at hq ih ⊢
  obtain ⟨P,hP⟩:∃ P,P=pre++false::List.replicate (64-(i+1)) false:=⟨_,rfl⟩
  obtain ⟨R,hR⟩:∃ R,R=pre++[b]++zbT (fun v=>l.any (fun x=>x==v)) (d.vals.drop (i+1)) q++List.replicate (64-d.vals.length) false:=⟨_,rfl⟩
  have e3:pre++[b]++List.replicate (64-(i+1)) false=pre++b::List.replicate (64-(i+1)) false:=by simp
  rw [e3] at ih
  obtain ⟨Q,hQ⟩:∃ Q,Q=pre++b::List.replicate (64-(i+1)) false:=⟨_,rfl⟩
  rw [←hP,←hQ] at lp
  rw [←hQ,←hR] at ih
  rw [←hP,←hR]
  simp only [Int.natCast_add,Int.cast_ofNat_Int] at ih lp
  rw [zoF,←ih]
  simp [zg7,h2,lp,hq,hw]
theorem zyR (d:Dm) (l:List Int) (hd:d.live<18446744073709551616) (hn:d.vals.length≤1000000) (hl:l.length≤1000000) (h:List Ob):acw C zky [zaj d,zab l] h=some (.ret (zaj (zau (fun v=>l.any (fun x=>x==v)) d)),h):=by
 have k1:=zpM d hd hn
 unfold zau
 cases hm:zcX d with
 | false=>
  rw [hm] at k1
  rw [if_neg (by simp)]
  refine zap (a2:=[zaj d,zab l]) (h':=[.row 2 [zaj d],.row 2 [zD]]) (v:=zD) (CT zq1) rfl rfl ?_ rfl (by simp)
  simp [zaa,zkk,zm4,k1]
 | true=>
  obtain ⟨h1,h2,-⟩:=zBt.1 hm
  rw [hm] at k1
  rw [if_pos rfl]
  obtain ⟨L',lp⟩:=zvk d l hl h1 d.vals.length 0 d.live [] (by omega) rfl hd
  rw [List.drop_zero,List.nil_append,List.nil_append] at lp
  have ks:=zAJ (zbT (fun v=>l.any (fun x=>x==v)) d.vals d.live++List.replicate (64-d.vals.length) false) (by rw [List.length_append,ztl,List.length_replicate];omega)
  rw [zvn] at ks
  have hRl:(zbT (fun v=>l.any (fun x=>x==v)) d.vals d.live++List.replicate (64-d.vals.length) false).length=64:=by rw [List.length_append,ztl,List.length_replicate];omega
  obtain ⟨R,hR⟩:∃ R,R=zbT (fun v=>l.any (fun x=>x==v)) d.vals d.live++List.replicate (64-d.vals.length) false:=⟨_,rfl⟩
  obtain ⟨B,hB⟩:∃ B,B=zcY (fun v=>l.any (fun x=>x==v)) d.vals d.live:=⟨_,rfl⟩
  rw [←hR] at lp ks hRl
  rw [←hB] at ks ⊢
  have ht:(R.map V.bool).take 64=R.map V.bool:=List.take_of_length_le (by simp;omega)
  simp [gR,List.replicate_succ] at lp
  have hdR:dataL (R.map V.bool)=true:=zrW fun x hx=>by obtain ⟨b,-,rfl⟩:=List.mem_map.1 hx;rfl
  obtain ⟨W,kA,kW⟩:∃ W,(∀ nid,zit nid [.row 2 [zaj d],.row 2 [zD],.row 64 [.agg (R.map V.bool)],.row 1 []] 1 8 (.own 3 0 0 0) (zab d.vals)=some (.own 3 0 d.vals.length d.vals.length,W))∧wr [.row 2 [zaj d],.row 2 [zD],.row 64 [.agg (R.map V.bool)],.row 1 []] W=[.row 2 [zaj d],.row 2 [zD],.row 64 [.agg (R.map V.bool)],.row 1 (d.vals.map (V.int .i64))]:=by
   by_cases e:d.vals=[]
   ·refine ⟨none,fun nid=>?_,by rw [e];rfl⟩
    rw [e]
    rfl
   ·refine ⟨some (3,.row 1 (d.vals.map (V.int .i64))),fun nid=>?_,rfl⟩
    have:=zbj (nid:=nid) (h:=[.row 2 [zaj d],.row 2 [zD],.row 64 [.agg (R.map V.bool)],.row 1 []]) (id:=3) (z:=1) (b:=8) (n:=0) (m:=d.vals.length) (xs:=[]) (y:=zab d.vals) (ys:=d.vals.map (V.int .i64)) rfl rfl rfl (by simpa using e) (by simp) (by omega) (by omega)
    simpa using this
  refine zap (a2:=[zaj d,zab l]) (h':=[.row 2 [zaj d],.row 2 [.agg [.own 3 0 d.vals.length d.vals.length,uv B]],.row 64 [.agg (R.map V.bool)],.row 1 (d.vals.map (V.int .i64))]) (v:=.agg [.own 3 0 d.vals.length d.vals.length,uv B]) (CT zq1) rfl rfl ?_ ?_ (by simp)
  ·simp [zaa,zkk,zm4,k1,lp,ks,ht,hRl,kA,kW,hdR]
  ·show (zdP (RR.frz _ 11) [.own 3 0 d.vals.length d.vals.length,uv B]).map V.agg=_
   simp only [zdP,zkA (h:=[.row 2 [zaj d],.row 2 [.agg [.own 3 0 d.vals.length d.vals.length,uv B]],.row 64 [.agg (R.map V.bool)],.row 1 (d.vals.map (V.int .i64))]) (id:=3) (l:=d.vals) rfl rfl 9,show ∀ (g:List Ob) (n:Nat),RR.frz g 11 (uv n)=some (uv n) from fun _ _=>rfl,Option.map_some]
theorem zAh {C:Cx} {b:IR} {α:Type} [DecidableEq α] (l m:List α) (hlm:l.length=m.length) (fr:Nat→Fr) (hp:List Ob→Prop) (e:Rs→List Ob→Rs) (fe:Fr) (rs:Fr)
  (he:∀ h,hp h→evw C y0 b (fr l.length) h=some (.ext 0,fe,h))
  (h1:∀ i (hi:i<l.length) (hi':i<m.length) h,hp h→∃ h',hp h'∧evw C y0 b (fr i) h=some (if l[i]=m[i] then (.nrm,fr (i+1),h') else (.ret,rs,h'))) :
  ∀ (d i:Nat) (h:List Ob),i+d=l.length→hp h→∃ h',hp h'∧evw C y0 (.loop b) (fr i) h=some (if l.drop i=m.drop i then (.ext 0,fe,h') else (.ret,rs,h')):=by
 intro d
 induction d with
 | zero=>
  intro i h hi hh
  have:i=l.length:=by omega
  subst this
  refine ⟨h,hh,?_⟩
  rw [zal,he h hh,List.drop_length,List.drop_eq_nil_of_le (by omega:m.length≤l.length)]
  rfl
 | succ d ih=>
  intro i h hi hh
  have hlt:i<l.length:=by omega
  have hlt':i<m.length:=by omega
  obtain ⟨h2,g2,e2⟩:=h1 i hlt hlt' h hh
  rw [zal,e2,List.drop_eq_getElem_cons hlt,List.drop_eq_getElem_cons hlt']
  by_cases c:l[i]=m[i]
  ·obtain ⟨h3,g3,e3⟩:=ih (i+1) h2 (by omega) g2
   refine ⟨h3,g3,?_⟩
   simp only [c,if_true,zBa,e3,List.cons.injEq,true_and]
  ·refine ⟨h2,g2,?_⟩
   simp only [c,if_false,zEu,List.cons.injEq,false_and]
theorem zzg (l m:List Int) (hl:l.length≤4611686018427387904) (h:List Ob):acw C zkO [zab l,zab m] h=some (.ret (.bool (decide (l=m))),h):=by
 refine zap (h':=[]) (v:=.bool (decide (l=m))) (CT zv6) rfl rfl ?_ rfl (by simp)
 by_cases hlm:l.length=m.length
 ·obtain ⟨h',hh,hloop⟩:=zAh (C:=C) (b:=zdE) l m hlm (fun i=>[(0,zab l),(1,zab m),(5,iv i)]) (fun h=>h=[]) (fun r _=>r) [(0,zab l),(1,zab m),(5,iv l.length),(14,.bool false)] [(4,.bool false)] (by
   rintro h rfl
   simp [zdE]) (by
   rintro i hi hi' h rfl
   have hw:=zac hi (by omega)
   refine ⟨[],rfl,?_⟩
   by_cases e:l[i]=m[i]
   ·simp [zdE,hi,hi',e,ine,hw]
   ·simp [zdE,hi,hi',e,ine]) l.length 0 [] (by omega) rfl
  subst hh
  simp only [List.drop_zero,Int.cast_ofNat_Int] at hloop
  have hloop:evw C y0 zjL _ _=_:=hloop
  by_cases hb:l=m
  ·simp only [hb,if_true] at hloop
   simp [zaa,zhF,zke,hb,hloop]
  ·simp only [hb,if_false] at hloop
   simp [zaa,zhF,zke,hb,hloop,hlm]
 ·have h2:¬((l.length:Int)=m.length):=by omega
  have h4:¬(l=m):=fun e=>hlm (by rw [e])
  simp [zaa,zhF,zke,h2,h4,ine]
theorem zzh (d o:Dm) (hn:d.vals.length≤1000000) (h:List Ob):acw C zkw [zaj d,zaj o] h=some (.ret (.bool (decide (d=o))),h):=by
 have k:=zzg d.vals o.vals (by omega)
 refine zar (v:=.bool (decide (d=o))) (CT zv2) rfl rfl (fun _=>rfl) (by simp) ?_
 obtain ⟨a,b⟩:=d
 obtain ⟨a',b'⟩:=o
 simp only [Dm.mk.injEq] at k ⊢
 by_cases c:b=b'
 ·subst c
  by_cases c2:a=a'
  ·subst c2
   simp at k
   simp [zaa,zhO,zkr,k,ieq]
  ·simp [c2] at k
   simp [zaa,zhO,zkr,k,c2,ieq]
 ·have c':¬(b:Int)=b':=by omega
  simp [zaa,zhO,zkr,c,c',ieq]
end Go.RR.M
namespace Go.RR.FX
open Go Go.RR Go.RR.M
theorem zw6 (d:Dm) (hd:d.live<18446744073709551616∧d.vals.length≤1000000) (h:List Ob):acw C zfZ [zaj d] h=some (.ret (.bool (decide (zfV d=0))),h):=by
 have ks:=fun h=>zrH d hd.1 hd.2 h
 refine zar (v:=.bool _) (CT zuU) rfl rfl (fun _=>rfl) (by simp) ⟨[.row 2 [zaj d]],?_⟩
 have e:((zfV d:Int)==0)=decide (zfV d=0):=by
  rw [Bool.eq_iff_iff,beq_iff_eq,decide_eq_true_eq];omega
 simp [zaa,zmh,zp7,ks,e]
def zxZ (l:Ds):Bool:=l.any fun d=>decide (zfV d=0)
theorem zwg (l:Ds) (hl:zmK l) (h:List Ob):acw C ziY [dsV l] h=some (.ret (.bool (zxZ l)),h):=by
 have km:=fun h=>zd9 (fun d=>decide (zfV d=0)) zfZ l (fun d hd h=>zw6 d (hl.d d hd) h) hl.n h
 refine zar (v:=.bool _) (CT zw1) rfl rfl (fun _=>rfl) (by simp) ⟨[],?_⟩
 unfold zxZ
 simp [zaa,zo9,zrX,km]
def ziB (a b:Int):Con:=⟨1,[a,b],[1,-1],2,0,[]⟩
theorem zDk (a b:Int) (h:List Ob):acw C zgw [iv a,iv b] h=some (.ret (zaq (ziB a b)),h):=by
 refine zap (h':=[.row 6 [.agg [iv 1,.own 1 0 2 2,.own 2 0 2 2,iv 2,iv 0,.nsl 1]],.row 1 [iv a,iv b],.row 1 [iv 1,iv (-1)]]) (v:=.agg [iv 1,.own 1 0 2 2,.own 2 0 2 2,iv 2,iv 0,.nsl 1]) (v':=zaq (ziB a b)) (CT zss) rfl rfl ?_ rfl (by simp)
 simp [zaa,zjE,zm1]
def dA:Dm:=⟨[1,2,3],7⟩
def cs1:List Con:=[ziB 0 1,ziB 1 2]
def ds1:Ds:=[dA,dA,dA]
def as1:Ds:=[⟨[1,2,3],1⟩,⟨[1,2,3],2⟩,⟨[1,2,3],4⟩]
def cs2:List Con:=[ziB 0 1,ziB 1 0]
def ds2:Ds:=[dA,dA]
def as2:Ds:=[⟨[1,2,3],0⟩,⟨[1,2,3],0⟩]
theorem zvZ {a b:Int}:c150 (ziB a b):=⟨by simp [ziB],by simp [ziB],by simp [ziB]⟩
theorem ds_A:∀ {n:Nat},n≤1000→zmK (List.replicate n dA):=fun hn=>⟨by simpa using hn,fun d hd=>by
 rw [(List.mem_replicate.1 hd).2]
 exact ⟨by decide,by decide⟩⟩
theorem r1:zbH cs1 ds1=true:=by kernel_rfl
theorem r2:zbH cs2 ds2=true:=by kernel_rfl
theorem s1:zai (ziB 0 1) (zai (ziB 1 2) (zai (ziB 0 1) ds1))=as1:=by kernel_rfl
theorem f1:fixed cs1 as1:=by
 intro c hc
 simp only [cs1,List.mem_cons,List.not_mem_nil,or_false] at hc
 rcases hc with rfl|rfl<;>kernel_rfl
theorem f2:fixed cs2 as2:=by
 intro c hc
 simp only [cs2,List.mem_cons,List.not_mem_nil,or_false] at hc
 rcases hc with rfl|rfl<;>kernel_rfl
theorem s2:zai (ziB 1 0) (zai (ziB 0 1) (zai (ziB 1 0) (zai (ziB 0 1) ds2)))=as2:=by kernel_rfl
theorem zEB {cs:List Con} {l:Ds} (h:zbH cs l=true):okL l∧RCs cs l.length∧l.length≤16:=by
 unfold zbH at h
 simp only [Bool.and_eq_true,decide_eq_true_eq] at h
 obtain ⟨⟨h16,hRB⟩,hma⟩:=h
 exact ⟨zgu hma,fun c hc=>RC.of (List.all_eq_true.1 hRB c hc),h16⟩
theorem two1 {a:Ds} (h:zq5 cs1 ds1 2 a) (hf:fixed cs1 a):False:=by
 cases h with
 | step h2 hc2=>
  cases h2 with
  | step h1 hc1=>
   cases h1
   have m0:ziB 0 1∈cs1:=by simp [cs1]
   have m1:ziB 1 2∈cs1:=by simp [cs1]
   have g0:=hf _ m0
   have g1:=hf _ m1
   simp only [cs1,List.mem_cons,List.not_mem_nil,or_false] at hc1 hc2
   rcases hc1 with rfl|rfl<;>rcases hc2 with rfl|rfl
   ·exact absurd g1 (of_decide_eq_false (by kernel_rfl))
   ·exact absurd g0 (of_decide_eq_false (by kernel_rfl))
   ·exact absurd g1 (of_decide_eq_false (by kernel_rfl))
   ·exact absurd g0 (of_decide_eq_false (by kernel_rfl))
theorem awake (h:List Ob):acw C ziv [] h=some (.ret (.bool true),h):=by
 have kl:=fun a b h=>zDk a b h
 have hD1:zmK ds1:=ds_A (n:=3) (by omega)
 have hD2:zmK ds2:=ds_A (n:=2) (by omega)
 obtain ⟨a,n,e,ra,kr⟩:=zuJ cs1 (by decide) (fun c hc=>by
  simp only [cs1,List.mem_cons,List.not_mem_nil,or_false] at hc
  rcases hc with rfl|rfl<;>exact zvZ) ds1 hD1
 unfold zEo at ra
 rw [r1,if_pos rfl] at ra
 obtain ⟨rfl,st,fx,m,rfl,hm1,hm2,sn⟩:=ra
 obtain ⟨ok1,rc1,-⟩:=zEB r1
 obtain rfl:a=as1:=Steps.one ok1 rc1 st fx (by
  rw [←s1]
  exact .step (.step (.step .refl (by simp [cs1])) (by simp [cs1])) (by simp [cs1])) f1
 have hm:2<m:=by
  rcases Nat.lt_or_ge 2 m with k|k
  ·exact k
  ·have:m=2:=by have:2≤m:=hm1;omega
   subst this
   exact (two1 sn fx).elim
 obtain ⟨b,f,rb,ko⟩:=zwl cs2 (by decide) (fun c hc=>by
  simp only [cs2,List.mem_cons,List.not_mem_nil,or_false] at hc
  rcases hc with rfl|rfl<;>exact zvZ) ds2 hD2 [1,-1] (by decide)
 unfold OrdA at rb
 rw [r2,if_pos rfl] at rb
 obtain ⟨rfl,st2,fx2⟩:=rb
 obtain ⟨ok2,rc2,-⟩:=zEB r2
 obtain rfl:b=as2:=Steps.one ok2 rc2 st2 fx2 (by
  rw [←s2]
  exact .step (.step (.step (.step .refl (by simp [cs2])) (by simp [cs2])) (by simp [cs2])) (by simp [cs2])) f2
 have hDa:zmK as1:=zo3 (Steps.le ok1 st).okl (by decide)
 have hDb:zmK as2:=zo3 (Steps.le ok2 st2).okl (by decide)
 have w1:=fun h=>zwg as1 hDa h
 have w2:=fun h=>zwg as2 hDb h
 rw [show zxZ as1=false by kernel_rfl] at w1
 rw [show zxZ as2=true by kernel_rfl] at w2
 have kz:∀ h,acw C zem [.agg [iv 0,.nsl 1,.nsl 1,iv 0,iv 0,.nsl 1],.nsl 2] h=some (.ret (.tup [dsV [],iv 1]),h):=fun h=>
  zgG (a2:=[zts,dsV []]) (CT zqx) rfl rfl rfl (zrP ⟨0,[],[],0,0,[]⟩ ⟨by simp,by simp,by simp⟩ [] ⟨by simp,fun d hd=>by simp at hd⟩ []) rfl
 obtain ⟨z,nz,ez,rz,kzr⟩:=zuJ [⟨0,[],[],0,0,[]⟩] (by decide) (fun c hc=>by
  simp only [List.mem_cons,List.not_mem_nil,or_false] at hc
  subst hc
  exact ⟨by simp,by simp,by simp⟩) [] ⟨by simp,fun d hd=>by simp at hd⟩
 unfold zEo at rz
 rw [if_neg (by decide)] at rz
 obtain ⟨rfl,rfl,rfl⟩:=rz
 have kzr:∀ h,acw C zeD [.sl 6 [.agg [iv 0,.sl 1 [],.sl 1 [],iv 0,iv 0,.sl 1 []]],.nsl 2] h=some (.ret (.tup [dsV [],iv 0,iv 1]),h):=fun h=>
  zgG (a2:=[.sl 6 [zts],dsV []]) (CT ztj) rfl rfl rfl (kzr []) rfl
 have hm':(2:Int)<m:=by omega
 refine zar (v:=.bool true) (CT zu3) rfl rfl (fun _=>rfl) (by simp) ⟨[.row 2 [zaj dA]],?_⟩
 have b1:zii (.int .i64 0) [iv 1,iv 2,iv 3]=some (zab [1,2,3]):=rfl
 have b2:zii (.int .i64 0) [iv 1,iv (-1)]=some (zab [1,-1]):=rfl
 have b3:zii (.agg [iv 0,.nsl 1,.nsl 1,iv 0,iv 0,.nsl 1]) [zaq (ziB 0 1),zaq (ziB 1 2)]=some (zaW cs1):=rfl
 have b4:zii (.agg [iv 0,.nsl 1,.nsl 1,iv 0,iv 0,.nsl 1]) [zaq (ziB 0 1),zaq (ziB 1 0)]=some (zaW cs2):=rfl
 have b5:zii (.agg [.nsl 1,.int .u64 0]) [zaj dA,zaj dA,zaj dA]=some (dsV ds1):=rfl
 have b6:zii (.agg [.nsl 1,.int .u64 0]) [zaj dA,zaj dA]=some (dsV ds2):=rfl
 have b7:zii (.agg [iv 0,.nsl 1,.nsl 1,iv 0,iv 0,.nsl 1]) [.agg [iv 0,.nsl 1,.nsl 1,iv 0,iv 0,.nsl 1]]=some (.sl 6 [zts]):=rfl
 simp [cs1,ds1,as1,cs2,ds2,as2,ziB,dA,zts,zaq,zaj,zaW,dsV,zab] at kr ko w1 w2 kz kzr kl b1 b2 b3 b4 b5 b6 b7
 simp [zaa,zmm,zpI,kl,kr,ko,w1,w2,kz,kzr,hm',b1,b2,b3,b4,b5,b6,b7,dA]
abbrev zCL:Sh:=.st (.cons zt6 (.cons (.int .u64) .nil))
theorem zDA {vs:List V} (h:Has zCL vs):∃ s:Dm,zCL.mk vs=zaj s∧s.live<18446744073709551616:=by
 unfold zCL at h
 rw [Has] at h
 simp only [HasF] at h
 obtain ⟨a1,b1,rfl,h1,a2,b2,rfl,h2,rfl⟩:=h
 obtain ⟨l1,rfl,-⟩:=zpJ h1
 obtain ⟨n2,rfl,h3,h4⟩:=zEK h2
 obtain ⟨m,rfl⟩:=Int.eq_ofNat_of_zero_le h3
 exact ⟨⟨l1,m⟩,rfl,by simp only;omega⟩
theorem zz1 {α:Type} {enc:α→V} {p:α→Prop}:∀ {xs:List V},(∀ x∈xs,∃ a,x=enc a∧p a)→∃ l:List α,xs=l.map enc∧∀ a∈l,p a
 | [],_=>⟨[],rfl,fun a ha=>by simp at ha⟩
 | x::r,h=>by
  obtain ⟨a,ha,pa⟩:=h x (by simp)
  obtain ⟨l,hl,pl⟩:=zz1 (xs:=r) fun y hy=>h y (by simp [hy])
  exact ⟨a::l,by rw [ha,hl];rfl,fun b hb=>by
   rcases List.mem_cons.1 hb with rfl|hb
   ·exact pa
   ·exact pl b hb⟩
theorem zCr {vs:List V} (h:Has (.sl zCL) vs):∃ l:Ds,vs=[dsV l]∧l.length≤maxLen∧∀ d∈l,d.live<18446744073709551616:=by
 simp only [Has] at h
 obtain ⟨xs,rfl,hl,hx⟩:=h
 obtain ⟨l,rfl,hp⟩:=zz1 (enc:=zaj) (p:=fun d=>d.live<18446744073709551616) (xs:=xs) fun x hx'=>by
  obtain ⟨cs,rfl,hc⟩:=hx x hx'
  exact zDA hc
 exact ⟨l,rfl,by simpa using hl,hp⟩
theorem max_ok:maxLen≤9223372036854775807:=by decide
theorem zwm {a b:Ds} (hl:a.length=b.length) (ha:zmK a) (h:List Ob):∀ (n i:Nat),i+n=a.length →
  ∃ fr',evw C y0 zj1 [(0,dsV a),(1,dsV b),(5,iv i)] h=some (if a.drop i=b.drop i then (.ext 0,fr',h) else (.ret,[(4,.bool false)],h)):=by
 intro n
 induction n with
 | zero=>
  intro i hin
  have:i=a.length:=by omega
  subst this
  have e0:a.drop a.length=b.drop a.length:=by rw [List.drop_length,hl,List.drop_length]
  refine ⟨[(0,dsV a),(1,dsV b),(5,iv a.length),(14,.bool false)],?_⟩
  rw [if_pos e0,zk4]
  simp [ze3]
 | succ n ih=>
  intro i hin
  have hlt:i<a.length:=by omega
  have hlb:i<b.length:=by omega
  have hn:=ha.n
  obtain ⟨x,hx⟩:∃ d,d=a[i]:=⟨_,rfl⟩
  obtain ⟨y,hy⟩:∃ d,d=b[i]:=⟨_,rfl⟩
  have ha1:a[i]? = some x:=by simp [hlt,hx]
  have ha2:∀ h:i<a.length,a[i]'h=x:=fun _=>hx.symm
  have hb1:b[i]? = some y:=by simp [hlb,hy]
  have hb2:∀ h:i<b.length,b[i]'h=y:=fun _=>hy.symm
  have hi4:(i:Int)<a.length:=by omega
  have hi5:(i:Int)<b.length:=by omega
  have hwr:=zac hlt (by omega)
  have ks:=fun h=>zzh x y (ha.d x (by rw [hx];exact List.getElem_mem hlt)).2 h
  obtain ⟨fr',ih⟩:=ih (i+1) (by omega)
  simp only [Int.natCast_add,Int.cast_ofNat_Int] at ih
  rw [List.drop_eq_getElem_cons hlt,List.drop_eq_getElem_cons hlb,←hx,←hy]
  by_cases c:x=y
  ·subst c
   rw [decide_eq_true rfl] at ks
   refine ⟨fr',?_⟩
   simp only [List.cons.injEq,true_and]
   rw [←ih,zk4]
   simp [ze3,hlt,hlb,ha1,ha2,hb1,hb2,hi4,hi5,hwr,ks]
  ·rw [decide_eq_false c] at ks
   refine ⟨[],?_⟩
   rw [if_neg (fun e=>c (List.cons.inj e).1),zk4]
   simp [ze3,hlt,hlb,ha1,ha2,hb1,hb2,hi4,hi5,hwr,ks]
theorem zoe (a b:Ds) (ha:zmK a) (h:List Ob):acw C zed [dsV a,dsV b] h=some (.ret (.bool (decide (a=b))),h):=by
 refine zar (v:=.bool _) (CT zwd) rfl rfl (fun _=>rfl) (by simp) ⟨[],?_⟩
 by_cases c:a.length=b.length
 ·obtain ⟨fr',e⟩:=zwm c ha [] a.length 0 (by omega)
  simp only [Int.cast_ofNat_Int,List.drop_zero] at e
  have c2:((a.length:Int) != b.length)=false:=by rw [c];simp
  by_cases d:a=b
  ·rw [if_pos d] at e
   rw [decide_eq_true d]
   simp [zaa,zhK,zks,c2,e]
  ·rw [if_neg d] at e
   rw [decide_eq_false d]
   simp [zaa,zhK,zks,c2,e]
 ·have d:¬a=b:=fun e=>c (by rw [e])
  have c2:((a.length:Int) != b.length)=true:=by rw [bne_iff_ne];omega
  rw [decide_eq_false d]
  simp [zaa,zhK,zks,c2]
theorem zB1 {l:Ds} (hn:l.length≤1000):∀ (n i:Nat) (js:List Ob),i+n=l.length →
  ∃ js',evw C y0 zlo [(3,.own 0 0 i i),(7,dsV l),(8,iv l.length),(9,iv i)] (.row 2 ((l.take i).map zaj)::js) =
   some (.ext 0,[(3,.own 0 0 l.length l.length),(7,dsV l),(8,iv l.length),(9,iv l.length),(10,.bool false)],.row 2 (l.map zaj)::js'):=by
 intro n
 induction n with
 | zero=>
  intro i js hin
  have:i=l.length:=by omega
  subst this
  rw [List.take_length,zpB]
  refine ⟨js,?_⟩
  simp [ziN]
 | succ n ih=>
  intro i js hin
  have hlt:i<l.length:=by omega
  obtain ⟨d,hd⟩:∃ d,d=l[i]:=⟨_,rfl⟩
  have hd1:l[i]? = some d:=by simp [hlt,hd]
  have hd2:∀ h:i<l.length,l[i]'h=d:=fun _=>hd.symm
  have hi4:(i:Int)<l.length:=by omega
  have hwr:=zac hlt (by omega)
  obtain ⟨js',ih⟩:=ih (i+1) (js++[.row 2 [zaj d]]) (by omega)
  have tk:(l.take (i+1)).map zaj=(l.take i).map zaj++[zaj d]:=by rw [List.take_succ_eq_append_getElem hlt,←hd];simp
  rw [tk] at ih
  simp only [Int.natCast_add,Int.cast_ofNat_Int] at ih
  refine ⟨js',?_⟩
  have ap:∀ nid,zit nid (.row 2 ((l.take i).map zaj)::(js++[.row 2 [zaj d]])) 2 32 (.own 0 0 i i) (.sl 2 [zaj d])=some (.own 0 0 (i+1) (i+1),some (0,.row 2 ((l.take i).map zaj++[zaj d]))):=fun nid=>zbj rfl (by simp;omega) rfl (by simp) rfl (by omega) (by omega)
  have bb:zii (.agg [.nsl 1,.int .u64 0]) [zaj d]=some (.sl 2 [zaj d]):=rfl
  simp only [List.map_take] at ih ap ⊢
  rw [←ih,zpB]
  simp [ziN,hlt,hd1,hd2,hi4,hwr,ap,bb]
theorem zsZ {l:Ds} (hn:l.length≤1000) (h:List Ob):acw C zcC [dsV l] h=some (.ret (dsV l),h):=by
 obtain ⟨js',e⟩:=zB1 hn l.length 0 [] (by omega)
 simp only [Int.cast_ofNat_Int,List.take_zero,List.map_nil] at e
 have f:frz (.row 2 (l.map zaj)::js') fdepth (.own 0 0 l.length l.length)=some (dsV l):=zmj (ds:=l) rfl rfl 6
 refine zap (h':=.row 2 (l.map zaj)::js') (v:=.own 0 0 l.length l.length) (v':=dsV l) (CT zxg) rfl rfl ?_ f (by simp)
 simp [zaa,zo6,zr0,e]
theorem r17_l0 {cs:List Con} {l:Ds} (hl:zmK l) (h:List Ob):∀ (n i:Nat),i+n=l.length →
  ∃ fr',evw C y0 zh8 [(0,zaW cs),(1,dsV l),(5,iv i)] h=some (if (l.drop i).all zcX=true then (.ext 0,(0,zaW cs)::(1,dsV l)::fr',h) else (.ret,[(4,.bool false)],h)):=by
 intro n
 induction n with
 | zero=>
  intro i hin
  have:i=l.length:=by omega
  subst this
  rw [List.drop_length,zjI]
  refine ⟨[(5,iv l.length),(13,.bool false)],?_⟩
  simp [zd8]
 | succ n ih=>
  intro i hin
  have hlt:i<l.length:=by omega
  have hn:=hl.n
  obtain ⟨d,hd⟩:∃ d,d=l[i]:=⟨_,rfl⟩
  have hd1:l[i]? = some d:=by simp [hlt,hd]
  have hd2:∀ h:i<l.length,l[i]'h=d:=fun _=>hd.symm
  have hdk:=hl.d d (by rw [hd];exact List.getElem_mem hlt)
  have km:=fun h=>zpM d hdk.1 hdk.2 h
  have hi4:(i:Int)<l.length:=by omega
  have hwr:=zac hlt (by omega)
  obtain ⟨fr',ih⟩:=ih (i+1) (by omega)
  simp only [Int.natCast_add,Int.cast_ofNat_Int] at ih
  rw [List.drop_eq_getElem_cons hlt,List.all_cons,←hd]
  cases c:zcX d with
  | true=>
   rw [c] at km
   refine ⟨fr',?_⟩
   rw [Bool.true_and,←ih,zjI]
   simp [zd8,hlt,hd1,hd2,hi4,hwr,km]
  | false=>
   rw [c] at km
   refine ⟨[],?_⟩
   rw [Bool.false_and,if_neg (by simp),zjI]
   simp [zd8,hlt,hd1,hd2,hi4,hwr,km]
theorem r17_l1 {cs:List Con} (hcl:cs.length≤1000) (hcs:∀ c∈cs,c150 c) {l:Ds} (hl:zmK l) (h:List Ob):∀ (n i:Nat),i+n=cs.length →
  ∃ fr',evw C y0 zh5 [(0,zaW cs),(1,dsV l),(6,iv i)] h=some (if ((cs.drop i).all fun c=>zaC c l.length)=true then (.ext 2,fr',h) else (.ret,[(4,.bool false)],h)):=by
 intro n
 induction n with
 | zero=>
  intro i hin
  have:i=cs.length:=by omega
  subst this
  rw [List.drop_length,zjk]
  refine ⟨[(0,zaW cs),(1,dsV l),(6,iv cs.length),(25,.bool false)],?_⟩
  simp [zdS]
 | succ n ih=>
  intro i hin
  have hlt:i<cs.length:=by omega
  obtain ⟨d,hd⟩:∃ d,d=cs[i]:=⟨_,rfl⟩
  have hd1:cs[i]? = some d:=by simp [hlt,hd]
  have hd2:∀ h:i<cs.length,cs[i]'h=d:=fun _=>hd.symm
  have hdk:=hcs d (by rw [hd];exact List.getElem_mem hlt)
  have km:=fun h=>zvy d l.length (zki hdk) h
  have hi4:(i:Int)<cs.length:=by omega
  have hwr:=zac hlt (by omega)
  obtain ⟨fr',ih⟩:=ih (i+1) (by omega)
  simp only [Int.natCast_add,Int.cast_ofNat_Int] at ih
  rw [List.drop_eq_getElem_cons hlt,List.all_cons,←hd]
  cases c:zaC d l.length with
  | true=>
   rw [c] at km
   refine ⟨fr',?_⟩
   rw [Bool.true_and,←ih,zjk]
   simp [zdS,hlt,hd1,hd2,hi4,hwr,km]
  | false=>
   rw [c] at km
   refine ⟨[],?_⟩
   rw [Bool.false_and,if_neg (by simp),zjk]
   simp [zdS,hlt,hd1,hd2,hi4,hwr,km]
theorem zwZ (cs:List Con) (hcs:∀ c∈cs,c150 c) (hcl:cs.length≤1000) (l:Ds) (hl:zmK l) (h:List Ob):acw C ziT [zaW cs,dsV l] h=some (.ret (.bool (zbH cs l)),h):=by
 refine zar (v:=.bool _) (CT zus) rfl rfl (fun _=>rfl) (by simp) ⟨[],?_⟩
 unfold zbH zfR
 obtain ⟨f1,e1⟩:=r17_l0 (cs:=cs) hl [] l.length 0 (by omega)
 obtain ⟨f2,e2⟩:=r17_l1 hcl hcs hl [] cs.length 0 (by omega)
 simp only [Int.cast_ofNat_Int,List.drop_zero] at e1 e2
 by_cases c:l.length≤16
 ·have c2:¬(16:Int)<l.length:=by omega
  rw [decide_eq_true c]
  cases d:l.all zcX with
  | false=>
   rw [d,if_neg (by simp)] at e1
   simp [zaa,zel,zf3,c2,e1]
  | true=>
   rw [d,if_pos rfl] at e1
   cases f:cs.all fun c=>zaC c l.length with
   | false=>
    rw [f,if_neg (by simp)] at e2
    simp [zaa,zel,zf3,c2,e1,e2]
   | true=>
    rw [f,if_pos rfl] at e2
    simp [zaa,zel,zf3,c2,e1,e2]
 ·have c2:(16:Int)<l.length:=by omega
  rw [decide_eq_false c]
  simp [zaa,zel,zf3,c2]
abbrev lsV (L:Ls):V:=.sl 1 (L.map zab)
theorem zC4 {h:List Ob} {L:Ls} (k:Nat):zdP (frz h (k+1)) (L.map zab)=some (L.map zab):=znz fun x hx=>by
 obtain ⟨b,-,rfl⟩:=List.mem_map.1 hx
 rfl
theorem zwV {h:List Ob} {id n z:Nat} {xs ys:List V} (e:h[id]? = some (.row z xs)) (hn:n=xs.length) (k:Nat) (hx:zdP (frz h (k+1)) xs=some ys):frz h (k+2) (.own id 0 n n)=some (.sl z ys):=by
 subst hn
 simp [frz,elems,zaF,e,hx]
theorem zah {l:Ds}:(lists l).length=l.length:=by simp [lists]
theorem zvx {l:Ds} {i:Nat} (h:i<l.length):(lists l)[i]'(by simpa [lists] using h)=zag l[i]:=by simp [lists]
theorem zza {l:Ds} (hl:zmK l):∀ (n i:Nat),i+n=l.length →
  evw C y0 zie [(0,dsV l),(3,.own 0 0 i i),(4,iv i)] [.row 1 (((lists l).take i).map zab)] =
   some (.ext 0,[(0,dsV l),(3,.own 0 0 l.length l.length),(4,iv l.length),(9,.bool false)],[.row 1 ((lists l).map zab)]):=by
 intro n
 induction n with
 | zero=>
  intro i hin
  have:i=l.length:=by omega
  subst this
  rw [List.take_of_length_le (by simp [lists]),zmS]
  simp [zfT]
 | succ n ih=>
  intro i hin
  have hlt:i<l.length:=by omega
  have hn:=hl.n
  obtain ⟨d,hd⟩:∃ d,d=l[i]:=⟨_,rfl⟩
  have hd1:l[i]? = some d:=by simp [hlt,hd]
  have hd2:∀ h:i<l.length,l[i]'h=d:=fun _=>hd.symm
  have hdk:=hl.d d (by rw [hd];exact List.getElem_mem hlt)
  have kl:=fun h=>zzc d hdk.1 hdk.2 h
  have hi4:(i:Int)<l.length:=by omega
  have hwr:=zac hlt (by omega)
  have tk:((lists l).take (i+1)).map zab=((lists l).take i).map zab++[zab (zag d)]:=by
   rw [List.take_succ_eq_append_getElem (by simpa [lists] using hlt),zvx hlt,←hd];simp
  have ih:=ih (i+1) (by omega)
  rw [tk] at ih
  obtain ⟨X,hX⟩:∃ X,X=((lists l).take i).map zab:=⟨_,rfl⟩
  have hXl:i=X.length:=by rw [hX];simp [lists];omega
  rw [←hX] at ih ⊢
  simp only [Int.natCast_add,Int.cast_ofNat_Int] at ih
  have ap:∀ nid,zit nid [.row 1 X] 1 24 (.own 0 0 i i) (.sl 1 [zab (zag d)])=some (.own 0 0 (i+1) (i+1),some (0,.row 1 (X++[zab (zag d)]))):=fun nid=>zbj rfl hXl rfl (by simp) rfl (by omega) (by omega)
  have bb:zii (.nsl 1) [zab (zag d)]=some (.sl 1 [zab (zag d)]):=rfl
  rw [←ih,zmS]
  simp [zfT,hlt,hd1,hd2,hi4,hwr,kl,ap,bb]
theorem zgL (l:Ds) (hl:zmK l) (h:List Ob):acw C zcs [dsV l] h=some (.ret (lsV (lists l)),h):=by
 have e:=zza hl l.length 0 (by omega)
 simp only [Int.cast_ofNat_Int,List.take_zero,List.map_nil] at e
 have f:frz [.row 1 ((lists l).map zab)] fdepth (.own 0 0 l.length l.length)=some (lsV (lists l)):=zwV rfl (by simp [lists]) 10 (zC4 10)
 refine zap (h':=[.row 1 ((lists l).map zab)]) (v:=.own 0 0 l.length l.length) (v':=lsV (lists l)) (CT zul) rfl rfl ?_ f (by simp)
 simp [zaa,zl3,zqo,e]
def zbT (l:Ds) (L:Ls):Ds:=l.mapIdx fun i d=>zau (fun v=>(L.getD i []).any fun x=>x==v) d
theorem zvR {l:Ds} {L:Ls} {i:Nat} (h:i<l.length):(zbT l L)[i]'(by simpa [zbT] using h)=zau (fun v=>(L.getD i []).any fun x=>x==v) l[i]:=by simp [zbT]
theorem zA4 {l:Ds} (hl:zmK l) {L:Ls} (hL:L.length=l.length) (hb:∀ xs∈L,xs.length≤1000000):∀ (n i:Nat),i+n=l.length →
  evw C y0 zjT [(0,dsV l),(1,lsV L),(5,.own 0 0 i i),(6,iv i)] [.row 2 (((zbT l L).take i).map zaj)] =
   some (.ext 0,[(0,dsV l),(1,lsV L),(5,.own 0 0 l.length l.length),(6,iv l.length),(11,.bool false)],[.row 2 ((zbT l L).map zaj)]):=by
 intro n
 induction n with
 | zero=>
  intro i hin
  have:i=l.length:=by omega
  subst this
  rw [List.take_of_length_le (by simp [zbT]),zoR]
  simp [zhs]
 | succ n ih=>
  intro i hin
  have hlt:i<l.length:=by omega
  have hlL:i<L.length:=by omega
  have hn:=hl.n
  obtain ⟨d,hd⟩:∃ d,d=l[i]:=⟨_,rfl⟩
  obtain ⟨x,hx⟩:∃ x,x=L[i]:=⟨_,rfl⟩
  have hd1:l[i]? = some d:=by simp [hlt,hd]
  have hd2:∀ h:i<l.length,l[i]'h=d:=fun _=>hd.symm
  have hx1:L[i]? = some x:=by simp [hlL,hx]
  have hx2:∀ h:i<L.length,L[i]'h=x:=fun _=>hx.symm
  have hdk:=hl.d d (by rw [hd];exact List.getElem_mem hlt)
  have kl:=fun h=>zyR d x hdk.1 hdk.2 (hb x (by rw [hx];exact List.getElem_mem hlL)) h
  have hi4:(i:Int)<l.length:=by omega
  have hi5:(i:Int)<L.length:=by omega
  have hwr:=zac hlt (by omega)
  obtain ⟨D,hD⟩:∃ D,D=zau (fun v=>x.any fun y=>y==v) d:=⟨_,rfl⟩
  rw [←hD] at kl
  have tk:((zbT l L).take (i+1)).map zaj=((zbT l L).take i).map zaj++[zaj D]:=by
   rw [List.take_succ_eq_append_getElem (by simpa [zbT] using hlt),zvR hlt,←hd,List.getD,hx1,Option.getD_some,←hD];simp
  have ih:=ih (i+1) (by omega)
  rw [tk] at ih
  obtain ⟨X,hX⟩:∃ X,X=((zbT l L).take i).map zaj:=⟨_,rfl⟩
  have hXl:i=X.length:=by rw [hX];simp [zbT];omega
  rw [←hX] at ih ⊢
  simp only [Int.natCast_add,Int.cast_ofNat_Int] at ih
  have ap:∀ nid,zit nid [.row 2 X] 2 32 (.own 0 0 i i) (.sl 2 [zaj D])=some (.own 0 0 (i+1) (i+1),some (0,.row 2 (X++[zaj D]))):=fun nid=>zbj rfl hXl rfl (by simp) rfl (by omega) (by omega)
  have bb:zii (.agg [.nsl 1,.int .u64 0]) [zaj D]=some (.sl 2 [zaj D]):=rfl
  rw [←ih,zoR]
  simp [zhs,hlt,hlL,hd1,hd2,hx1,hx2,hi4,hi5,hwr,kl,ap,bb]
theorem zdv (l:Ds) (hl:zmK l) (L:Ls) (hL:L.length=l.length) (hb:∀ xs∈L,xs.length≤1000000) (h:List Ob):acw C za9 [dsV l,lsV L] h=some (.ret (dsV (zbT l L)),h):=by
 have e:=zA4 hl hL hb l.length 0 (by omega)
 simp only [Int.cast_ofNat_Int,List.take_zero,List.map_nil] at e
 have f:frz [.row 2 ((zbT l L).map zaj)] fdepth (.own 0 0 l.length l.length)=some (dsV (zbT l L)):=zmj (ds:=zbT l L) rfl (by simp [zbT]) 6
 refine zap (h':=[.row 2 ((zbT l L).map zaj)]) (v:=.own 0 0 l.length l.length) (v':=dsV (zbT l L)) (CT zwa) rfl rfl ?_ f (by simp)
 simp [zaa,znh,zre,e]
def zd6 (vs:List Int) (L:Ls):List V:=L.mapIdx fun j xs=>if (j:Int)∈vs then V.nsl 1 else zab xs
def zce (vs:List Int) (L:Ls):Ls:=L.mapIdx fun j xs=>if (j:Int)∈vs then [] else xs
theorem zAK {L:Ls}:zd6 [] L=L.map zab:=by
 refine List.ext_getElem (by simp [zd6]) fun j h1 h2=>?_
 simp [zd6]
theorem zyW {vs:List Int} {L:Ls} {i:Nat} (hi:i<vs.length) (hv:0≤vs[i]):zd6 (vs.take (i+1)) L=(zd6 (vs.take i) L).set vs[i].toNat (.nsl 1):=by
 refine List.ext_getElem (by simp [zd6]) fun j h1 h2=>?_
 rw [List.getElem_set]
 have hm:(j:Int)∈vs.take (i+1)↔(j:Int)∈vs.take i∨(j:Int)=vs[i]:=by
  rw [List.take_succ_eq_append_getElem hi,List.mem_append,List.mem_singleton]
 simp only [zd6,List.getElem_mapIdx,hm]
 by_cases c:vs[i].toNat=j
 ·have c2:(j:Int)=vs[i]:=by omega
  simp [c,c2]
 ·have c2:¬(j:Int)=vs[i]:=by omega
  simp [c,c2]
theorem zp6 {vs:List Int} {L:Ls}:(zd6 vs L).length=L.length:=by simp [zd6]
theorem zp0 {vs:List Int} {L:Ls} {h:List Ob} (k:Nat):zdP (frz h (k+1)) (zd6 vs L)=some ((zce vs L).map zab):=by
 unfold zd6 zce
 generalize hf:(fun (j:Nat) (xs:List Int)=>if (j:Int)∈vs then V.nsl 1 else zab xs)=f
 generalize hg:(fun (j:Nat) (xs:List Int)=>if (j:Int)∈vs then ([]:List Int) else xs)=g
 have key:∀ j xs,frz h (k+1) (f j xs)=some (zab (g j xs)):=fun j xs=>by
  rw [←hf,←hg]
  by_cases c:(j:Int)∈vs<;>simp only [c,if_true,if_false]<;>rfl
 clear hf hg
 have gen:∀ (L:Ls) (f:Nat→List Int→V) (g:Nat→List Int→List Int),(∀ j xs,frz h (k+1) (f j xs)=some (zab (g j xs)))→zdP (frz h (k+1)) (L.mapIdx f)=some ((L.mapIdx g).map zab):=fun L=>by
  induction L with
  | nil=>intro f g _;rfl
  | cons x r ih=>
   intro f g hk
   rw [List.mapIdx_cons,List.mapIdx_cons,List.map_cons,zdP,hk 0 x,ih (fun j=>f (j+1)) (fun j=>g (j+1)) fun j xs=>hk (j+1) xs]
 exact gen L f g key
theorem zyF {c:Con} {L:Ls} (hn:c.vars.length≤1000) (hv:∀ v∈c.vars,0≤v∧v<L.length) (h:List Ob):∀ (n i:Nat),i+n=c.vars.length →
  evw C y0 ziX [(2,.ptr h.length 0 0 1),(5,.own (h.length+1) 0 L.length L.length),(6,iv i)] (h++[.row 6 [zaq c],.row 1 (zd6 (c.vars.take i) L)]) =
   some (.ext 0,[(2,.ptr h.length 0 0 1),(5,.own (h.length+1) 0 L.length L.length),(6,iv c.vars.length),(14,.bool false)],h++[.row 6 [zaq c],.row 1 (zd6 c.vars L)]):=by
 intro n
 induction n with
 | zero=>
  intro i hin
  have:i=c.vars.length:=by omega
  subst this
  rw [List.take_length,zoz]
  simp [zhn]
 | succ n ih=>
  intro i hin
  have hlt:i<c.vars.length:=by omega
  obtain ⟨v,hvv⟩:∃ v,v=c.vars[i]:=⟨_,rfl⟩
  have hv1:c.vars[i]? = some v:=by simp [hlt,hvv]
  have hv2:∀ h:i<c.vars.length,c.vars[i]'h=v:=fun _=>hvv.symm
  have hvb:=hv v (by rw [hvv];exact List.getElem_mem hlt)
  have hi4:(i:Int)<c.vars.length:=by omega
  have hwr:=zac hlt (by omega)
  have ih:=ih (i+1) (by omega)
  rw [zyW hlt (by rw [←hvv];exact hvb.1),←hvv] at ih
  obtain ⟨X,hX⟩:∃ X,X=zd6 (c.vars.take i) L:=⟨_,rfl⟩
  have hXl:X.length=L.length:=by rw [hX];exact zp6
  rw [←hX] at ih ⊢
  simp only [Int.natCast_add,Int.cast_ofNat_Int] at ih
  have hvn:v.toNat<X.length:=by omega
  obtain ⟨y,hy⟩:∃ y,X[v.toNat]? = some y:=⟨_,List.getElem?_eq_getElem hvn⟩
  have hov:over y 0 [.nsl 1]=some (.nsl 1):=by
   obtain ⟨h1,h2⟩:=List.getElem?_eq_some_iff.1 hy
   rw [←h2]
   have:∀ j (hj:j<X.length),over X[j] 0 [V.nsl 1]=some (.nsl 1):=fun j hj=>by
    subst hX
    simp only [zd6,List.getElem_mapIdx]
    split<;>rfl
   exact this _ h1
  have hov2:∀ h:v.toNat<X.length,over (X[v.toNat]'h) 0 [.nsl 1]=some (.nsl 1):=fun h=>by
   rw [(List.getElem?_eq_some_iff.1 hy).2];exact hov
  have hv0:=hvb.1
  have hv3:=hvb.2
  have hvL:v.toNat<L.length:=by omega
  rw [←ih,zoz]
  simp [zhn,hlt,hv1,hv2,hi4,hwr,hv0,hv3,hov2,hXl,hvn,hvL]
theorem ziV {c:Con} {L:Ls} (hn:c.vars.length≤1000) (hLn:L.length≤1000) (hv:∀ v∈c.vars,0≤v∧v<L.length) (h:List Ob) :
  acw C zc4 [zaq c,lsV L] h=some (.ret (.own (h.length+1) 0 L.length L.length),h++[.row 6 [zaq c],.row 1 (zd6 c.vars L)]):=by
 have e:=zyF hn hv h c.vars.length 0 (by omega)
 rw [List.take_zero,zAK] at e
 simp only [Int.cast_ofNat_Int] at e
 rw [zbd (CT zvl) rfl]
 cases L with
 | nil=>
  have ap:∀ nid R,zit nid (h++[R,.row 1 []]) 1 24 (.own (h.length+1) 0 0 0) (lsV [])=some (.own (h.length+1) 0 0 0,none):=fun nid R=>by
   simp [zit,op1,src,elems,zaF]
  simp at e
  simp [zaa,zkg,znC,ap,e]
 | cons x r=>
  have ap:∀ nid R,zit nid (h++[R,.row 1 []]) 1 24 (.own (h.length+1) 0 0 0) (lsV (x::r))=some (.own (h.length+1) 0 (r.length+1) (r.length+1),some (h.length+1,.row 1 (zab x::r.map zab))):=fun nid R=>by
   have:=zbj (nid:=nid) (id:=h.length+1) (z:=1) (b:=24) (n:=0) (m:=r.length+1) (h:=h++[R,.row 1 []]) (xs:=[]) (y:=lsV (x::r)) (ys:=zab x::r.map zab) (by simp) rfl rfl (by simp) (by simp) (by simp at hLn;omega) (by simp at hLn;omega)
   simpa using this
  simp at e
  simp [zaa,zkg,znC,ap,e]
theorem zAV {c:Con} {l:Ds} {ks:List Int} (hk:ks.length≤1000):∀ (n i:Nat) (b:Bool),i+n=ks.length →
  evw C y0 zh0 [(1,dsV l),(2,zab ks),(3,.ptr 0 0 0 1),(7,.bool b),(8,iv i)] [.row 6 [zaq c]] =
   some (.ext 0,[(1,dsV l),(2,zab ks),(3,.ptr 0 0 0 1),(7,.bool (b||(ks.drop i).any fun k=>k==c.kind)),(8,iv ks.length),(13,.bool false)],[.row 6 [zaq c]]):=by
 intro n
 induction n with
 | zero=>
  intro i b hin
  have:i=ks.length:=by omega
  subst this
  rw [List.drop_length,zm5]
  simp [zfO]
 | succ n ih=>
  intro i b hin
  have hlt:i<ks.length:=by omega
  obtain ⟨k,hkk⟩:∃ d,d=ks[i]:=⟨_,rfl⟩
  have hd1:ks[i]? = some k:=by simp [hlt,hkk]
  have hd2:∀ h:i<ks.length,ks[i]'h=k:=fun _=>hkk.symm
  have hi4:(i:Int)<ks.length:=by omega
  have hwr:=zac hlt (by omega)
  have ih:=ih (i+1) (b||k==c.kind) (by omega)
  simp only [Int.natCast_add,Int.cast_ofNat_Int] at ih
  rw [List.drop_eq_getElem_cons hlt,List.any_cons,←hkk,←Bool.or_assoc,←ih,zm5]
  cases b<;>simp [zfO,hlt,hd1,hd2,hi4,hwr]
theorem zAv {c:Con} {l:Ds} (hl:zmK l):∀ (n i:Nat) (b:Bool),i+n=l.length →
  evw C y0 zhZ [(1,dsV l),(3,.ptr 0 0 0 1),(7,.bool b),(9,iv i)] [.row 6 [zaq c]] =
   some (.ext 2,[(1,dsV l),(3,.ptr 0 0 0 1),(7,.bool (b&&(l.drop i).all zcX)),(9,iv l.length),(29,.bool false)],[.row 6 [zaq c]]):=by
 intro n
 induction n with
 | zero=>
  intro i b hin
  have:i=l.length:=by omega
  subst this
  rw [List.drop_length,zni]
  simp [zgj]
 | succ n ih=>
  intro i b hin
  have hlt:i<l.length:=by omega
  have hn:=hl.n
  obtain ⟨d,hd⟩:∃ d,d=l[i]:=⟨_,rfl⟩
  have hd1:l[i]? = some d:=by simp [hlt,hd]
  have hd2:∀ h:i<l.length,l[i]'h=d:=fun _=>hd.symm
  have hdk:=hl.d d (by rw [hd];exact List.getElem_mem hlt)
  have km:=fun h=>zpM d hdk.1 hdk.2 h
  have hi4:(i:Int)<l.length:=by omega
  have hwr:=zac hlt (by omega)
  have ih:=ih (i+1) (b&&zcX d) (by omega)
  simp only [Int.natCast_add,Int.cast_ofNat_Int] at ih
  rw [List.drop_eq_getElem_cons hlt,List.all_cons,←hd,←Bool.and_assoc,←ih,zni]
  cases b<;>simp [zgj,hlt,hd1,hd2,hi4,hwr,km]
theorem zgZ {c:Con} {l:Ds} {ks:List Int} (hc:c150 c) (hl:zmK l) (hk:ks.length≤1000) (hkc:ks.any (fun k=>k==c.kind)=true) (hr:zaC c l.length=true) (ok:okL l) (h:List Ob):acw C zaQ [zaq c,dsV l,zab ks] h=some (.ret (.bool true),h):=by
 have e1:=zAV (c:=c) (l:=l) hk ks.length 0 false (by omega)
 have e2:=zAv (c:=c) hl l.length 0 true (by omega)
 have hma:l.all zcX=true:=zsf ok
 have kr:=fun h=>zvy c l.length (zki hc) h
 rw [hr] at kr
 simp only [Int.cast_ofNat_Int,List.drop_zero,Bool.false_or,Bool.true_and,hkc,hma] at e1 e2
 refine zar (v:=.bool true) (CT zva) rfl rfl (fun _=>rfl) (by simp) ⟨[.row 6 [zaq c]],?_⟩
 simp [zaa,zlW,zpD,e1,e2,kr]
theorem zEk {L:Ls} {v:Int} (h0:0≤v) (h:v.toNat<L.length):L[v.toNat]=atL L v:=by
 unfold atL
 rw [List.getD,List.getElem?_eq_getElem h,Option.getD_some]
theorem zo8 {L:Ls} {v:Int} (h0:0≤v) (h:v<L.length):at? (L.map zab) v=some (zab (atL L v)):=by
 have hvL:v.toNat<L.length:=by omega
 unfold at?
 rw [if_pos h0,List.getElem?_map,List.getElem?_eq_getElem hvL,zEk h0 hvL]
 rfl
theorem zxj {c:Con} {L:Ls} (hn:c.vars.length≤1000) (hv:∀ v∈c.vars,0≤v∧v<L.length):∀ (n i:Nat) (b:Bool),i+n=c.vars.length →
  evw C y0 zh7 [(1,lsV L),(2,.ptr 0 0 0 1),(6,.bool b),(7,iv i)] [.row 6 [zaq c]] =
   some (.ext 0,[(1,lsV L),(2,.ptr 0 0 0 1),(6,.bool (b||wiped (c.vars.drop i) L)),(7,iv c.vars.length),(12,.bool false)],[.row 6 [zaq c]]):=by
 intro n
 induction n with
 | zero=>
  intro i b hin
  have:i=c.vars.length:=by omega
  subst this
  rw [List.drop_length,znm]
  simp [zgt,wiped]
 | succ n ih=>
  intro i b hin
  have hlt:i<c.vars.length:=by omega
  obtain ⟨v,hvv⟩:∃ v,v=c.vars[i]:=⟨_,rfl⟩
  have hv1:c.vars[i]? = some v:=by simp [hlt,hvv]
  have hv2:∀ h:i<c.vars.length,c.vars[i]'h=v:=fun _=>hvv.symm
  have hvb:=hv v (by rw [hvv];exact List.getElem_mem hlt)
  have hi4:(i:Int)<c.vars.length:=by omega
  have hwr:=zac hlt (by omega)
  have hv0:=hvb.1
  have hv3:=hvb.2
  have hvL:v.toNat<L.length:=by omega
  have hat:=zo8 hv0 hv3
  have hem:((((atL L v).length:Int))==0)=(atL L v).isEmpty:=by
   rw [Bool.eq_iff_iff,beq_iff_eq,List.isEmpty_iff_length_eq_zero];omega
  have ih:=ih (i+1) (b||(atL L v).isEmpty) (by omega)
  simp only [Int.natCast_add,Int.cast_ofNat_Int] at ih
  have hd:wiped (c.vars.drop i) L=((atL L v).isEmpty||wiped (c.vars.drop (i+1)) L):=by
   rw [List.drop_eq_getElem_cons hlt,←hvv];simp [wiped]
  rw [hd,←Bool.or_assoc,←ih,znm]
  cases b<;>simp [zgt,hlt,hv1,hv2,hi4,hwr,hat,hem]
theorem zpe {c:Con} {L:Ls} (hn:c.vars.length≤1000) (hLn:L.length≤1000) (hv:∀ v∈c.vars,0≤v∧v<L.length) (h:List Ob) :
  acw C zf0 [zaq c,lsV L] h=some (.ret (.tup [lsV (if wiped c.vars L=true then zce c.vars L else L),.bool (wiped c.vars L)]),h):=by
 have e:=zxj hn hv c.vars.length 0 false (by omega)
 have kn:=fun h=>ziV hn hLn hv h
 simp only [Int.cast_ofNat_Int,List.drop_zero,Bool.false_or] at e
 cases hw:wiped c.vars L with
 | false=>
  rw [hw] at e
  simp only [Bool.false_eq_true,if_false]
  refine zar (v:=.tup [lsV L,.bool false]) (CT zp8) rfl rfl (fun _=>rfl) (by simp) ⟨[.row 6 [zaq c]],?_⟩
  simp [zaa,ziz,zmd,e]
 | true=>
  rw [hw] at e
  simp only [if_true]
  have f:frz [.row 6 [zaq c],.row 6 [zaq c],.row 1 (zd6 c.vars L)] fdepth (.tup [.own 2 0 L.length L.length,.bool true])=some (.tup [lsV (zce c.vars L),.bool true]):=by
   have f0:frz [.row 6 [zaq c],.row 6 [zaq c],.row 1 (zd6 c.vars L)] 11 (.own 2 0 L.length L.length)=some (lsV (zce c.vars L)):=zwV (id:=2) rfl zp6.symm 9 (zp0 9)
   have f1:frz [.row 6 [zaq c],.row 6 [zaq c],.row 1 (zd6 c.vars L)] 11 (.bool true)=some (.bool true):=rfl
   show (zdP (frz [.row 6 [zaq c],.row 6 [zaq c],.row 1 (zd6 c.vars L)] 11) [.own 2 0 L.length L.length,.bool true]).map V.tup=_
   simp only [zdP,f0,f1]
   rfl
  refine zap (h':=[.row 6 [zaq c],.row 6 [zaq c],.row 1 (zd6 c.vars L)]) (v:=.tup [.own 2 0 L.length L.length,.bool true]) (v':=.tup [lsV (zce c.vars L),.bool true]) (CT zp8) rfl rfl ?_ f (by simp)
  simp [zaa,ziz,zmd,e,kn]
theorem zzY (xs:List Int) (v:Int) (hn:xs.length≤1000000) (h:List Ob):acw C zjF [zab xs,iv v] h=some (.ret (.bool (xs.contains v)),h):=by
 have key:∀ (n i:Nat),i+n=xs.length→∃ fr',evw C y0 zkW [(0,zab xs),(1,iv v),(5,iv i)] []=some (if (xs.drop i).contains v=true then (.ret,[(4,.bool true)],[]) else (.ext 0,fr',[])):=by
  intro n
  induction n with
  | zero=>
   intro i hin
   have:i=xs.length:=by omega
   subst this
   refine ⟨[(0,zab xs),(1,iv v),(5,iv xs.length),(9,.bool false)],?_⟩
   rw [List.drop_length,zl8]
   simp [zf7]
  | succ n ih=>
   intro i hin
   have hlt:i<xs.length:=by omega
   obtain ⟨x,hx⟩:∃ x,x=xs[i]:=⟨_,rfl⟩
   have hx1:xs[i]? = some x:=by simp [hlt,hx]
   have hx2:∀ h:i<xs.length,xs[i]'h=x:=fun _=>hx.symm
   have hi4:(i:Int)<xs.length:=by omega
   have hwr:=zac hlt (by omega)
   obtain ⟨fr',ih⟩:=ih (i+1) (by omega)
   simp only [Int.natCast_add,Int.cast_ofNat_Int] at ih
   rw [List.drop_eq_getElem_cons hlt,←hx]
   by_cases c:x=v
   ·subst c
    refine ⟨[],?_⟩
    rw [if_pos (by simp),zl8]
    simp [zf7,hlt,hx1,hx2,hi4,hwr]
   ·refine ⟨fr',?_⟩
    have e:(x::xs.drop (i+1)).contains v=(xs.drop (i+1)).contains v:=by
     rw [List.contains_cons,beq_eq_false_iff_ne.2 (Ne.symm c),Bool.false_or]
    rw [e,←ih,zl8]
    have cb:(x==v)=false:=beq_eq_false_iff_ne.2 c
    simp [zf7,hlt,hx1,hx2,hi4,hwr,cb]
 obtain ⟨fr',e⟩:=key xs.length 0 (by omega)
 simp only [Int.cast_ofNat_Int,List.drop_zero] at e
 refine zar (v:=.bool _) (CT zwW) rfl rfl (fun _=>rfl) (by simp) ⟨[],?_⟩
 cases c:xs.contains v with
 | true=>
  rw [c,if_pos rfl] at e
  simp [zaa,zmi,zpo,e]
 | false=>
  rw [c,if_neg (by simp)] at e
  simp [zaa,zmi,zpo,e]
theorem zsi (a b r x:Int) (hr:0≤r∧r≤5) (h:List Ob):acw C zgK [iv a,iv b,iv r,iv x] h=some (.ret (.bool (zmA a b r x)),h):=by
 refine zar (v:=.bool _) (CT zxh) rfl rfl (fun _=>rfl) (by simp) ⟨[],?_⟩
 have:r=0∨r=1∨r=2∨r=3∨r=4∨r=5:=by omega
 unfold zmA
 rcases this with rfl|rfl|rfl|rfl|rfl|rfl
 ·by_cases c:a≤x<;>simp [zaa,zdd,zeg,c]
 ·by_cases c:a=x
  ·subst c
   simp [zaa,zdd,zeg,ieq,ine]
  ·simp [zaa,zdd,zeg,c,ieq,ine]
 ·simp [zaa,zdd,zeg]
 ·simp [zaa,zdd,zeg]
 ·simp [zaa,zdd,zeg]
 ·simp [zaa,zdd,zeg]
theorem ztt (r:Int) (hr:0≤r∧r≤5) (h:List Ob):acw C zdf [iv r] h=some (.ret (iv (zgF r)),h):=by
 refine zar (v:=iv (zgF r)) (CT zrq) rfl rfl (fun _=>rfl) (by simp) ⟨[.row 1 [iv 1,iv 0,iv 5,iv 4,iv 3,iv 2]],?_⟩
 have:r=0∨r=1∨r=2∨r=3∨r=4∨r=5:=by omega
 rcases this with rfl|rfl|rfl|rfl|rfl|rfl<;>simp [zaa,zil,zmC,zgF]
def zdJ (L:Ls) (but:Int):Nat→List Int→List Int→Int×Int
 | i,k::ks,v::vs=>if (i:Int)=but then zdJ L but (i+1) ks vs else ((zdJ L but (i+1) ks vs).1+min (k*lo (atL L v)) (k*hi (atL L v)),(zdJ L but (i+1) ks vs).2+max (k*lo (atL L v)) (k*hi (atL L v)))
 | _,_,_=>(0,0)
theorem zs3 {L:Ls} {but:Int}:∀ {vs ks:List Int} {i:Nat},but<i→zdJ L but i ks vs=ends L (fun _=>false) ks vs
 | [],ks,i,h=>by cases ks<;>simp [zdJ,ends]
 | v::vs,[],i,h=>by simp [zdJ,ends]
 | v::vs,k::ks,i,h=>by
  rw [zdJ,ends,if_neg (by omega),if_neg (by simp),zs3 (i:=i+1) (by omega)]
theorem zAB {L:Ls} {u:Int}:∀ {vs ks:List Int},u∉vs→ends L (fun x=>x==u) ks vs=ends L (fun _=>false) ks vs
 | [],ks,h=>by cases ks<;>simp [ends]
 | v::vs,[],h=>by simp [ends]
 | v::vs,k::ks,h=>by
  have h1:¬v=u:=fun e=>h (by simp [e])
  rw [ends,ends,if_neg (by simpa using h1),if_neg (by simp),zAB (fun q=>h (by simp [q]))]
theorem zxD {L:Ls} {u:Int}:∀ {vs ks:List Int} {i j:Nat},vs.Nodup→vs[j]? = some u→zdJ L ((i+j:Nat):Int) i ks vs=ends L (fun x=>x==u) ks vs
 | [],ks,i,j,_,h=>by simp at h
 | v::vs,[],i,j,_,h=>by simp [zdJ,ends]
 | v::vs,k::ks,i,0,hn,h=>by
  have e:v=u:=by simpa using h
  subst e
  have hv:=(List.nodup_cons.1 hn).1
  rw [zdJ,ends,if_pos (by omega),if_pos (by simp),zs3 (i:=i+1) (by omega),zAB hv]
 | v::vs,k::ks,i,j+1,hn,h=>by
  have h2:=List.nodup_cons.1 hn
  have hu:vs[j]? = some u:=by simpa using h
  have hne:¬v=u:=fun e=>h2.1 (by rw [e];exact List.mem_of_getElem? hu)
  have ih:=zxD (L:=L) (ks:=ks) (i:=i+1) (j:=j) h2.2 hu
  rw [show i+1+j=i+(j+1) by omega] at ih
  rw [zdJ,ends,if_neg (by omega),if_neg (by simpa using hne),ih]
theorem lo_get {xs:List Int} (h:xs≠[]):xs[0]? = some (lo xs):=by
 cases xs with
 | nil=>exact absurd rfl h
 | cons a r=>rfl
theorem hi_get {xs:List Int} (h:xs≠[]):xs[xs.length-1]? = some (hi xs):=by
 unfold hi
 rw [List.getLastD_eq_getLast?,←List.getLast?_eq_getElem?,List.getLast?_eq_some_getLast h]
 rfl
theorem zyw {vs ks:List Int} {L:Ls} {but:Int} (h9:vs.length≤9) (hl:ks.length=vs.length) (hv:∀ v∈vs,0≤v∧v<L.length) (hne:∀ v∈vs,atL L v≠[]) (hk:znt ks) (hs:∀ v∈vs,∀ x∈atL L v,-1048576≤x∧x≤1048576) (hLb:∀ v∈vs,(atL L v).length≤1000000) (h:List Ob):∀ (n i:Nat) (a b:Int),i+n=vs.length→(-(i*1099511627776)≤a∧a≤i*1099511627776)→(-(i*1099511627776)≤b∧b≤i*1099511627776) →
  evw C y0 zjS [(0,zab vs),(1,zab ks),(2,lsV L),(3,iv but),(10,iv a),(11,iv b),(12,iv i)] h =
   some (.ext 0,[(0,zab vs),(1,zab ks),(2,lsV L),(3,iv but),(10,iv (a+(zdJ L but i (ks.drop i) (vs.drop i)).1)),(11,iv (b+(zdJ L but i (ks.drop i) (vs.drop i)).2)),(12,iv vs.length),(19,.bool false)],h):=by
 intro n
 induction n with
 | zero=>
  intro i a b hin ha hb
  have:i=vs.length:=by omega
  subst this
  have e:zdJ L but vs.length (ks.drop vs.length) (vs.drop vs.length)=(0,0):=by
   rw [List.drop_length,←hl,List.drop_length];rfl
  rw [e,zlg]
  simp [zdu]
 | succ n ih=>
  intro i a b hin ha hb
  have hlt:i<vs.length:=by omega
  have hlk:i<ks.length:=by omega
  obtain ⟨v,hvv⟩:∃ v,v=vs[i]:=⟨_,rfl⟩
  obtain ⟨k,hkk⟩:∃ v,v=ks[i]:=⟨_,rfl⟩
  have hv1:vs[i]? = some v:=by simp [hlt,hvv]
  have hv2:∀ h:i<vs.length,vs[i]'h=v:=fun _=>hvv.symm
  have hk1:ks[i]? = some k:=by simp [hlk,hkk]
  have hk2:∀ h:i<ks.length,ks[i]'h=k:=fun _=>hkk.symm
  have hvm:v∈vs:=by rw [hvv];exact List.getElem_mem hlt
  have hvb:=hv v hvm
  have hi4:(i:Int)<vs.length:=by omega
  have hi5:(i:Int)<ks.length:=by omega
  have hwr:=zac hlt (by omega)
  have hat:=zo8 hvb.1 hvb.2
  obtain ⟨x,hx⟩:∃ x,x=atL L v:=⟨_,rfl⟩
  have hxne:x≠[]:=by rw [hx];exact hne v hvm
  have hxl:0<x.length:=List.length_pos_iff.2 hxne
  have hxb:x.length≤1000000:=by rw [hx];exact hLb v hvm
  have hlo1:=lo_get hxne
  have hlo2:∀ h:0<x.length,x[0]'h=lo x:=fun h=>(List.getElem?_eq_some_iff.1 hlo1).2
  have hhi1:=hi_get hxne
  have hhi2:∀ h:x.length-1<x.length,x[x.length-1]'h=hi x:=fun h=>(List.getElem?_eq_some_iff.1 hhi1).2
  have hw1:IntKind.i64.wrap ((x.length:Int)-1)=((x.length-1:Nat):Int):=by rw [wrap64 (by omega) (by omega)];omega
  have hlos:=hs v hvm (lo x) (by rw [←hx];exact zt1 hxne)
  have hhis:=hs v hvm (hi x) (by rw [←hx];exact zs2 hxne)
  have hks:=hk k (by rw [hkk];exact List.getElem_mem hlk)
  have b1:=zkG hks hlos
  have b2:=zkG hks hhis
  have w1:IntKind.i64.wrap (k*lo x)=k*lo x:=wrap64 (by omega) (by omega)
  have w2:IntKind.i64.wrap (k*hi x)=k*hi x:=wrap64 (by omega) (by omega)
  have hdv:vs.drop i=v::vs.drop (i+1):=by rw [List.drop_eq_getElem_cons hlt,←hvv]
  have hdk:ks.drop i=k::ks.drop (i+1):=by rw [List.drop_eq_getElem_cons hlk,←hkk]
  rw [←hx] at hat
  by_cases c:(i:Int)=but
  ·have e:zdJ L but i (ks.drop i) (vs.drop i)=zdJ L but (i+1) (ks.drop (i+1)) (vs.drop (i+1)):=by
    rw [hdv,hdk,zdJ,if_pos c]
   have ih:=ih (i+1) a b (by omega) ⟨by omega,by omega⟩ ⟨by omega,by omega⟩
   simp only [Int.natCast_add,Int.cast_ofNat_Int] at ih
   rw [e,←ih,zlg]
   have cb:((i:Int)==but)=true:=beq_iff_eq.2 c
   simp [zdu,hlt,hi4,hwr,cb]
  ·have e:zdJ L but i (ks.drop i) (vs.drop i)=((zdJ L but (i+1) (ks.drop (i+1)) (vs.drop (i+1))).1+min (k*lo x) (k*hi x),(zdJ L but (i+1) (ks.drop (i+1)) (vs.drop (i+1))).2+max (k*lo x) (k*hi x)):=by
    rw [hdv,hdk,zdJ,if_neg c,hx]
   have mb:=zxI b1 b2
   have ih:=ih (i+1) (a+min (k*lo x) (k*hi x)) (b+max (k*lo x) (k*hi x)) (by omega) ⟨by omega,by omega⟩ ⟨by omega,by omega⟩
   simp only [Int.natCast_add,Int.cast_ofNat_Int] at ih
   have cb:((i:Int)==but)=false:=beq_eq_false_iff_ne.2 c
   rw [e]
   simp only
   rw [show a+((zdJ L but (i+1) (ks.drop (i+1)) (vs.drop (i+1))).1+min (k*lo x) (k*hi x))=a+min (k*lo x) (k*hi x)+(zdJ L but (i+1) (ks.drop (i+1)) (vs.drop (i+1))).1 by omega,show b+((zdJ L but (i+1) (ks.drop (i+1)) (vs.drop (i+1))).2+max (k*lo x) (k*hi x))=b+max (k*lo x) (k*hi x)+(zdJ L but (i+1) (ks.drop (i+1)) (vs.drop (i+1))).2 by omega,←ih,zlg]
   by_cases d:k*hi x<k*lo x
   ·have w3:IntKind.i64.wrap (a+k*hi x)=a+min (k*lo x) (k*hi x):=by rw [wrap64 (by omega) (by omega)];omega
    have w4:IntKind.i64.wrap (b+k*lo x)=b+max (k*lo x) (k*hi x):=by rw [wrap64 (by omega) (by omega)];omega
    simp [zdu,hlt,hlk,hi4,hi5,hwr,cb,hv1,hv2,hk1,hk2,hat,hlo1,hlo2,hhi1,hhi2,hxl,hw1,w1,w2,w3,w4,d]
   ·have w3:IntKind.i64.wrap (a+k*lo x)=a+min (k*lo x) (k*hi x):=by rw [wrap64 (by omega) (by omega)];omega
    have w4:IntKind.i64.wrap (b+k*hi x)=b+max (k*lo x) (k*hi x):=by rw [wrap64 (by omega) (by omega)];omega
    simp [zdu,hlt,hlk,hi4,hi5,hwr,cb,hv1,hv2,hk1,hk2,hat,hlo1,hlo2,hhi1,hhi2,hxl,hw1,w1,w2,w3,w4,d]
theorem zuc {vs ks:List Int} {L:Ls} (but:Int) (h9:vs.length≤9) (hl:ks.length=vs.length) (hv:∀ v∈vs,0≤v∧v<L.length) (hne:∀ v∈vs,atL L v≠[]) (hk:znt ks) (hs:∀ v∈vs,∀ x∈atL L v,-1048576≤x∧x≤1048576) (hLb:∀ v∈vs,(atL L v).length≤1000000) (h:List Ob) :
  acw C zhy [zab vs,zab ks,lsV L,iv but] h=some (.ret (.tup [iv (zdJ L but 0 ks vs).1,iv (zdJ L but 0 ks vs).2]),h):=by
 have e:=zyw (but:=but) h9 hl hv hne hk hs hLb [] vs.length 0 0 0 (by omega) (by omega) (by omega)
 simp only [Int.cast_ofNat_Int,List.drop_zero,Int.zero_add] at e
 refine zar (v:=.tup [_,_]) (CT zwu) rfl rfl (fun _=>rfl) (by simp) ⟨[],?_⟩
 simp [zaa,zmQ,zrg,e]
def LV (B:Nat) (h:List Ob) (v:V) (zs:List Int):Prop:=v=zab zs∨zmL B h v 1 (zs.map (V.int .i64))
theorem LV.keep {B:Nat} {h h':List Ob} {v:V} {zs:List Int} (a:LV B h v zs) (k:∀ j r,B≤j→h[j]? = some (.row 1 r)→h'[j]? = some (.row 1 r)):LV B h' v zs:=a.imp _root_.id fun a=>a.keep k
theorem LV.frz {B:Nat} {h:List Ob} {v:V} {zs:List Int} (k:Nat) (a:LV B h v zs):RR.frz h (k+2) v=some (zab zs):=by
 rcases a with rfl|a
 ·rfl
 ·exact a.frz (k+1) (zum h k zs)
theorem LV.over {B:Nat} {h:List Ob} {v u:V} {zs:List Int} (a:LV B h v zs):RR.over v 0 [u]=some u:=by
 rcases a with rfl|⟨rfl,-⟩|⟨id,-,rfl,-⟩<;>rfl
theorem LV.elems {B:Nat} {h:List Ob} {v:V} {zs:List Int} (a:LV B h v zs):RR.elems h v=some (1,zs.map (V.int .i64)):=by
 rcases a with rfl|a
 ·rfl
 ·exact a.acc.elems
structure zqV (B:Nat) (h:List Ob) (X:List V) (G:Ls):Prop where
 n:X.length=G.length
 a:∀ (j:Nat) (v:V) (zs:List Int),X[j]? = some v→G[j]? = some zs→LV B h v zs
theorem zqV.keep {B:Nat} {h h':List Ob} {X:List V} {G:Ls} (g:zqV B h X G) (k:∀ j r,B≤j→h[j]? = some (.row 1 r)→h'[j]? = some (.row 1 r)):zqV B h' X G:=⟨g.n,fun j v zs h1 h2=>(g.a j v zs h1 h2).keep k⟩
theorem zqV.set {B:Nat} {h:List Ob} {X:List V} {G:Ls} (g:zqV B h X G) {i:Nat} {u:V} {zs:List Int} (hu:LV B h u zs):zqV B h (X.set i u) (G.set i zs):=⟨by simp [g.n],fun j v ys h1 h2=>by
 by_cases c:i=j
 ·subst c
  have hj:=(List.getElem?_eq_some_iff.1 h1).1
  simp only [List.length_set] at hj
  have hj2:i<G.length:=by rw [←g.n];exact hj
  rw [List.getElem?_set_self hj] at h1
  rw [List.getElem?_set_self hj2] at h2
  cases h1;cases h2
  exact hu
 ·rw [List.getElem?_set_ne c] at h1 h2
  exact g.a j v ys h1 h2⟩
theorem zqV.frz {B:Nat} {h:List Ob} (k:Nat):∀ {X:List V} {G:Ls},zqV B h X G→zdP (RR.frz h (k+2)) X=some (G.map zab)
 | [],[],_=>rfl
 | [],_::_,g=>by have:=g.n;simp at this
 | _::_,[],g=>by have:=g.n;simp at this
 | x::X,z::G,g=>by
  have h0:=(g.a 0 x z rfl rfl).frz k
  have hr:zqV B h X G:=⟨by have:=g.n;simpa using this,fun j v zs h1 h2=>g.a (j+1) v zs (by simpa using h1) (by simpa using h2)⟩
  simp only [zdP,h0,hr.frz k,List.map_cons]
theorem zqV.ls {B:Nat} {h:List Ob} {L:Ls}:zqV B h (L.map zab) L:=⟨by simp,fun j v zs h1 h2=>by
 rw [List.getElem?_map,h2] at h1
 exact .inl (Option.some.inj h1).symm⟩
theorem zqV.get {B:Nat} {h:List Ob} {X:List V} {G:Ls} (g:zqV B h X G) {j:Nat} (hj:j<G.length):∃ v,X[j]? = some v∧LV B h v G[j]:=by
 have hx:j<X.length:=by rw [g.n];exact hj
 exact ⟨X[j],List.getElem?_eq_getElem hx,g.a j _ _ (List.getElem?_eq_getElem hx) (List.getElem?_eq_getElem hj)⟩
theorem zDM {c:Con} {vs:List Int} {L:Ls} {rel low high k:Int} {i:Nat} {v:Int} {x:List Int} (hr:0≤rel∧rel≤5) (hv1:vs[i]? = some v) (hvb:0≤v∧v<L.length) (hk1:c.coefs[i]? = some k) (hx:atL L v=x) (hxb:x.length≤1000000) (hks:-1048576≤k∧k≤1048576) (hxs:∀ y∈x,-1048576≤y∧y≤1048576) (hlow:-9895604649984≤low∧low≤9895604649984) (hhigh:-9895604649984≤high∧high≤9895604649984) (q9:V) (b:Nat) (H:List Ob) (h0:H[b]? = some (.row 6 [zaq c])):∀ (n m:Nat) (ys:List Int),m+n=x.length→ys.length≤m →
  evw C y0 zlp [(1,zab vs),(2,iv rel),(3,lsV L),(4,.ptr b 0 0 1),(9,q9),(10,iv i),(11,iv low),(12,iv high),(13,.own H.length 0 ys.length ys.length),(14,iv m)] (H++[.row 1 (ys.map (V.int .i64))]) =
   some (.ext 2,[(1,zab vs),(2,iv rel),(3,lsV L),(4,.ptr b 0 0 1),(9,q9),(10,iv i),(11,iv low),(12,iv high),(13,.own H.length 0 (ys++(x.drop m).filter fun y=>zmA (low+k*y) (high+k*y) rel c.const).length (ys++(x.drop m).filter fun y=>zmA (low+k*y) (high+k*y) rel c.const).length),(14,iv x.length),(44,.bool false)],H++[.row 1 ((ys++(x.drop m).filter fun y=>zmA (low+k*y) (high+k*y) rel c.const).map (V.int .i64))]):=by
 have hat:=zo8 hvb.1 hvb.2
 rw [hx] at hat
 obtain ⟨hi0,hv2'⟩:=List.getElem?_eq_some_iff.1 hv1
 have hv2:∀ h:i<vs.length,vs[i]'h=v:=fun _=>hv2'
 obtain ⟨hi1,hk2'⟩:=List.getElem?_eq_some_iff.1 hk1
 have hk2:∀ h:i<c.coefs.length,c.coefs[i]'h=k:=fun _=>hk2'
 have hi4:(i:Int)<vs.length:=by omega
 have hi5:(i:Int)<c.coefs.length:=by omega
 have h0':∀ t,(H++t)[b]? = some (.row 6 [zaq c]):=fun t=>za3 h0
 have h0n:b<H.length:=(List.getElem?_eq_some_iff.1 h0).1
 have h0g:∀ h:b<H.length,H[b]'h=.row 6 [zaq c]:=fun _=>(List.getElem?_eq_some_iff.1 h0).2
 intro n
 induction n with
 | zero=>
  intro m ys hin hys
  have:m=x.length:=by omega
  subst this
  rw [List.drop_length,List.filter_nil,List.append_nil,zlO]
  simp [zfK,hat,hv1,hv2,hi0,hi4]
 | succ n ih=>
  intro m ys hin hys
  have hlt:m<x.length:=by omega
  obtain ⟨y,hy⟩:∃ y,y=x[m]:=⟨_,rfl⟩
  have hy1:x[m]? = some y:=by simp [hlt,hy]
  have hy2:∀ h:m<x.length,x[m]'h=y:=fun _=>hy.symm
  have hys':=hxs y (by rw [hy];exact List.getElem_mem hlt)
  have hm4:(m:Int)<x.length:=by omega
  have hwr:=zac hlt (by omega)
  have b1':=zkG hks hys'
  have w1:IntKind.i64.wrap (k*y)=k*y:=wrap64 (by omega) (by omega)
  have w2:IntKind.i64.wrap (low+k*y)=low+k*y:=wrap64 (by omega) (by omega)
  have w3:IntKind.i64.wrap (high+k*y)=high+k*y:=wrap64 (by omega) (by omega)
  have km:=fun h=>zsi (low+k*y) (high+k*y) rel c.const hr h
  rw [List.drop_eq_getElem_cons hlt,←hy]
  cases hc:zmA (low+k*y) (high+k*y) rel c.const with
  | true=>
   rw [hc] at km
   rw [List.filter_cons_of_pos (by simpa using hc)]
   have ih:=ih (m+1) (ys++[y]) (by omega) (by simp;omega)
   rw [List.append_assoc,List.singleton_append] at ih
   simp only [Int.natCast_add,Int.cast_ofNat_Int,List.map_append (l₁:=ys) (l₂:=[y]),List.map_cons,List.map_nil] at ih
   have ap:∀ nid,zit nid (H++[.row 1 (ys.map (V.int .i64))]) 1 8 (.own H.length 0 ys.length ys.length) (.sl 1 [iv y])=some (.own H.length 0 (ys.length+1) (ys.length+1),some (H.length,.row 1 (ys.map (V.int .i64)++[iv y]))):=fun nid=>zbj (by simp) (by simp) rfl (by simp) rfl (by omega) (by omega)
   have bb:zii (.int .i64 0) [iv y]=some (.sl 1 [iv y]):=rfl
   have hl2:(ys++[y]).length=ys.length+1:=by simp
   rw [hl2] at ih
   rw [←ih,zlO]
   simp [zfK,hat,hv1,hv2,hk1,hk2,hi0,hi1,hi4,hi5,hlt,hy1,hy2,hm4,hwr,w1,w2,w3,h0',h0,h0n,h0g,km,ap,bb]
  | false=>
   rw [hc] at km
   rw [List.filter_cons_of_neg (by simpa using hc)]
   have ih:=ih (m+1) ys (by omega) (by omega)
   simp only [Int.natCast_add,Int.cast_ofNat_Int] at ih
   rw [←ih,zlO]
   simp [zfK,hat,hv1,hv2,hk1,hk2,hi0,hi1,hi4,hi5,hlt,hy1,hy2,hm4,hwr,w1,w2,w3,h0',h0,h0n,h0g,km]
def zEF (c:Con) (vs:List Int) (rel:Int) (L:Ls) (i:Nat) (v k:Int):List Int:=
 (atL L v).filter fun y=>zmA ((zdJ L (i:Int) 0 c.coefs vs).1+k*y) ((zdJ L (i:Int) 0 c.coefs vs).2+k*y) rel c.const
def zrV (c:Con) (vs:List Int) (rel:Int) (L:Ls):Nat→Ls
 | 0=>L
 | i+1=>(zrV c vs rel L i).set (vs.getD i 0).toNat (zEF c vs rel L i (vs.getD i 0) (c.coefs.getD i 0))
theorem zkK {c:Con} {vs:List Int} {rel:Int} {L:Ls}:∀ {i:Nat},(zrV c vs rel L i).length=L.length
 | 0=>rfl
 | i+1=>by rw [zrV,List.length_set];exact zkK
structure SumR (c:Con) (vs:List Int) (L:Ls):Prop where
 h9:vs.length≤9
 hl:c.coefs.length=vs.length
 hv:∀ v∈vs,0≤v∧v<L.length
 ne:∀ v∈vs,atL L v≠[]
 hk:znt c.coefs
 hs:∀ v∈vs,∀ x∈atL L v,-1048576≤x∧x≤1048576
 hb:∀ v∈vs,(atL L v).length≤1000000
 hL:L.length≤1000
theorem zyb {L:Ls} {but:Int}:∀ {vs ks:List Int} {i:Nat},znt ks→(∀ v∈vs,∀ x∈atL L v,-1048576≤x∧x≤1048576)→(∀ v∈vs,atL L v≠[]) → -(vs.length*1099511627776:Int)≤(zdJ L but i ks vs).1∧(zdJ L but i ks vs).1≤vs.length*1099511627776 ∧ -(vs.length*1099511627776:Int)≤(zdJ L but i ks vs).2∧(zdJ L but i ks vs).2≤vs.length*1099511627776
 | [],ks,i,_,_,_=>by cases ks<;>simp [zdJ]
 | v::vs,[],i,_,_,_=>by simp only [zdJ,List.length_cons];omega
 | v::vs,k::ks,i,hk,hs,hn=>by
  have ih:=zyb (L:=L) (but:=but) (vs:=vs) (ks:=ks) (i:=i+1) (fun k hk'=>hk k (by simp [hk'])) (fun u hu=>hs u (by simp [hu])) (fun u hu=>hn u (by simp [hu]))
  have h1:=hs v (by simp) _ (zt1 (hn v (by simp)))
  have h2:=hs v (by simp) _ (zs2 (hn v (by simp)))
  have h3:=hk k (by simp)
  have mb:=zxI (zkG h3 h1) (zkG h3 h2)
  rw [zdJ,List.length_cons]
  split
  ·omega
  ·simp only;omega
theorem zCv {c:Con} {vs:List Int} {L:Ls} {rel:Int} (R:SumR c vs L) (hr:0≤rel∧rel≤5) (b:Nat):∀ (n i:Nat) (H:List Ob) (X:List V),i+n=vs.length→H[b]? = some (.row 6 [zaq c])→H[b+1]? = some (.row 1 X)→zqV (b+2) H X (zrV c vs rel L i) →
  ∃ H' X',evw C y0 zlb [(1,zab vs),(2,iv rel),(3,lsV L),(4,.ptr b 0 0 1),(9,.own (b+1) 0 L.length L.length),(10,iv i)] H =
   some (.ext 0,[(1,zab vs),(2,iv rel),(3,lsV L),(4,.ptr b 0 0 1),(9,.own (b+1) 0 L.length L.length),(10,iv vs.length),(22,.bool false)],H')∧H'[b+1]? = some (.row 1 X')∧zqV (b+2) H' X' (zrV c vs rel L vs.length)∧(∀ j,j<b→H'[j]? = H[j]?):=by
 intro n
 induction n with
 | zero=>
  intro i H X hin h0 h1 g
  have:i=vs.length:=by omega
  subst this
  refine ⟨H,X,?_,h1,g,fun _ _=>rfl⟩
  rw [zqn]
  simp [ziL]
 | succ n ih=>
  intro i H X hin h0 h1 g
  have h9:=R.h9
  have hlt:i<vs.length:=by omega
  have hlk:i<c.coefs.length:=by have:=R.hl;omega
  obtain ⟨v,hvv⟩:∃ v,v=vs[i]:=⟨_,rfl⟩
  obtain ⟨k,hkk⟩:∃ v,v=c.coefs[i]:=⟨_,rfl⟩
  have hv1:vs[i]? = some v:=by simp [hlt,hvv]
  have hv2:∀ h:i<vs.length,vs[i]'h=v:=fun _=>hvv.symm
  have hk1:c.coefs[i]? = some k:=by simp [hlk,hkk]
  have hvm:v∈vs:=by rw [hvv];exact List.getElem_mem hlt
  have hvb:=R.hv v hvm
  have hi4:(i:Int)<vs.length:=by omega
  have hwr:=zac hlt (by omega)
  have hks:=R.hk k (by rw [hkk];exact List.getElem_mem hlk)
  obtain ⟨E,hE⟩:∃ E,E=zdJ L (i:Int) 0 c.coefs vs:=⟨_,rfl⟩
  have ke:=fun h=>zuc (vs:=vs) (ks:=c.coefs) (L:=L) (i:Int) R.h9 R.hl R.hv R.ne R.hk R.hs R.hb h
  rw [←hE] at ke
  have bd:=zyb (L:=L) (but:=(i:Int)) (i:=0) R.hk R.hs R.ne
  rw [←hE] at bd
  have bl:(vs.length:Int)*1099511627776≤9895604649984:=by omega
  have e1:=zDM (c:=c) (vs:=vs) (L:=L) (rel:=rel) (low:=E.1) (high:=E.2) (k:=k) (i:=i) (v:=v) hr hv1 hvb hk1 rfl (R.hb v hvm) hks (R.hs v hvm) (by omega) (by omega) (.own (b+1) 0 L.length L.length) b H h0 (atL L v).length 0 [] (by omega) (by simp)
  have hF:zEF c vs rel L i v k=(atL L v).filter fun y=>zmA (E.1+k*y) (E.2+k*y) rel c.const:=by unfold zEF;rw [←hE]
  simp only [List.drop_zero,List.nil_append,←hF,Int.cast_ofNat_Int,List.length_nil,List.map_nil] at e1
  obtain ⟨F,hFF⟩:∃ F,F=zEF c vs rel L i v k:=⟨_,rfl⟩
  rw [←hFF] at e1
  have hXl:X.length=L.length:=by rw [g.n];exact zkK
  have hvn:v.toNat<X.length:=by omega
  have hg:zrV c vs rel L (i+1)=(zrV c vs rel L i).set v.toNat F:=by
   rw [zrV,List.getD,hv1,Option.getD_some,List.getD,hk1,Option.getD_some,hFF]
  obtain ⟨u,hu,hlv⟩:=g.get (j:=v.toNat) (by rw [zkK];omega)
  have hov2:∀ (h:v.toNat<X.length) w,over (X[v.toNat]'h) 0 [w]=some w:=fun h w=>by
   rw [(List.getElem?_eq_some_iff.1 hu).2];exact hlv.over
  have l1:b+1<H.length:=(List.getElem?_eq_some_iff.1 h1).1
  have h1t:∀ t,(H++t)[b+1]? = some (.row 1 X):=fun t=>za3 h1
  have hwH:∀ t o,wr (H++t) (some (b+1,o))=(H++t).set (b+1) o:=fun t o=>zfi (by simp;omega)
  obtain ⟨H2,hH2⟩:∃ H2,H2=(H++[Ob.row 1 (F.map (V.int .i64))]).set (b+1) (.row 1 (X.set v.toNat (.own H.length 0 F.length F.length))):=⟨_,rfl⟩
  have kp:∀ j r,b+2≤j→H[j]? = some (.row 1 r)→H2[j]? = some (.row 1 r):=fun j r hj e=>by
   rw [hH2,List.getElem?_set_ne (by omega)]
   exact za3 e
  have g2:zqV (b+2) H2 (X.set v.toNat (.own H.length 0 F.length F.length)) (zrV c vs rel L (i+1)):=by
   rw [hg]
   exact (g.keep kp).set (.inr (zmL.own (by omega) (by simp) (by rw [hH2,List.getElem?_set_ne (by omega)];simp)))
  obtain ⟨H',X',ih,r1,r2,r3⟩:=ih (i+1) H2 _ (by omega) (by rw [hH2,List.getElem?_set_ne (by omega)];exact za3 h0) (by rw [hH2,List.getElem?_set_self (by simp;omega)]) g2
  simp only [Int.natCast_add,Int.cast_ofNat_Int] at ih
  refine ⟨H',X',?_,r1,r2,fun j hj=>by rw [r3 j hj,hH2,List.getElem?_set_ne (by omega),List.getElem?_append_left (by omega)]⟩
  have h0t:∀ t,(H++t)[b]? = some (.row 6 [zaq c]):=fun t=>za3 h0
  have l0:b<H.length:=by omega
  have h0g:∀ h:b<H.length,H[b]'h=.row 6 [zaq c]:=fun _=>(List.getElem?_eq_some_iff.1 h0).2
  have h1g:∀ h:b+1<H.length,H[b+1]'h=.row 1 X:=fun _=>(List.getElem?_eq_some_iff.1 h1).2
  have hv0:=hvb.1
  have hv3:=hvb.2
  have hvL:v.toNat<L.length:=by omega
  rw [←ih,hH2,zqn]
  simp [ziL,hlt,hv1,hv2,hi4,hwr,ke,e1,h0,h0t,h1,h1t,l0,l1,h0g,h1g,hov2,hXl,hvn,hv0,hv3,hvL,hwH]
theorem ztf {c:Con} {vs:List Int} {L:Ls} {rel:Int} (R:SumR c vs L) (hr:0≤rel∧rel≤5) (h:List Ob) :
  ∃ H' X',acw C zgI [zaq c,zab vs,iv rel,lsV L] h=some (.ret (.own (h.length+1) 0 L.length L.length),H')∧H'[h.length+1]? = some (.row 1 X')∧zqV (h.length+2) H' X' (zrV c vs rel L vs.length)∧(∀ j,j<h.length→H'[j]? = h[j]?):=by
 obtain ⟨H',X',e,r1,r2,r3⟩:=zCv R hr h.length vs.length 0 (h++[.row 6 [zaq c],.row 1 (L.map zab)]) (L.map zab) (by omega) (by simp) (by simp) zqV.ls
 simp only [Int.cast_ofNat_Int] at e
 have hLn:=R.hL
 refine ⟨H',X',?_,r1,r2,fun j hj=>by rw [r3 j hj,List.getElem?_append_left hj]⟩
 rw [zbd (CT zwH) rfl]
 cases L with
 | nil=>
  have ap:∀ nid R,zit nid (h++[R,.row 1 []]) 1 24 (.own (h.length+1) 0 0 0) (lsV [])=some (.own (h.length+1) 0 0 0,none):=fun nid R=>by
   simp [zit,op1,src,elems,zaF]
  simp at e
  simp [zaa,zlZ,zpl,ap,e]
 | cons x r=>
  have ap:∀ nid R,zit nid (h++[R,.row 1 []]) 1 24 (.own (h.length+1) 0 0 0) (lsV (x::r))=some (.own (h.length+1) 0 (r.length+1) (r.length+1),some (h.length+1,.row 1 (zab x::r.map zab))):=fun nid R=>by
   have:=zbj (nid:=nid) (id:=h.length+1) (z:=1) (b:=24) (n:=0) (m:=r.length+1) (h:=h++[R,.row 1 []]) (xs:=[]) (y:=lsV (x::r)) (ys:=zab x::r.map zab) (by simp) rfl rfl (by simp) (by simp) (by simp at hLn;omega) (by simp at hLn;omega)
   simpa using this
  simp at e
  simp [zaa,zlZ,zpl,ap,e]
theorem zly {c:Con} {l:Ds} {L:Ls} (h:∀ (j:Nat) (hj:j<l.length),∀ x∈zag l[j],(x∈L.getD j []↔kp c (lists l) j x=true)):zbT l L=zai c l:=by
 refine List.ext_getElem (by simp [zbT,zai]) fun j h1 h2=>?_
 have hj:j<l.length:=by simpa [zbT] using h1
 rw [zvR hj,zhB]
 refine zaD fun x hx=>?_
 rw [Bool.eq_iff_iff,List.any_eq_true,←h j hj x hx]
 constructor
 ·rintro ⟨y,hy,e⟩
  rw [←beq_iff_eq.1 e];exact hy
 ·exact fun q=>⟨x,q,by simp⟩
theorem zcg {l:Ds} {j:Nat} (hj:j<l.length):(lists l).getD j []=zag l[j]:=by
 rw [List.getD,List.getElem?_eq_getElem (by simpa [lists] using hj),Option.getD_some,zvx hj]
theorem zs6 {L:Ls} {j:Nat}:atL L (j:Int)=L.getD j []:=by unfold atL;rw [Int.toNat_natCast]
theorem zok {vs:List Int} {L:Ls} {j:Nat}:(zce vs L).getD j []=if (j:Int)∈vs then [] else L.getD j []:=by
 unfold zce
 rw [List.getD,List.getElem?_mapIdx,List.getD]
 cases L[j]? with
 | none=>simp
 | some x=>simp only [Option.map_some,Option.getD_some]
theorem zr8 {c:Con} {L:Ls} {v x:Int} (h:v∈c.vars):kp c L v x=(if c.kind=1 then !wiped c.vars L&&zti c.coefs c.vars c.rel c.const L v x else if c.kind=3 then !wiped c.vars L&&zxe c L v x else if c.kind=2 then zvY c.vars L v x else if c.kind=4 then ztB c L v x else if c.kind=5 then zwn c.vars L v x else zEq c L v x):=by
 unfold kp
 rw [if_neg (by simpa using h)]
theorem zrZ {c:Con} {l:Ds} (h:∀ (j:Nat) x,(j:Int)∈c.vars→kp c (lists l) j x=false):zbT l (zce c.vars (lists l))=zai c l:=by
 refine zly fun j hj x hx=>?_
 rw [zok]
 by_cases c1:(j:Int)∈c.vars
 ·rw [if_pos c1,h j x c1];simp
 ·rw [if_neg c1,zcg hj,zqY c1];simp [hx]
theorem zt5 {c:Con} {l:Ds} (hk:c.kind=1∨c.kind=3∨c.kind=5) (hw:wiped c.vars (lists l)=true):zbT l (zce c.vars (lists l))=zai c l:=by
 refine zrZ fun j x hj=>?_
 rw [zr8 hj]
 rcases hk with e|e|e
 ·rw [if_pos e,hw];rfl
 ·rw [if_neg (by omega),if_pos e,hw];rfl
 ·rw [if_neg (by omega),if_neg (by omega),if_neg (by omega),if_neg (by omega),if_pos e]
  unfold zwn
  rw [hw];rfl
theorem getD_set_ne {α:Type} {L:List α} {i j:Nat} {x d:α} (h:i≠j):(L.set i x).getD j d=L.getD j d:=by
 rw [List.getD,List.getD,List.getElem?_set_ne h]
theorem zct {α:Type} {L:List α} {i:Nat} {x d:α} (h:i<L.length):(L.set i x).getD i d=x:=by
 rw [List.getD,List.getElem?_set_self h,Option.getD_some]
theorem zez {α:Type} {L:List α} {i:Nat} {x d:α} (h:L[i]? = some x):L.getD i d=x:=by rw [List.getD,h,Option.getD_some]
theorem zuN {c:Con} {vs:List Int} {rel:Int} {L:Ls} (h0:∀ v∈vs,0≤v):∀ {n j:Nat},n≤vs.length→(j:Int)∉vs.take n→(zrV c vs rel L n).getD j []=L.getD j []
 | 0,j,_,_=>rfl
 | n+1,j,hn,hj=>by
  rw [List.take_succ_eq_append_getElem (by omega),List.mem_append,List.mem_singleton,not_or] at hj
  have e:vs.getD n 0=vs[n]:=zez (List.getElem?_eq_getElem (by omega))
  have hp:=h0 vs[n] (List.getElem_mem (by omega))
  rw [zrV,e,getD_set_ne (by omega)]
  exact zuN h0 (by omega) hj.1
theorem zAx {c:Con} {vs:List Int} {rel:Int} {L:Ls} (nd:vs.Nodup) (hv:∀ v∈vs,0≤v∧v<L.length):∀ {n i:Nat} (hi:i<n) (hn:n≤vs.length),(zrV c vs rel L n).getD (vs[i]'(by omega)).toNat []=zEF c vs rel L i (vs[i]'(by omega)) (c.coefs.getD i 0)
 | n+1,i,hi,hn=>by
  have e:vs.getD n 0=vs[n]:=zez (List.getElem?_eq_getElem (by omega))
  have hp:=hv vs[n] (List.getElem_mem (by omega))
  have hp2:=hv (vs[i]'(by omega)) (List.getElem_mem (by omega))
  rw [zrV,e]
  by_cases c1:i=n
  ·subst c1
   rw [zct (by rw [zkK];omega)]
  ·have hne:vs[n]≠vs[i]'(by omega):=fun q=>c1 ((List.getElem_inj nd).1 q).symm
   rw [getD_set_ne (by omega)]
   exact zAx nd hv (by omega) (by omega)
theorem zu0:∀ {vs:List Int} {i:Nat} {v:Int},vs.Nodup→vs[i]? = some v→vs.idxOf v=i
 | [],i,v,_,h=>by simp at h
 | u::vs,0,v,_,h=>by
  have:u=v:=by simpa using h
  subst this
  simp
 | u::vs,i+1,v,hn,h=>by
  have h2:=List.nodup_cons.1 hn
  have hv:vs[i]? = some v:=by simpa using h
  have hne:u≠v:=fun e=>h2.1 (by rw [e];exact List.mem_of_getElem? hv)
  rw [List.idxOf_cons,beq_eq_false_iff_ne.2 hne,cond_false,zu0 h2.2 hv]
theorem zxT {c:Con} {vs:List Int} {rel:Int} {L:Ls} (nd:vs.Nodup) (hv:∀ v∈vs,0≤v∧v<L.length) {v x:Int} (hvm:v∈vs) (hx:x∈atL L v):x∈(zrV c vs rel L vs.length).getD v.toNat []↔zti c.coefs vs rel c.const L v x=true:=by
 obtain ⟨i,hi,rfl⟩:=List.mem_iff_getElem.1 hvm
 have hi1:vs[i]? = some vs[i]:=List.getElem?_eq_getElem hi
 have hE:=zxD (L:=L) (ks:=c.coefs) (i:=0) nd hi1
 rw [Nat.zero_add] at hE
 rw [zAx nd hv hi (Nat.le_refl _)]
 unfold zEF zti zkv
 rw [List.mem_filter,hE,zu0 nd hi1]
 exact ⟨fun q=>q.2,fun q=>⟨hx,q⟩⟩
theorem zBJ {c:Con} {l:Ds} (hk:c.kind=1) (hR:RC c l.length) (hw:wiped c.vars (lists l)=false):zbT l (zrV c c.vars c.rel (lists l) c.vars.length)=zai c l:=by
 have hv:∀ v∈c.vars,0≤v∧v<(lists l).length:=fun v h=>by rw [zah];exact hR.b v h
 refine zly fun j hj x hx=>?_
 by_cases c1:(j:Int)∈c.vars
 ·have hx2:x∈atL (lists l) (j:Int):=by rw [zs6,zcg hj];exact hx
  have:=zxT (c:=c) (rel:=c.rel) hR.nd hv c1 hx2
  rw [Int.toNat_natCast] at this
  rw [this,zr8 c1,if_pos hk,hw];rfl
 ·rw [zuN (fun v h=>(hv v h).1) (Nat.le_refl _) (by rw [List.take_length];exact c1),zcg hj,zqY c1]
  simp [hx]
def iffF (c:Con) (L:Ls) (f:Int) (rest:List Int):List Int:=
 (if ((atL L f).contains 0&&zmA (ends L (fun _=>false) c.coefs rest).1 (ends L (fun _=>false) c.coefs rest).2 (zgF c.rel) c.const)=true then [0] else []) ++
 (if ((atL L f).contains 1&&zmA (ends L (fun _=>false) c.coefs rest).1 (ends L (fun _=>false) c.coefs rest).2 c.rel c.const)=true then [1] else [])
def zxm (c:Con) (L:Ls) (f:Int) (rest:List Int):Ls:=
 if (atL L f).contains 1=false then zrV c rest (zgF c.rel) L rest.length else if (atL L f).contains 0=false then zrV c rest c.rel L rest.length else L
theorem zkM {c:Con} {L:Ls} {f:Int} {rest:List Int}:(zxm c L f rest).length=L.length:=by
 unfold zxm
 split
 ·exact zkK
 ·split
  ·exact zkK
  ·rfl
theorem zB3 {c:Con} {l:Ds} {f:Int} {rest:List Int} (hf:c.vars=f::rest) (hk:c.kind=3) (hR:RC c l.length) (hw:wiped c.vars (lists l)=false) (hyn:((atL (lists l) f).contains 1||(atL (lists l) f).contains 0)=true) :
  zbT l ((zxm c (lists l) f rest).set f.toNat (iffF c (lists l) f rest))=zai c l:=by
 have hv:∀ v∈c.vars,0≤v∧v<(lists l).length:=fun v h=>by rw [zah];exact hR.b v h
 have nd:=hR.nd
 rw [hf] at nd hv
 have nd2:=List.nodup_cons.1 nd
 have hfv:=hv f (by simp)
 have hv2:∀ v∈rest,0≤v∧v<(lists l).length:=fun v h=>hv v (by simp [h])
 have c0:¬(!(atL (lists l) f).contains 1&&!(atL (lists l) f).contains 0)=true:=by
  intro q
  simp only [Bool.and_eq_true,Bool.not_eq_true'] at q
  rw [q.1,q.2] at hyn
  cases hyn
 refine zly fun j hj x hx=>?_
 have hx2:x∈atL (lists l) (j:Int):=by rw [zs6,zcg hj];exact hx
 by_cases c1:(j:Int)=f
 ·have hjv:(j:Int)∈c.vars:=by rw [hf,c1];simp
  have e1:f.toNat=j:=by omega
  rw [e1,zct (by rw [zkM,zah];exact hj),zr8 hjv,if_neg (by omega),if_pos hk,hw]
  unfold zxe
  rw [hf]
  simp only
  rw [if_neg c0,if_pos c1]
  rw [c1] at hx2
  unfold iffF
  generalize zmA (ends (lists l) (fun _=>false) c.coefs rest).1 (ends (lists l) (fun _=>false) c.coefs rest).2 (zgF c.rel) c.const=m0
  generalize zmA (ends (lists l) (fun _=>false) c.coefs rest).1 (ends (lists l) (fun _=>false) c.coefs rest).2 c.rel c.const=m1
  simp only [Bool.not_false,Bool.true_and,Bool.or_eq_true,Bool.and_eq_true,decide_eq_true_eq,List.mem_append]
  have k0:x=0→(atL (lists l) f).contains 0=true:=fun e=>by rw [←e];simpa using hx2
  have k1:x=1→(atL (lists l) f).contains 1=true:=fun e=>by rw [←e];simpa using hx2
  constructor
  ·rintro (q|q)
   ·split at q
    ·rename_i h;exact .inr ⟨by simpa using q,h.2⟩
    ·simp at q
   ·split at q
    ·rename_i h;exact .inl ⟨by simpa using q,h.2⟩
    ·simp at q
  ·rintro (⟨rfl,q⟩|⟨rfl,q⟩)
   ·right;rw [if_pos ⟨k1 rfl,q⟩];simp
   ·left;rw [if_pos ⟨k0 rfl,q⟩];simp
 ·rw [getD_set_ne (by omega)]
  by_cases c2:(j:Int)∈rest
  ·have hjv:(j:Int)∈c.vars:=by rw [hf];simp [c2]
   rw [zr8 hjv,if_neg (by omega),if_pos hk,hw]
   unfold zxe zxm
   rw [hf]
   simp only
   rw [if_neg c0,if_neg c1]
   have s0:=fun rel=>zxT (c:=c) (rel:=rel) nd2.2 hv2 c2 hx2
   simp only [Int.toNat_natCast] at s0
   cases h1:(atL (lists l) f).contains 1 with
   | false=>
    have h0:(atL (lists l) f).contains 0=true:=by rw [h1] at hyn;simpa using hyn
    rw [if_pos rfl,h0,if_neg (by simp),if_pos rfl,s0];rfl
   | true=>
    rw [if_neg (by simp)]
    cases h0:(atL (lists l) f).contains 0 with
    | false=>rw [if_pos rfl,if_pos rfl,s0];rfl
    | true=>
     rw [if_neg (by simp),if_neg (by simp),if_neg (by simp),zcg hj]
     simp [hx]
  ·have hjv:(j:Int)∉c.vars:=by rw [hf];simp [c1,c2]
   rw [zqY hjv]
   have e:(zxm c (lists l) f rest).getD j []=(lists l).getD j []:=by
    unfold zxm
    split
    ·exact zuN (fun v h=>(hv2 v h).1) (Nat.le_refl _) (by rw [List.take_length];exact c2)
    ·split
     ·exact zuN (fun v h=>(hv2 v h).1) (Nat.le_refl _) (by rw [List.take_length];exact c2)
     ·rfl
   rw [e,zcg hj]
   simp [hx]
theorem zBV {c:Con} {l:Ds} {f:Int} {rest:List Int} (hf:c.vars=f::rest) (hk:c.kind=3) (hyn:((atL (lists l) f).contains 1||(atL (lists l) f).contains 0)=false):zbT l (zce c.vars (lists l))=zai c l:=by
 refine zrZ fun j x hj=>?_
 rw [zr8 hj,if_neg (by omega),if_pos hk]
 unfold zxe
 rw [hf]
 simp only
 simp only [Bool.or_eq_false_iff] at hyn
 rw [hyn.1,hyn.2]
 simp
theorem zmN {h:List Ob} {l:Ds} {id n:Nat} {X:List V} {G:Ls} (e:h[id]? = some (.row 1 X)) (hn:n=X.length) (hx:zdP (frz h 11) X=some (G.map zab)):zj4 h [dsV l,.own id 0 n n]=some [dsV l,lsV G]:=by
 have f1:frz h fdepth (.own id 0 n n)=some (lsV G):=zwV e hn 10 hx
 have f0:frz h fdepth (dsV l)=some (dsV l):=rfl
 show zdP (frz h fdepth) _=_
 simp only [zdP,f0,f1]
theorem zpT {B:Nat} {h:List Ob} {l:Ds} {id n:Nat} {X:List V} {G:Ls} (e:h[id]? = some (.row 1 X)) (g:zqV B h X G) (hn:n=G.length):zj4 h [dsV l,.own id 0 n n]=some [dsV l,lsV G]:=
 zmN e (by rw [hn,g.n]) (g.frz 9)
theorem zsQ {H:List Ob} {l:Ds} {oid n f:Nat} {X:List V} {G:Ls} {F:List Int} (e:H[oid]? = some (.row 1 X)) (g:zqV (oid+1) H X G) (hn:n=G.length):zj4 (H.set oid (.row 1 (X.set f (.own H.length 0 F.length F.length)))++[.row 1 (F.map (V.int .i64))]) [dsV l,.own oid 0 n n]=some [dsV l,lsV (G.set f F)]:=by
 have lo:=(List.getElem?_eq_some_iff.1 e).1
 refine zpT (B:=oid+1) (X:=X.set f (.own H.length 0 F.length F.length)) ?_ ?_ (by simp [hn])
 ·rw [List.getElem?_append_left (by simpa using lo),List.getElem?_set_self lo]
 ·refine (g.keep fun j r hj ej=>?_).set (.inr (zmL.own (by omega) (by simp) ?_))
  ·have:=(List.getElem?_eq_some_iff.1 ej).1
   rw [List.getElem?_append_left (by simpa using this),List.getElem?_set_ne (by omega)]
   exact ej
  ·rw [List.getElem?_append_right (by simp)]
   simp
theorem zzs {c:Con} {vs:List Int} {l:Ds} (ok:okL l) (hn:l.length≤1000) (hk:znt c.coefs) (hl:c.coefs.length=vs.length) (h9:vs.length≤9) (hv:∀ v∈vs,0≤v∧v<l.length) (hw:wiped vs (lists l)=false):SumR c vs (lists l) where
 h9:=h9
 hl:=hl
 hv:=fun v h=>by rw [zah];exact hv v h
 ne:=zn1 hw
 hk:=hk
 hs:=fun v h x hx=>by
  have hb:=hv v h
  rw [zbn hb] at hx
  exact zeM (ok _ (List.getElem_mem _)) hx
 hb:=fun v h=>by
  have hb:=hv v h
  rw [zbn hb]
  have:=zbz (l[v.toNat]'(by omega))
  omega
 hL:=by rw [zah];exact hn
theorem zbr {l:Ds}:∀ xs∈lists l,xs.length≤1000000:=fun xs h=>by
 obtain ⟨d,-,rfl⟩:=List.mem_map.1 h
 have:=zbz d
 omega
theorem zlF {vs:List Int} {L:Ls} (h:∀ xs∈L,xs.length≤1000000):∀ xs∈zce vs L,xs.length≤1000000:=fun xs hx=>by
 unfold zce at hx
 obtain ⟨i,hi,rfl⟩:=List.mem_mapIdx.1 hx
 split
 ·simp
 ·exact h _ (List.getElem_mem hi)
theorem zlG {L:Ls} {i:Nat} {x:List Int} (h:∀ xs∈L,xs.length≤1000000) (hx:x.length≤1000000):∀ xs∈L.set i x,xs.length≤1000000:=fun xs hm=>by
 rcases List.mem_or_eq_of_mem_set hm with q|rfl
 ·exact h _ q
 ·exact hx
theorem zoc {c:Con} {vs:List Int} {rel:Int} {L:Ls} (hb:∀ v:Int,(atL L v).length≤1000000) (h:∀ xs∈L,xs.length≤1000000):∀ {i:Nat},∀ xs∈zrV c vs rel L i,xs.length≤1000000
 | 0=>h
 | i+1=>zlG (zoc hb h) (by
  unfold zEF
  exact Nat.le_trans (List.length_filter_le _ _) (hb _))
theorem zbL {l:Ds} (v:Int):(atL (lists l) v).length≤1000000:=by
 unfold atL
 rw [List.getD]
 cases h:(lists l)[v.toNat]? with
 | none=>simp
 | some x=>exact zbr x (List.mem_of_getElem? h)
theorem zzQ {c:Con} {l:Ds} (hc:c150 c) (hk:c.kind=1) (hr:zaC c l.length=true) (ok:okL l) (hn:l.length≤16) (hks:znt c.coefs) (h:List Ob):acw C zhG [zaq c,dsV l] h=some (.ret (.tup [dsV (zai c l),iv 0]),h):=by
 have hl:zmK l:=zo3 ok (by omega)
 have hR:=RC.of hr
 have kr:∀ h,acw C zaQ [zaq c,dsV l,.sl 1 [iv 1,iv 3]] h=some (.ret (.bool true),h):=fun h=>zgZ (ks:=[1,3]) hc hl (by simp) (by simp [hk]) hr ok h
 have kL:=fun h=>zgL l hl h
 have hv:∀ v∈c.vars,0≤v∧v<(lists l).length:=fun v h=>by rw [zah];exact hR.b v h
 have v9:=hR.v8.1
 have kW:=fun h=>zpe (c:=c) (L:=lists l) (by omega) (by rw [zah];omega) hv h
 have bb:zii (.int .i64 0) [iv 1,iv 3]=some (.sl 1 [iv 1,iv 3]):=rfl
 cases hw:wiped c.vars (lists l) with
 | true=>
  rw [hw] at kW
  simp only [if_true] at kW
  have kK:=fun h=>zdv l hl (zce c.vars (lists l)) (by simp [zce,lists]) (zlF zbr) h
  rw [zt5 (.inl hk) hw] at kK
  refine zar (v:=.tup [dsV (zai c l),iv 0]) (CT zeb) rfl rfl (fun _=>rfl) (by simp) ⟨[.row 6 [zaq c]],?_⟩
  simp [zaa,zaY,zba,kr,kL,kW,kK,bb]
 | false=>
  rw [hw] at kW
  simp only [Bool.false_eq_true,if_false] at kW
  have hs:=hR.s hk
  have R:=zzs (c:=c) (vs:=c.vars) ok (by omega) hks hs.1 (by omega) hR.b hw
  obtain ⟨H',X',ks,r1,r2,-⟩:=ztf R ⟨hs.2.1,hs.2.2⟩ [.row 6 [zaq c]]
  rw [zah] at ks
  have hz:zj4 H' [dsV l,.own 2 0 l.length l.length]=some [dsV l,lsV (zrV c c.vars c.rel (lists l) c.vars.length)]:=zpT r1 r2 (by rw [zkK,zah])
  have kK:=fun h=>zdv l hl (zrV c c.vars c.rel (lists l) c.vars.length) (by rw [zkK,zah]) (zoc zbL zbr) h
  rw [zBJ hk hR hw] at kK
  refine zar (v:=.tup [dsV (zai c l),iv 0]) (CT zeb) rfl rfl (fun _=>rfl) (by simp) ⟨H'.map fun _=>.dead,?_⟩
  simp at ks hz
  have hkb:(c.kind==1)=true:=by rw [hk];rfl
  simp [zaa,zaY,zba,kr,kL,kW,ks,hz,kK,bb,hkb]
theorem zAf {c:Con} {l:Ds} (hc:c150 c) (hk:c.kind=3) (hr:zaC c l.length=true) (ok:okL l) (hn:l.length≤16) (hks:znt c.coefs) (h:List Ob):acw C zhG [zaq c,dsV l] h=some (.ret (.tup [dsV (zai c l),iv 0]),h):=by
 have hl:zmK l:=zo3 ok (by omega)
 have hR:=RC.of hr
 have kr:∀ h,acw C zaQ [zaq c,dsV l,.sl 1 [iv 1,iv 3]] h=some (.ret (.bool true),h):=fun h=>zgZ (ks:=[1,3]) hc hl (by simp) (by simp [hk]) hr ok h
 have kL:=fun h=>zgL l hl h
 have hv:∀ v∈c.vars,0≤v∧v<(lists l).length:=fun v h=>by rw [zah];exact hR.b v h
 have v9:=hR.v8.1
 have kW:=fun h=>zpe (c:=c) (L:=lists l) (by omega) (by rw [zah];omega) hv h
 have bb:zii (.int .i64 0) [iv 1,iv 3]=some (.sl 1 [iv 1,iv 3]):=rfl
 have hkb:(c.kind==1)=false:=by rw [hk];rfl
 have hi:=hR.i hk
 obtain ⟨f,rest,hf⟩:∃ f rest,c.vars=f::rest:=by
  cases e:c.vars with
  | nil=>rw [e] at hi;simp at hi
  | cons f rest=>exact ⟨f,rest,rfl⟩
 have hfm:f∈c.vars:=by rw [hf];simp
 have hfb:=hv f hfm
 have hfl:f<(l.length:Int):=by have:=hfb.2;rw [zah] at this;exact this
 have hf0:=hfb.1
 have hfn:f.toNat<l.length:=by omega
 have hat:=zo8 hfb.1 hfb.2
 have hv1:c.vars[0]? = some f:=by rw [hf];rfl
 have hv2:∀ h:0<c.vars.length,c.vars[0]'h=f:=fun _=>(List.getElem?_eq_some_iff.1 hv1).2
 have hv3:0<c.vars.length:=by rw [hf];simp
 have hv4:(1:Int)≤c.vars.length:=by omega
 have hv5:1≤c.vars.length:=by omega
 cases hw:wiped c.vars (lists l) with
 | true=>
  rw [hw] at kW
  simp only [if_true] at kW
  have kK:=fun h=>zdv l hl (zce c.vars (lists l)) (by simp [zce,lists]) (zlF zbr) h
  rw [zt5 (.inr (.inl hk)) hw] at kK
  refine zar (v:=.tup [dsV (zai c l),iv 0]) (CT zeb) rfl rfl (fun _=>rfl) (by simp) ⟨[.row 6 [zaq c]],?_⟩
  simp [zaa,zaY,zba,kr,kL,kW,kK,bb]
 | false=>
  rw [hw] at kW
  simp only [Bool.false_eq_true,if_false] at kW
  have kh:=fun (v:Int) h=>zzY (atL (lists l) f) v (zbL f) h
  have ht:zab rest=.sl 1 ((c.vars.map (V.int .i64)).take c.vars.length).tail:=by rw [List.take_of_length_le (by simp),hf];rfl
  obtain ⟨xa,ra,hxa⟩:∃ xa ra,lists l=xa::ra:=by
   cases e:lists l with
   | nil=>rw [e] at hfb;simp at hfb;omega
   | cons x r=>exact ⟨x,r,rfl⟩
  have apL:∀ nid R,zit nid [R,.row 1 []] 1 24 (.own 1 0 0 0) (lsV (lists l))=some (.own 1 0 l.length l.length,some (1,.row 1 ((lists l).map zab))):=fun nid R=>by
   have:=zbj (nid:=nid) (id:=1) (z:=1) (b:=24) (n:=0) (m:=l.length) (h:=[R,.row 1 []]) (xs:=[]) (y:=lsV (lists l)) (ys:=(lists l).map zab) (by simp) rfl rfl (by rw [hxa];simp) (by simp [lists]) (by omega) (by omega)
   simpa using this
  have ho:(lists l).length=l.length:=zah
  cases hyn:((atL (lists l) f).contains 1||(atL (lists l) f).contains 0) with
  | false=>
   simp only [Bool.or_eq_false_iff] at hyn
   have kh1:=kh 1
   have kh0:=kh 0
   rw [hyn.1] at kh1
   rw [hyn.2] at kh0
   have kN:=fun h=>ziV (c:=c) (L:=lists l) (by omega) (by rw [zah];omega) hv h
   have kK:=fun h=>zdv l hl (zce c.vars (lists l)) (by simp [zce,lists]) (zlF zbr) h
   rw [zBV hf hk (by rw [hyn.1,hyn.2];rfl)] at kK
   rw [zah] at kN
   have hz:zj4 [.row 6 [zaq c],.row 1 ((lists l).map zab),.row 6 [zaq c],.row 1 (zd6 c.vars (lists l))] [dsV l,.own 3 0 l.length l.length]=some [dsV l,lsV (zce c.vars (lists l))]:=zmN (X:=zd6 c.vars (lists l)) rfl (by rw [zp6,zah]) (zp0 10)
   refine zar (v:=.tup [dsV (zai c l),iv 0]) (CT zeb) rfl rfl (fun _=>rfl) (by simp) ⟨[.dead,.dead,.dead,.dead],?_⟩
   simp [zaa,zaY,zba,kr,kL,kW,kK,kh1,kh0,kN,apL,hz,hat,hv1,hv2,hv3,hv4,hv5,bb,hkb]
  | true=>
   have hr0:0≤c.rel∧c.rel≤5:=⟨hi.2.1,hi.2.2⟩
   have hw2:wiped rest (lists l)=false:=by
    unfold wiped at hw ⊢
    rw [hf,List.any_cons,Bool.or_eq_false_iff] at hw
    exact hw.2
   have hlr:c.coefs.length=rest.length:=by have:=hi.1;rw [hf,List.length_cons] at this;omega
   have hvr:∀ v∈rest,0≤v∧v<l.length:=fun v h=>hR.b v (by rw [hf];simp [h])
   have R:=zzs (c:=c) (vs:=rest) ok (by omega) hks hlr (by omega) hvr hw2
   obtain ⟨E,hE⟩:∃ E,E=ends (lists l) (fun _=>false) c.coefs rest:=⟨_,rfl⟩
   have ke:=fun h=>zuc (vs:=rest) (ks:=c.coefs) (L:=lists l) (-1) R.h9 R.hl R.hv R.ne R.hk R.hs R.hb h
   rw [zs3 (by omega),←hE,ht] at ke
   obtain ⟨m0,hm0⟩:∃ b,zmA E.1 E.2 (zgF c.rel) c.const=b:=⟨_,rfl⟩
   obtain ⟨m1,hm1⟩:∃ b,zmA E.1 E.2 c.rel c.const=b:=⟨_,rfl⟩
   have km0:=fun h=>zsi E.1 E.2 (zgF c.rel) c.const (zrJ hr0) h
   have km1:=fun h=>zsi E.1 E.2 c.rel c.const hr0 h
   rw [hm0] at km0
   rw [hm1] at km1
   have kc:=fun h=>ztt c.rel hr0 h
   have b0:zii (.int .i64 0) [iv 0]=some (.sl 1 [iv 0]):=rfl
   have b1:zii (.int .i64 0) [iv 1]=some (.sl 1 [iv 1]):=rfl
   have hF:∀ yes no,(atL (lists l) f).contains 1=yes→(atL (lists l) f).contains 0=no→iffF c (lists l) f rest=(if (no&&m0)=true then [0] else [])++(if (yes&&m1)=true then [1] else []):=fun yes no h1 h0=>by
    unfold iffF
    rw [←hE,hm0,hm1,h1,h0]
   have leaf:∀ F,iffF c (lists l) f rest=F→F.length≤2→∀ h,acw C za9 [dsV l,lsV ((zxm c (lists l) f rest).set f.toNat F)] h=some (.ret (dsV (zai c l)),h):=fun F hF hF2 h=>by
    have kK:=zdv l hl ((zxm c (lists l) f rest).set f.toNat F) (by rw [List.length_set,zkM,zah]) (zlG (by
     unfold zxm
     split
     ·exact zoc zbL zbr
     ·split
      ·exact zoc zbL zbr
      ·exact zbr) (by omega)) h
    rw [←hF,zB3 hf hk hR hw hyn] at kK
    rw [←hF];exact kK
   have ap0:∀ (H:List Ob) nid,zit nid (H++[.row 1 []]) 1 8 (.own H.length 0 0 0) (.sl 1 [iv 0])=some (.own H.length 0 1 1,some (H.length,.row 1 [iv 0])):=fun H nid=>zbj (xs:=[]) (by simp) rfl rfl (by simp) rfl (by omega) (by omega)
   have ap1:∀ (H:List Ob) nid,zit nid (H++[.row 1 []]) 1 8 (.own H.length 0 0 0) (.sl 1 [iv 1])=some (.own H.length 0 1 1,some (H.length,.row 1 [iv 1])):=fun H nid=>zbj (xs:=[]) (by simp) rfl rfl (by simp) rfl (by omega) (by omega)
   have ap2:∀ (H:List Ob) nid,zit nid (H++[.row 1 [iv 0]]) 1 8 (.own H.length 0 1 1) (.sl 1 [iv 1])=some (.own H.length 0 2 2,some (H.length,.row 1 [iv 0,iv 1])):=fun H nid=>zbj (xs:=[iv 0]) (by simp) rfl rfl (by simp) rfl (by omega) (by omega)
   have kh1:=kh 1
   have kh0:=kh 0
   cases hy:(atL (lists l) f).contains 1 with
   | false=>
    have hno:(atL (lists l) f).contains 0=true:=by rw [hy] at hyn;simpa using hyn
    rw [hy] at kh1
    rw [hno] at kh0
    have hF:=hF false true hy hno
    obtain ⟨H',X',ks,r1,r2,r3⟩:=ztf R (zrJ hr0) [.row 6 [zaq c],.row 1 ((lists l).map zab)]
    have hG:zxm c (lists l) f rest=zrV c rest (zgF c.rel) (lists l) rest.length:=by unfold zxm;rw [if_pos hy]
    rw [←hG] at r2
    rw [zah,ht] at ks
    have h0:H'[0]? = some (.row 6 [zaq c]):=r3 0 (by simp)
    have l1:3<H'.length:=(List.getElem?_eq_some_iff.1 r1).1
    have hXl:X'.length=l.length:=by rw [r2.n,zkM,zah]
    obtain ⟨u,hu,hlv⟩:=r2.get (j:=f.toNat) (by rw [zkM,zah];exact hfn)
    have hov2:∀ (h:f.toNat<X'.length) w,over (X'[f.toNat]'h) 0 [w]=some w:=fun h w=>by
     rw [(List.getElem?_eq_some_iff.1 hu).2];exact hlv.over
    have h0t:∀ t,(H'++t)[0]? = some (.row 6 [zaq c]):=fun t=>za3 h0
    have l0:0<H'.length:=by omega
    have h0g:∀ h:0<H'.length,H'[0]'h=.row 6 [zaq c]:=fun _=>(List.getElem?_eq_some_iff.1 h0).2
    have h1g:∀ h:3<H'.length,H'[3]'h=.row 1 X':=fun _=>(List.getElem?_eq_some_iff.1 r1).2
    have h1t:∀ t,(H'++t)[3]? = some (.row 1 X'):=fun t=>za3 r1
    have r1':H'[3]? = some (.row 1 X'):=r1
    have hwH:∀ t o,wr (H'++t) (some (3,o))=H'.set 3 o++t:=fun t o=>by rw [zfi (by simp;omega),List.set_append_left _ _ l1]
    have hz:=fun F=>zsQ (l:=l) (n:=l.length) (f:=f.toNat) (F:=F) r1' (by simpa using r2) (by rw [zkM,zah])
    have hX2:f.toNat<X'.length:=by omega
    refine zar (v:=.tup [dsV (zai c l),iv 0]) (CT zeb) rfl rfl (fun _=>rfl) (by simp) ?_
    cases m0 with
    | false=>
     have kK:=leaf [] (by rw [hF];rfl) (by simp)
     have hz:=hz []
     refine ⟨(H'.set 3 (.row 1 (X'.set f.toNat (.own H'.length 0 0 0)))++[Ob.row 1 []]).map fun _=>Ob.dead,?_⟩
     simp at ks hz ke
     simp [zaa,zaY,zba,kr,kL,kW,ks,kK,kh1,kh0,kc,ke,km0,km1,apL,ap0,ap1,ap2,b0,b1,hz,hat,hv1,hv2,hv3,hv4,hv5,bb,hkb,h0,h0t,l0,h0g,h1g,h1t,r1',l1,hwH,hov2,hX2,hXl,hf0,hfl,hfn]
    | true=>
     have kK:=leaf [0] (by rw [hF];rfl) (by simp)
     have hz:=hz [0]
     refine ⟨(H'.set 3 (.row 1 (X'.set f.toNat (.own H'.length 0 1 1)))++[Ob.row 1 [iv 0]]).map fun _=>Ob.dead,?_⟩
     simp at ks hz ke
     simp [zaa,zaY,zba,kr,kL,kW,ks,kK,kh1,kh0,kc,ke,km0,km1,apL,ap0,ap1,ap2,b0,b1,hz,hat,hv1,hv2,hv3,hv4,hv5,bb,hkb,h0,h0t,l0,h0g,h1g,h1t,r1',l1,hwH,hov2,hX2,hXl,hf0,hfl,hfn]
   | true=>
    rw [hy] at kh1
    cases hno:(atL (lists l) f).contains 0 with
    | false=>
     rw [hno] at kh0
     have hF:=hF true false hy hno
     obtain ⟨H',X',ks,r1,r2,r3⟩:=ztf R hr0 [.row 6 [zaq c],.row 1 ((lists l).map zab)]
     have hG:zxm c (lists l) f rest=zrV c rest c.rel (lists l) rest.length:=by unfold zxm;rw [if_neg (by rw [hy];simp),if_pos hno]
     rw [←hG] at r2
     rw [zah,ht] at ks
     have h0:H'[0]? = some (.row 6 [zaq c]):=r3 0 (by simp)
     have l1:3<H'.length:=(List.getElem?_eq_some_iff.1 r1).1
     have hXl:X'.length=l.length:=by rw [r2.n,zkM,zah]
     obtain ⟨u,hu,hlv⟩:=r2.get (j:=f.toNat) (by rw [zkM,zah];exact hfn)
     have hov2:∀ (h:f.toNat<X'.length) w,over (X'[f.toNat]'h) 0 [w]=some w:=fun h w=>by
      rw [(List.getElem?_eq_some_iff.1 hu).2];exact hlv.over
     have h0t:∀ t,(H'++t)[0]? = some (.row 6 [zaq c]):=fun t=>za3 h0
     have l0:0<H'.length:=by omega
     have h0g:∀ h:0<H'.length,H'[0]'h=.row 6 [zaq c]:=fun _=>(List.getElem?_eq_some_iff.1 h0).2
     have h1g:∀ h:3<H'.length,H'[3]'h=.row 1 X':=fun _=>(List.getElem?_eq_some_iff.1 r1).2
     have h1t:∀ t,(H'++t)[3]? = some (.row 1 X'):=fun t=>za3 r1
     have r1':H'[3]? = some (.row 1 X'):=r1
     have hwH:∀ t o,wr (H'++t) (some (3,o))=H'.set 3 o++t:=fun t o=>by rw [zfi (by simp;omega),List.set_append_left _ _ l1]
     have hz:=fun F=>zsQ (l:=l) (n:=l.length) (f:=f.toNat) (F:=F) r1' (by simpa using r2) (by rw [zkM,zah])
     have hX2:f.toNat<X'.length:=by omega
     refine zar (v:=.tup [dsV (zai c l),iv 0]) (CT zeb) rfl rfl (fun _=>rfl) (by simp) ?_
     cases m1 with
     | false=>
      have kK:=leaf [] (by rw [hF];cases m0<;>rfl) (by simp)
      have hz:=hz []
      refine ⟨(H'.set 3 (.row 1 (X'.set f.toNat (.own H'.length 0 0 0)))++[Ob.row 1 []]).map fun _=>Ob.dead,?_⟩
      simp at ks hz ke
      simp [zaa,zaY,zba,kr,kL,kW,ks,kK,kh1,kh0,kc,ke,km0,km1,apL,ap0,ap1,ap2,b0,b1,hz,hat,hv1,hv2,hv3,hv4,hv5,bb,hkb,h0,h0t,l0,h0g,h1g,h1t,r1',l1,hwH,hov2,hX2,hXl,hf0,hfl,hfn]
     | true=>
      have kK:=leaf [1] (by rw [hF];cases m0<;>rfl) (by simp)
      have hz:=hz [1]
      refine ⟨(H'.set 3 (.row 1 (X'.set f.toNat (.own H'.length 0 1 1)))++[Ob.row 1 [iv 1]]).map fun _=>Ob.dead,?_⟩
      simp at ks hz ke
      simp [zaa,zaY,zba,kr,kL,kW,ks,kK,kh1,kh0,kc,ke,km0,km1,apL,ap0,ap1,ap2,b0,b1,hz,hat,hv1,hv2,hv3,hv4,hv5,bb,hkb,h0,h0t,l0,h0g,h1g,h1t,r1',l1,hwH,hov2,hX2,hXl,hf0,hfl,hfn]
    | true=>
     rw [hno] at kh0
     have hF:=hF true true hy hno
     have hG:zxm c (lists l) f rest=lists l:=by unfold zxm;rw [if_neg (by rw [hy];simp),if_neg (by rw [hno];simp)]
     have hX2:f.toNat<((lists l).map zab).length:=by simp [lists];omega
     have hX3:f.toNat<(lists l).length:=by simp [lists];omega
     have hov2:∀ (h:f.toNat<(lists l).length) w,over (zab ((lists l)[f.toNat]'h)) 0 [w]=some w:=fun h w=>rfl
     have hz:=fun F=>zsQ (H:=[.row 6 [zaq c],.row 1 ((lists l).map zab)]) (oid:=1) (l:=l) (n:=l.length) (f:=f.toNat) (F:=F) rfl (zqV.ls (L:=lists l)) (by rw [zah])
     refine zar (v:=.tup [dsV (zai c l),iv 0]) (CT zeb) rfl rfl (fun _=>rfl) (by simp) ⟨[.dead,.dead,.dead],?_⟩
     have ap0:=ap0 [.row 6 [zaq c],.row 1 ((lists l).map zab)]
     have ap1:=ap1 [.row 6 [zaq c],.row 1 ((lists l).map zab)]
     have ap2:=ap2 [.row 6 [zaq c],.row 1 ((lists l).map zab)]
     rw [hG] at leaf
     cases m0 with
     | false=>cases m1 with
      | false=>
       have kK:=leaf [] (by rw [hF];rfl) (by simp)
       have hz:=hz []
       simp at hz ke ap0 ap1 ap2
       simp [zaa,zaY,zba,kr,kL,kW,kK,kh1,kh0,kc,ke,km0,km1,apL,ap0,ap1,ap2,b0,b1,hz,hat,hv1,hv2,hv3,hv4,hv5,bb,hkb,hov2,hX2,hX3,hf0,hfl,hfn,ho]
      | true=>
       have kK:=leaf [1] (by rw [hF];rfl) (by simp)
       have hz:=hz [1]
       simp at hz ke ap0 ap1 ap2
       simp [zaa,zaY,zba,kr,kL,kW,kK,kh1,kh0,kc,ke,km0,km1,apL,ap0,ap1,ap2,b0,b1,hz,hat,hv1,hv2,hv3,hv4,hv5,bb,hkb,hov2,hX2,hX3,hf0,hfl,hfn,ho]
     | true=>cases m1 with
      | false=>
       have kK:=leaf [0] (by rw [hF];rfl) (by simp)
       have hz:=hz [0]
       simp at hz ke ap0 ap1 ap2
       simp [zaa,zaY,zba,kr,kL,kW,kK,kh1,kh0,kc,ke,km0,km1,apL,ap0,ap1,ap2,b0,b1,hz,hat,hv1,hv2,hv3,hv4,hv5,bb,hkb,hov2,hX2,hX3,hf0,hfl,hfn,ho]
      | true=>
       have kK:=leaf [0,1] (by rw [hF];rfl) (by simp)
       have hz:=hz [0,1]
       simp at hz ke ap0 ap1 ap2
       simp [zaa,zaY,zba,kr,kL,kW,kK,kh1,kh0,kc,ke,km0,km1,apL,ap0,ap1,ap2,b0,b1,hz,hat,hv1,hv2,hv3,hv4,hv5,bb,hkb,hov2,hX2,hX3,hf0,hfl,hfn,ho]
theorem LV.len {B:Nat} {h:List Ob} {v:V} {zs:List Int} (a:LV B h v zs):zBA h v=some (iv zs.length,none):=by
 rcases a with rfl|⟨rfl,e⟩|⟨id,-,rfl,e⟩
 ·simp
 ·have:zs=[]:=by simpa using e
  subst this
  simp
 ·simp only [List.length_map]
  simp [e]
theorem LV.at_ {B:Nat} {h:List Ob} {v:V} {zs:List Int} (a:LV B h v zs) {j:Nat} {z:Int} (hz:zs[j]? = some z):∃ P,zDC h 1 v (iv j)=some (P,none)∧ldV h false 1 P=some (iv z,none):=by
 have hj:=(List.getElem?_eq_some_iff.1 hz).1
 rcases a with rfl|⟨rfl,e⟩|⟨id,-,rfl,e⟩
 ·exact ⟨.pin (iv z) 0,by simp [hz],by simp⟩
 ·have:zs=[]:=by simpa using e
  subst this
  simp at hz
 ·simp only [List.length_map]
  have hj2:(j:Int)<zs.length:=by omega
  exact ⟨.ptr id j 0 zs.length,by simp [e,hj2],by simp [e,hz]⟩
structure Tri (H:List Ob) (x0 x1 x2:V) (a0 a1 a2:List Int):Prop where
 h:H[1]? = some (.row 3 [.agg [x0,x1,x2]])
 x0:LV 2 H x0 a0
 x1:LV 2 H x1 a1
 x2:LV 2 H x2 a2
 s0:∀ x∈a0,-1048576≤x∧x≤1048576
 s1:∀ x∈a1,-1048576≤x∧x≤1048576
 n0:a0.length≤1000000
 n1:a1.length≤1000000
 n2:a2.length≤1000000
theorem zEt {H:List Ob} {x0 x1 x2:V} {a0 a1 a2:List Int} (T:Tri H x0 x1 x2 a0 a1 a2) {i k:Nat} {x y:Int} (hx:a0[i]? = some x) (hy:a1[k]? = some y):∀ (n j:Nat),j+n=a2.length →
  evw C y0 zi2 [(9,.ptr 1 0 0 1),(10,iv i),(11,iv k),(12,iv j)] H=some (if ((a2.drop j).any fun z=>x*y==z)=true then (.ret,[(8,.bool true)],H) else (.ext 4,[(9,.ptr 1 0 0 1),(10,iv i),(11,iv k),(12,iv a2.length),(57,.bool false)],H)):=by
 have h1:=T.h
 have l1:1<H.length:=(List.getElem?_eq_some_iff.1 h1).1
 have h1g:∀ h:1<H.length,H[1]'h=.row 3 [.agg [x0,x1,x2]]:=fun _=>(List.getElem?_eq_some_iff.1 h1).2
 have e2:=T.x2.len
 obtain ⟨P0,p0,q0⟩:=T.x0.at_ hx
 obtain ⟨P1,p1,q1⟩:=T.x1.at_ hy
 have w:IntKind.i64.wrap (x*y)=x*y:=by
  have b:=zkG (T.s0 x (List.mem_of_getElem? hx)) (T.s1 y (List.mem_of_getElem? hy))
  exact wrap64 (by omega) (by omega)
 intro n
 induction n with
 | zero=>
  intro j hin
  have:j=a2.length:=by omega
  subst this
  rw [List.drop_length,List.any_nil,if_neg (by simp),zk1]
  simp [zeL,h1,l1,h1g,e2,zaF]
 | succ n ih=>
  intro j hin
  have hlt:j<a2.length:=by omega
  have hn:=T.n2
  obtain ⟨z,hz⟩:∃ z,z=a2[j]:=⟨_,rfl⟩
  have hz1:a2[j]? = some z:=by simp [hlt,hz]
  obtain ⟨P2,p2,q2⟩:=T.x2.at_ hz1
  have hi4:(j:Int)<a2.length:=by omega
  have hwr:=zac hlt (by omega)
  have ih:=ih (j+1) (by omega)
  simp only [Int.natCast_add,Int.cast_ofNat_Int] at ih
  rw [List.drop_eq_getElem_cons hlt,List.any_cons,←hz]
  by_cases c:x*y=z
  ·have cb:(x*y==z)=true:=beq_iff_eq.2 c
   rw [cb,Bool.true_or,if_pos rfl,zk1]
   simp [zeL,h1,l1,h1g,e2,zaF,hi4,p0,q0,p1,q1,p2,q2,w,cb]
  ·have cb:(x*y==z)=false:=beq_eq_false_iff_ne.2 c
   rw [cb,Bool.false_or,←ih,zk1]
   simp [zeL,h1,l1,h1g,e2,zaF,hi4,hwr,p0,q0,p1,q1,p2,q2,w,cb]
theorem zES {H:List Ob} {x0 x1 x2:V} {a0 a1 a2:List Int} (T:Tri H x0 x1 x2 a0 a1 a2) {i:Nat} {x:Int} (hx:a0[i]? = some x):∀ (n k:Nat),k+n=a1.length →
  evw C y0 zi0 [(9,.ptr 1 0 0 1),(10,iv i),(11,iv k)] H=some (if ((a1.drop k).any fun y=>a2.any fun z=>x*y==z)=true then (.ret,[(8,.bool true)],H) else (.ext 2,[(9,.ptr 1 0 0 1),(10,iv i),(11,iv a1.length),(50,.bool false)],H)):=by
 have h1:=T.h
 have l1:1<H.length:=(List.getElem?_eq_some_iff.1 h1).1
 have h1g:∀ h:1<H.length,H[1]'h=.row 3 [.agg [x0,x1,x2]]:=fun _=>(List.getElem?_eq_some_iff.1 h1).2
 have e1:=T.x1.len
 intro n
 induction n with
 | zero=>
  intro k hin
  have:k=a1.length:=by omega
  subst this
  rw [List.drop_length,List.any_nil,if_neg (by simp),zlh]
  simp [zeJ,h1,l1,h1g,e1,zaF]
 | succ n ih=>
  intro k hin
  have hlt:k<a1.length:=by omega
  have hn:=T.n1
  obtain ⟨y,hy⟩:∃ z,z=a1[k]:=⟨_,rfl⟩
  have hy1:a1[k]? = some y:=by simp [hlt,hy]
  have hi4:(k:Int)<a1.length:=by omega
  have hwr:=zac hlt (by omega)
  have e0:=zEt T hx hy1 a2.length 0 (by omega)
  simp only [Int.cast_ofNat_Int,List.drop_zero] at e0
  have ih:=ih (k+1) (by omega)
  simp only [Int.natCast_add,Int.cast_ofNat_Int] at ih
  rw [List.drop_eq_getElem_cons hlt,List.any_cons,←hy]
  cases c:a2.any fun z=>x*y==z with
  | true=>
   rw [c,if_pos rfl] at e0
   rw [Bool.true_or,if_pos rfl,zlh]
   simp [zeJ,h1,l1,h1g,e1,zaF,hi4,e0]
  | false=>
   rw [c,if_neg (by simp)] at e0
   rw [Bool.false_or,←ih,zlh]
   simp [zeJ,h1,l1,h1g,e1,zaF,hi4,hwr,e0]
theorem zD7 {H:List Ob} {x0 x1 x2:V} {a0 a1 a2:List Int} (T:Tri H x0 x1 x2 a0 a1 a2):∀ (n i:Nat),i+n=a0.length →
  evw C y0 zfL [(9,.ptr 1 0 0 1),(10,iv i)] H=some (if ((a0.drop i).any fun x=>a1.any fun y=>a2.any fun z=>x*y==z)=true then (.ret,[(8,.bool true)],H) else (.ext 0,[(9,.ptr 1 0 0 1),(10,iv a0.length),(43,.bool false)],H)):=by
 have h1:=T.h
 have l1:1<H.length:=(List.getElem?_eq_some_iff.1 h1).1
 have h1g:∀ h:1<H.length,H[1]'h=.row 3 [.agg [x0,x1,x2]]:=fun _=>(List.getElem?_eq_some_iff.1 h1).2
 have e1:=T.x0.len
 intro n
 induction n with
 | zero=>
  intro k hin
  have:k=a0.length:=by omega
  subst this
  rw [List.drop_length,List.any_nil,if_neg (by simp),zlq]
  simp [zeN,h1,l1,h1g,e1,zaF]
 | succ n ih=>
  intro k hin
  have hlt:k<a0.length:=by omega
  have hn:=T.n0
  obtain ⟨y,hy⟩:∃ z,z=a0[k]:=⟨_,rfl⟩
  have hy1:a0[k]? = some y:=by simp [hlt,hy]
  have hi4:(k:Int)<a0.length:=by omega
  have hwr:=zac hlt (by omega)
  have e0:=zES T hy1 a1.length 0 (by omega)
  simp only [Int.cast_ofNat_Int,List.drop_zero] at e0
  have ih:=ih (k+1) (by omega)
  simp only [Int.natCast_add,Int.cast_ofNat_Int] at ih
  rw [List.drop_eq_getElem_cons hlt,List.any_cons,←hy]
  cases c:a1.any fun u=>a2.any fun z=>y*u==z with
  | true=>
   rw [c,if_pos rfl] at e0
   rw [Bool.true_or,if_pos rfl,zlq]
   simp [zeN,h1,l1,h1g,e1,zaF,hi4,e0]
  | false=>
   rw [c,if_neg (by simp)] at e0
   rw [Bool.false_or,←ih,zlq]
   simp [zeN,h1,l1,h1g,e1,zaF,hi4,hwr,e0]
def zAZ (a0 a1 a2:List Int):Bool:=a0.any fun x=>a1.any fun y=>a2.any fun z=>x*y==z
theorem zyK {c:Con} {L:Ls} {u v t:Int} (hvs:c.vars=[u,v,t]) (hv:∀ v∈c.vars,0≤v∧v<L.length) (hs:∀ v∈c.vars,∀ x∈atL L v,-1048576≤x∧x≤1048576) (hb:∀ v∈c.vars,(atL L v).length≤1000000) (x:Int) (hx:-1048576≤x∧x≤1048576) (at':Nat) (hat':at'<3) (h:List Ob) :
  acw C zhM [zaq c,lsV L,iv at',iv x] h=some (.ret (.bool (if at'=0 then zAZ [x] (atL L v) (atL L t) else if at'=1 then zAZ (atL L u) [x] (atL L t) else zAZ (atL L u) (atL L v) [x])),h):=by
 have mu:u∈c.vars:=by rw [hvs];simp
 have mv:v∈c.vars:=by rw [hvs];simp
 have mt:t∈c.vars:=by rw [hvs];simp
 have au:=zo8 (hv u mu).1 (hv u mu).2
 have av:=zo8 (hv v mv).1 (hv v mv).2
 have at2:=zo8 (hv t mt).1 (hv t mt).2
 have x0:c.vars[0]? = some u:=by rw [hvs];rfl
 have x1:c.vars[1]? = some v:=by rw [hvs];rfl
 have x2:c.vars[2]? = some t:=by rw [hvs];rfl
 have g0:∀ h:0<c.vars.length,c.vars[0]'h=u:=fun _=>(List.getElem?_eq_some_iff.1 x0).2
 have g1:∀ h:1<c.vars.length,c.vars[1]'h=v:=fun _=>(List.getElem?_eq_some_iff.1 x1).2
 have g2:∀ h:2<c.vars.length,c.vars[2]'h=t:=fun _=>(List.getElem?_eq_some_iff.1 x2).2
 have n0:0<c.vars.length:=by rw [hvs];simp
 have n1:1<c.vars.length:=by rw [hvs];simp
 have n2:2<c.vars.length:=by rw [hvs];simp
 have sx:∀ y∈[x],-1048576≤y∧y≤1048576:=fun y hy=>by rw [List.mem_singleton.1 hy];exact hx
 have go:∀ (y0' y1 y2:V) (a0 a1 a2:List Int),Tri [.row 6 [zaq c],.row 3 [.agg [y0',y1,y2]],.row 1 [iv x]] y0' y1 y2 a0 a1 a2→∃ fr',evw C y0 zfL [(9,.ptr 1 0 0 1),(10,iv 0)] [.row 6 [zaq c],.row 3 [.agg [y0',y1,y2]],.row 1 [iv x]]=some (if zAZ a0 a1 a2=true then (.ret,[(8,.bool true)],[.row 6 [zaq c],.row 3 [.agg [y0',y1,y2]],.row 1 [iv x]]) else (.ext 0,fr',[.row 6 [zaq c],.row 3 [.agg [y0',y1,y2]],.row 1 [iv x]])):=fun y0' y1 y2 a0 a1 a2 T=>by
  have e:=zD7 T a0.length 0 (by omega)
  simp only [Int.cast_ofNat_Int,List.drop_zero] at e
  exact ⟨_,e⟩
 have lx:∀ (y0' y1 y2:V),LV 2 [.row 6 [zaq c],.row 3 [.agg [y0',y1,y2]],.row 1 [iv x]] (.own 2 0 1 1) [x]:=fun _ _ _=>.inr (zmL.own (by omega) rfl rfl)
 refine zar (v:=.bool _) (CT zvG) rfl rfl (fun _=>rfl) (by simp) ⟨[.row 6 [zaq c],.row 3 [.agg [if at'=0 then .own 2 0 1 1 else zab (atL L u),if at'=1 then .own 2 0 1 1 else zab (atL L v),if at'=2 then .own 2 0 1 1 else zab (atL L t)]],.row 1 [iv x]],?_⟩
 have:at'=0∨at'=1∨at'=2:=by omega
 rcases this with rfl|rfl|rfl
 ·obtain ⟨fr',e⟩:=go (.own 2 0 1 1) (zab (atL L v)) (zab (atL L t)) [x] (atL L v) (atL L t) ⟨rfl,lx _ _ _,.inl rfl,.inl rfl,sx,hs v mv,by simp,hb v mv,hb t mt⟩
  cases r:zAZ [x] (atL L v) (atL L t) with
  | true=>
   rw [r,if_pos rfl] at e
   simp [zaa,zc3,zdQ,x0,x1,x2,g0,g1,g2,n0,n1,n2,au,av,at2,e,r]
  | false=>
   rw [r,if_neg (by simp)] at e
   simp [zaa,zc3,zdQ,x0,x1,x2,g0,g1,g2,n0,n1,n2,au,av,at2,e,r]
 ·obtain ⟨fr',e⟩:=go (zab (atL L u)) (.own 2 0 1 1) (zab (atL L t)) (atL L u) [x] (atL L t) ⟨rfl,.inl rfl,lx _ _ _,.inl rfl,hs u mu,sx,hb u mu,by simp,hb t mt⟩
  cases r:zAZ (atL L u) [x] (atL L t) with
  | true=>
   rw [r,if_pos rfl] at e
   simp [zaa,zc3,zdQ,x0,x1,x2,g0,g1,g2,n0,n1,n2,au,av,at2,e,r]
  | false=>
   rw [r,if_neg (by simp)] at e
   simp [zaa,zc3,zdQ,x0,x1,x2,g0,g1,g2,n0,n1,n2,au,av,at2,e,r]
 ·obtain ⟨fr',e⟩:=go (zab (atL L u)) (zab (atL L v)) (.own 2 0 1 1) (atL L u) (atL L v) [x] ⟨rfl,.inl rfl,.inl rfl,lx _ _ _,hs u mu,hs v mv,hb u mu,hb v mv,by simp⟩
  cases r:zAZ (atL L u) (atL L v) [x] with
  | true=>
   rw [r,if_pos rfl] at e
   simp [zaa,zc3,zdQ,x0,x1,x2,g0,g1,g2,n0,n1,n2,au,av,at2,e,r]
  | false=>
   rw [r,if_neg (by simp)] at e
   simp [zaa,zc3,zdQ,x0,x1,x2,g0,g1,g2,n0,n1,n2,au,av,at2,e,r]
def zqL (vs:List Int) (L:Ls) (p:Nat→Int→Bool):Nat→Ls
 | 0=>zce vs L
 | i+1=>(zqL vs L p i).set (vs.getD i 0).toNat ((atL L (vs.getD i 0)).filter (p i))
theorem zne {vs:List Int} {L:Ls}:(zce vs L).length=L.length:=by simp [zce]
theorem zn5 {vs:List Int} {L:Ls} {p:Nat→Int→Bool}:∀ {i:Nat},(zqL vs L p i).length=L.length
 | 0=>zne
 | i+1=>by rw [zqL,List.length_set];exact zn5
theorem zwX {vs:List Int} {L:Ls} {p:Nat→Int→Bool} (h0:∀ v∈vs,0≤v):∀ {n j:Nat},n≤vs.length→(j:Int)∉vs.take n→(zqL vs L p n).getD j []=(zce vs L).getD j []
 | 0,j,_,_=>rfl
 | n+1,j,hn,hj=>by
  rw [List.take_succ_eq_append_getElem (by omega),List.mem_append,List.mem_singleton,not_or] at hj
  have e:vs.getD n 0=vs[n]:=zez (List.getElem?_eq_getElem (by omega))
  have hp:=h0 vs[n] (List.getElem_mem (by omega))
  rw [zqL,e,getD_set_ne (by omega)]
  exact zwX h0 (by omega) hj.1
theorem zAi {vs:List Int} {L:Ls} {p:Nat→Int→Bool} (nd:vs.Nodup) (hv:∀ v∈vs,0≤v∧v<L.length):∀ {n i:Nat} (hi:i<n) (hn:n≤vs.length),(zqL vs L p n).getD (vs[i]'(by omega)).toNat []=(atL L (vs[i]'(by omega))).filter (p i)
 | n+1,i,hi,hn=>by
  have e:vs.getD n 0=vs[n]:=zez (List.getElem?_eq_getElem (by omega))
  have hp:=hv vs[n] (List.getElem_mem (by omega))
  have hp2:=hv (vs[i]'(by omega)) (List.getElem_mem (by omega))
  rw [zqL,e]
  by_cases c1:i=n
  ·subst c1
   rw [zct (by rw [zn5];omega)]
  ·have hne:vs[n]≠vs[i]'(by omega):=fun q=>c1 ((List.getElem_inj nd).1 q).symm
   rw [getD_set_ne (by omega)]
   exact zAi nd hv (by omega) (by omega)
theorem zx0 {vs:List Int} {L:Ls} {p:Nat→Int→Bool} (nd:vs.Nodup) (h0:∀ v∈vs,0≤v) {i:Nat} (hi:i<vs.length):(zqL vs L p i).getD (vs[i]).toNat []=[]:=by
 have hp:=h0 vs[i] (List.getElem_mem hi)
 have he:((vs[i].toNat:Nat):Int)=vs[i]:=by omega
 rw [zwX h0 (by omega) (fun q=>by
  rw [he] at q
  obtain ⟨j,hj,e⟩:=List.mem_iff_getElem.1 q
  rw [List.getElem_take] at e
  have:=(List.getElem_inj nd).1 e
  simp at hj
  omega),zok,he,if_pos (List.getElem_mem hi)]
theorem zxE {c:Con} {l:Ds} {p:Nat→Int→Bool} (hR:RC c l.length) (h:∀ (i:Nat) (hi:i<c.vars.length),∀ x∈atL (lists l) c.vars[i],p i x=kp c (lists l) c.vars[i] x):zbT l (zqL c.vars (lists l) p c.vars.length)=zai c l:=by
 have hv:∀ v∈c.vars,0≤v∧v<(lists l).length:=fun v h=>by rw [zah];exact hR.b v h
 refine zly fun j hj x hx=>?_
 by_cases c1:(j:Int)∈c.vars
 ·obtain ⟨i,hi,e⟩:=List.mem_iff_getElem.1 c1
  have h1:=zAi (p:=p) hR.nd hv hi (Nat.le_refl _)
  rw [e,Int.toNat_natCast] at h1
  have hx2:x∈atL (lists l) c.vars[i]:=by rw [e,zs6,zcg hj];exact hx
  have h2:=h i hi x hx2
  rw [h1,List.mem_filter,h2,e]
  rw [e] at hx2
  exact ⟨fun q=>q.2,fun q=>⟨hx2,q⟩⟩
 ·rw [zwX (fun v h=>(hv v h).1) (Nat.le_refl _) (by rw [List.take_length];exact c1),zok,if_neg c1,zcg hj,zqY c1]
  simp [hx]
theorem zqt {vs:List Int} {L:Ls} {p:Nat→Int→Bool} (hb:∀ v:Int,(atL L v).length≤1000000) (h:∀ xs∈L,xs.length≤1000000):∀ {i:Nat},∀ xs∈zqL vs L p i,xs.length≤1000000
 | 0=>zlF h
 | i+1=>zlG (zqt hb h) (Nat.le_trans (List.length_filter_le _ _) (hb _))
theorem zvH {B:Nat} {H:List Ob} {u:V} {zs:List Int} (hu:LV B H u zs) (hz:zs.length≤1000000) :
  ∃ w1,(∀ nid,zit nid (H++[.row 1 []]) 1 8 (.own H.length 0 0 0) u=some (.own H.length 0 zs.length zs.length,w1))∧wr (H++[.row 1 []]) w1=H++[.row 1 (zs.map (V.int .i64))] ∧
   ∀ nid x,zit nid (H++[.row 1 (zs.map (V.int .i64))]) 1 8 (.own H.length 0 zs.length zs.length) (.sl 1 [iv x])=some (.own H.length 0 (zs.length+1) (zs.length+1),some (H.length,.row 1 (zs.map (V.int .i64)++[iv x]))):=by
 have hu2:LV B (H++[.row 1 []]) u zs:=hu.keep fun j r _ e=>za3 e
 have he:=hu2.elems
 have hs:src (H++[.row 1 []]) u=some (1,zs.map (V.int .i64)):=by
  rcases hu2 with rfl|⟨rfl,-⟩|⟨id,-,rfl,-⟩<;>exact he
 have h3:∀ nid x,zit nid (H++[.row 1 (zs.map (V.int .i64))]) 1 8 (.own H.length 0 zs.length zs.length) (.sl 1 [iv x])=some (.own H.length 0 (zs.length+1) (zs.length+1),some (H.length,.row 1 (zs.map (V.int .i64)++[iv x]))):=fun nid x=>zbj (by simp) (by simp) rfl (by simp) rfl (by omega) (by omega)
 by_cases c:zs=[]
 ·subst c
  refine ⟨none,fun nid=>?_,by simp,h3⟩
  unfold zit
  simp only [op1,zrF,hs]
  simp [zaF]
 ·refine ⟨some (H.length,.row 1 (zs.map (V.int .i64))),fun nid=>?_,by simp,h3⟩
  have:=zbj (nid:=nid) (id:=H.length) (z:=1) (b:=8) (n:=0) (m:=zs.length) (h:=H++[.row 1 []]) (xs:=[]) (y:=u) (ys:=zs.map (V.int .i64)) (by simp) rfl hs (by simpa using c) (by simp) (by omega) (by omega)
  simpa using this
theorem zqV.more {B oid:Nat} {H:List Ob} {X:List V} {G:Ls} (h1:H[oid]? = some (.row 1 X)) (hB:oid<B) (hH:B≤H.length) (g:zqV B H X G) (v:Nat) (F:List Int) (m:Nat) (hm:m=F.length) (R:List V) (hR:R=F.map (V.int .i64)) :
  zqV B (H.set oid (.row 1 (X.set v (.own H.length 0 m m)))++[.row 1 R]) (X.set v (.own H.length 0 m m)) (G.set v F)∧(H.set oid (.row 1 (X.set v (.own H.length 0 m m)))++[.row 1 R])[oid]? = some (.row 1 (X.set v (.own H.length 0 m m))):=by
 subst hm hR
 have lo:=(List.getElem?_eq_some_iff.1 h1).1
 refine ⟨(g.keep fun j r hj ej=>?_).set (.inr (zmL.own hH (by simp) ?_)),?_⟩
 ·have:=(List.getElem?_eq_some_iff.1 ej).1
  rw [List.getElem?_append_left (by simpa using this),List.getElem?_set_ne (by omega)]
  exact ej
 ·rw [List.getElem?_append_right (by simp)]
  simp
 ·rw [List.getElem?_append_left (by simpa using lo),List.getElem?_set_self lo]
theorem zuE {G:Ls} {i:Nat}:G.set i (G.getD i [])=G:=by
 by_cases h:i<G.length
 ·rw [List.getD,List.getElem?_eq_getElem h,Option.getD_some,List.set_getElem_self]
 ·rw [List.set_eq_of_length_le (by omega)]
theorem zEr {c:Con} {L:Ls} {q1:V} {i:Nat} {v:Int} (hvb:0≤v∧v<L.length) (hb:(atL L v).length≤1000000) (hL:L.length≤1000) (p:Int→Bool) (hp:∀ x∈atL L v,∀ h,acw C zhM [zaq c,lsV L,iv i,iv x] h=some (.ret (.bool (p x)),h)):∀ (n k:Nat) (H:List Ob) (X:List V) (G:Ls),k+n=(atL L v).length→H[0]? = some (.row 6 [zaq c])→H[2]? = some (.row 1 X)→zqV 3 H X G→G.length=L.length→(G.getD v.toNat []).length≤k →
  ∃ H' X',evw C y0 zj3 [(1,q1),(2,.ptr 0 0 0 1),(6,lsV L),(7,.own 2 0 L.length L.length),(8,iv i),(9,iv v),(10,iv k)] H =
   some (.ext 2,[(1,q1),(2,.ptr 0 0 0 1),(6,lsV L),(7,.own 2 0 L.length L.length),(8,iv i),(9,iv v),(10,iv (atL L v).length),(36,.bool false)],H')∧H'[0]? = some (.row 6 [zaq c])∧H'[2]? = some (.row 1 X')∧zqV 3 H' X' (G.set v.toNat (G.getD v.toNat []++((atL L v).drop k).filter p)):=by
 obtain ⟨xs,hxs⟩:∃ xs,xs=atL L v:=⟨_,rfl⟩
 have hat:=zo8 hvb.1 hvb.2
 rw [←hxs] at hat hb hp ⊢
 have hv0:=hvb.1
 have hv3:=hvb.2
 have hvn:v.toNat<L.length:=by omega
 intro n
 induction n with
 | zero=>
  intro k H X G hin h0 h2 g hG hk
  have:k=xs.length:=by omega
  subst this
  refine ⟨H,X,?_,h0,h2,?_⟩
  ·rw [zkU]
   simp [zeG,hat]
  ·rw [List.drop_length,List.filter_nil,List.append_nil,zuE];exact g
 | succ n ih=>
  intro k H X G hin h0 h2 g hG hk
  have hlt:k<xs.length:=by omega
  obtain ⟨x,hx⟩:∃ x,x=xs[k]:=⟨_,rfl⟩
  have hx1:xs[k]? = some x:=by simp [hlt,hx]
  have hx2:∀ h:k<xs.length,xs[k]'h=x:=fun _=>hx.symm
  have kp:=hp x (by rw [hx];exact List.getElem_mem hlt)
  have hi4:(k:Int)<xs.length:=by omega
  have hwr:=zac hlt (by omega)
  have l0:0<H.length:=(List.getElem?_eq_some_iff.1 h0).1
  have l2:2<H.length:=(List.getElem?_eq_some_iff.1 h2).1
  have h0g:∀ h:0<H.length,H[0]'h=.row 6 [zaq c]:=fun _=>(List.getElem?_eq_some_iff.1 h0).2
  have h2g:∀ h:2<H.length,H[2]'h=.row 1 X:=fun _=>(List.getElem?_eq_some_iff.1 h2).2
  have h2t:∀ t,(H++t)[2]? = some (.row 1 X):=fun t=>za3 h2
  have hXl:X.length=L.length:=by rw [g.n];exact hG
  rw [List.drop_eq_getElem_cons hlt,←hx]
  cases hc:p x with
  | false=>
   rw [hc] at kp
   obtain ⟨H',X',ih,r1,r2,r3⟩:=ih (k+1) H X G (by omega) h0 h2 g hG (by omega)
   simp only [Int.natCast_add,Int.cast_ofNat_Int] at ih
   rw [List.filter_cons_of_neg (by simpa using hc)]
   refine ⟨H',X',?_,r1,r2,r3⟩
   rw [←ih,zkU]
   simp [zeG,hat,hx1,hx2,hlt,hi4,hwr,kp,h0,l0,h0g]
  | true=>
   rw [hc] at kp
   rw [List.filter_cons_of_pos (by simpa using hc)]
   obtain ⟨u,hu,hlv⟩:=g.get (j:=v.toNat) (by rw [hG];omega)
   have hGv:G.getD v.toNat []=G[v.toNat]'(by rw [hG];omega):=zez (List.getElem?_eq_getElem (by rw [hG];omega))
   rw [←hGv] at hlv
   obtain ⟨zs,hzs⟩:∃ zs,zs=G.getD v.toNat []:=⟨_,rfl⟩
   rw [←hzs] at hlv hk ⊢
   have hX2:v.toNat<X.length:=by omega
   have hu2:∀ h:v.toNat<X.length,X[v.toNat]'h=u:=fun h=>(List.getElem?_eq_some_iff.1 hu).2
   have hov:∀ w,over u 0 [w]=some w:=fun w=>hlv.over
   have hc1:u.cells=[u]:=by rcases hlv with rfl|⟨rfl,-⟩|⟨id,-,rfl,-⟩<;>rfl
   obtain ⟨w1,a1,a2,a3⟩:=zvH hlv (by omega)
   have bb:zii (.int .i64 0) [iv x]=some (.sl 1 [iv x]):=rfl
   obtain ⟨H2,hH2⟩:∃ H2,H2=H.set 2 (.row 1 (X.set v.toNat (.own H.length 0 (zs.length+1) (zs.length+1))))++[.row 1 (zs.map (V.int .i64)++[iv x])]:=⟨_,rfl⟩
   have gm:=zqV.more (B:=3) h2 (by omega) (by omega) g v.toNat (zs++[x]) (zs.length+1) (by simp) (zs.map (V.int .i64)++[iv x]) (by simp)
   rw [←hH2] at gm
   have hsd:(G.set v.toNat (zs++[x])).getD v.toNat []=zs++[x]:=zct (by rw [hG];omega)
   obtain ⟨H',X',ih,r1,r2,r3⟩:=ih (k+1) H2 _ (G.set v.toNat (zs++[x])) (by omega) (by rw [hH2,List.getElem?_append_left (by simp;omega),List.getElem?_set_ne (by omega)];exact h0) gm.2 gm.1 (by rw [List.length_set];exact hG) (by rw [hsd];simp;omega)
   rw [hsd,List.set_set,List.append_assoc,List.singleton_append] at r3
   simp only [Int.natCast_add,Int.cast_ofNat_Int] at ih
   refine ⟨H',X',?_,r1,r2,r3⟩
   have hwH:∀ t o,wr (H++t) (some (2,o))=H.set 2 o++t:=fun t o=>by rw [zfi (by simp;omega),List.set_append_left _ _ l2]
   have hwE:∀ r o,wr (H++[r]) (some (H.length,o))=H++[o]:=fun r o=>by rw [zfi (by simp),List.set_append_right _ _ (Nat.le_refl _)];simp
   rw [←ih,hH2,zkU]
   simp [zeG,hat,hx1,hx2,hlt,hi4,hwr,kp,h0,l0,h0g,h2,h2g,h2t,l2,hu,hu2,hX2,hXl,hvn,hv0,hv3,hov,hc1,a1,a2,a3,bb,hwH,hwE]
def zqJ (L:Ls) (u v t:Int) (i:Nat) (x:Int):Bool:=if i=0 then zAZ [x] (atL L v) (atL L t) else if i=1 then zAZ (atL L u) [x] (atL L t) else zAZ (atL L u) (atL L v) [x]
theorem zqV.none {B:Nat} {h:List Ob} {vs:List Int} {L:Ls}:zqV B h (zd6 vs L) (zce vs L):=⟨by simp [zd6,zce],fun j v zs h1 h2=>by
 unfold zd6 at h1
 unfold zce at h2
 rw [List.getElem?_mapIdx] at h1 h2
 cases e:L[j]? with
 | none=>rw [e] at h1;cases h1
 | some x=>
  rw [e] at h1 h2
  simp only [Option.map_some,Option.some.injEq] at h1 h2
  subst h1 h2
  by_cases c:(j:Int)∈vs
  ·rw [if_pos c,if_pos c];exact .inr (.inl ⟨rfl,rfl⟩)
  ·rw [if_neg c,if_neg c];exact .inl rfl⟩
theorem zDW {c:Con} {L:Ls} {q1:V} {u v t:Int} (hvs:c.vars=[u,v,t]) (nd:c.vars.Nodup) (hv:∀ v∈c.vars,0≤v∧v<L.length) (hs:∀ v∈c.vars,∀ x∈atL L v,-1048576≤x∧x≤1048576) (hb:∀ v:Int,(atL L v).length≤1000000) (hL:L.length≤1000):∀ (n i:Nat) (H:List Ob) (X:List V),i+n=3→H[0]? = some (.row 6 [zaq c])→H[2]? = some (.row 1 X)→zqV 3 H X (zqL c.vars L (zqJ L u v t) i) →
  ∃ H' X',evw C y0 zji [(1,q1),(2,.ptr 0 0 0 1),(6,lsV L),(7,.own 2 0 L.length L.length),(8,iv i)] H =
   some (.ext 0,[(1,q1),(2,.ptr 0 0 0 1),(6,lsV L),(7,.own 2 0 L.length L.length),(8,iv 3),(22,.bool false)],H')∧H'[2]? = some (.row 1 X')∧zqV 3 H' X' (zqL c.vars L (zqJ L u v t) 3):=by
 intro n
 induction n with
 | zero=>
  intro i H X hin h0 h2 g
  have:i=3:=by omega
  subst this
  refine ⟨H,X,?_,h2,g⟩
  rw [zov]
  simp [zhr]
 | succ n ih=>
  intro i H X hin h0 h2 g
  have hl3:c.vars.length=3:=by rw [hvs];rfl
  have hi3:i<3:=by omega
  have hlt:i<c.vars.length:=by omega
  obtain ⟨w,hw⟩:∃ w,w=c.vars[i]:=⟨_,rfl⟩
  have hv1:c.vars[i]? = some w:=by simp [hlt,hw]
  have hv2:∀ h:i<c.vars.length,c.vars[i]'h=w:=fun _=>hw.symm
  have hwm:w∈c.vars:=by rw [hw];exact List.getElem_mem hlt
  have hi4:(i:Int)<c.vars.length:=by omega
  have hi5:(i:Int)<3:=by omega
  have hwr:=zac hi3 (by omega)
  have l0:0<H.length:=(List.getElem?_eq_some_iff.1 h0).1
  have h0g:∀ h:0<H.length,H[0]'h=.row 6 [zaq c]:=fun _=>(List.getElem?_eq_some_iff.1 h0).2
  have hnil:=zx0 (L:=L) (p:=zqJ L u v t) nd (fun v h=>(hv v h).1) hlt
  rw [←hw] at hnil
  obtain ⟨H1,X1,e1,r0,r1,r2⟩:=zEr (c:=c) (L:=L) (q1:=q1) (i:=i) (hv w hwm) (hb w) hL (zqJ L u v t i) (fun x hx h=>zyK hvs hv hs (fun v _=>hb v) x (hs w hwm x hx) i hi3 h) (atL L w).length 0 H X _ (by omega) h0 h2 g zn5 (by rw [hnil];simp)
  simp only [List.drop_zero,hnil,List.nil_append,Int.cast_ofNat_Int] at e1 r2
  have hG:zqL c.vars L (zqJ L u v t) (i+1)=(zqL c.vars L (zqJ L u v t) i).set w.toNat ((atL L w).filter (zqJ L u v t i)):=by
   rw [zqL,zez hv1]
  rw [←hG] at r2
  obtain ⟨H',X',ih,s1,s2⟩:=ih (i+1) H1 X1 (by omega) r0 r1 r2
  simp only [Int.natCast_add,Int.cast_ofNat_Int] at ih
  refine ⟨H',X',?_,s1,s2⟩
  rw [←ih,zov]
  simp [zhr,hlt,hv1,hv2,hi4,hi5,hwr,h0,l0,h0g,e1]
theorem zDc {xs:List Int} {y:Int}:(xs.any fun z=>y==z)=xs.contains y:=by
 rw [Bool.eq_iff_iff,List.any_eq_true,List.contains_iff_mem]
 exact ⟨fun ⟨z,h,e⟩=>by rw [beq_iff_eq.1 e];exact h,fun h=>⟨y,h,by simp⟩⟩
theorem zyV {c:Con} {l:Ds} (hc:c150 c) (hk:c.kind=2) (hr:zaC c l.length=true) (ok:okL l) (hn:l.length≤16) (h:List Ob):acw C zkP [zaq c,dsV l] h=some (.ret (.tup [dsV (zai c l),iv 0]),h):=by
 have hl:zmK l:=zo3 ok (by omega)
 have hR:=RC.of hr
 have h3:=hR.w.p hk
 obtain ⟨u,v,t,hvs⟩:∃ u v t,c.vars=[u,v,t]:=by
  match e:c.vars,h3 with
  | [u,v,t],_=>exact ⟨u,v,t,rfl⟩
 have kr:∀ h,acw C zaQ [zaq c,dsV l,.sl 1 [iv 2]] h=some (.ret (.bool true),h):=fun h=>zgZ (ks:=[2]) hc hl (by simp) (by simp [hk]) hr ok h
 have kL:=fun h=>zgL l hl h
 have hv:∀ v∈c.vars,0≤v∧v<(lists l).length:=fun v h=>by rw [zah];exact hR.b v h
 have hs:∀ v∈c.vars,∀ x∈atL (lists l) v,-1048576≤x∧x≤1048576:=fun v hvm x hx=>by
  rw [zbn (hR.b v hvm)] at hx
  exact zeM (ok _ (List.getElem_mem _)) hx
 have v9:=hR.v8.1
 have kN:=fun h=>ziV (c:=c) (L:=lists l) (by omega) (by rw [zah];omega) hv h
 rw [zah] at kN
 have bb:zii (.int .i64 0) [iv 2]=some (.sl 1 [iv 2]):=rfl
 obtain ⟨H',X',e,r1,r2⟩:=zDW (c:=c) (L:=lists l) (q1:=dsV l) hvs hR.nd hv hs zbL (by rw [zah];omega) 3 0 [.row 6 [zaq c],.row 6 [zaq c],.row 1 (zd6 c.vars (lists l))] (zd6 c.vars (lists l)) (by omega) rfl rfl zqV.none
 rw [zah] at e
 simp only [Int.cast_ofNat_Int] at e
 have hlen:(zqL c.vars (lists l) (zqJ (lists l) u v t) 3).length=l.length:=by rw [zn5,zah]
 have hz:zj4 H' [dsV l,.own 2 0 l.length l.length]=some [dsV l,lsV (zqL c.vars (lists l) (zqJ (lists l) u v t) 3)]:=zpT r1 r2 hlen.symm
 have kK:=fun h=>zdv l hl (zqL c.vars (lists l) (zqJ (lists l) u v t) 3) hlen (zqt zbL zbr) h
 have hst:zbT l (zqL c.vars (lists l) (zqJ (lists l) u v t) 3)=zai c l:=by
  have:=zxE (p:=zqJ (lists l) u v t) hR fun i hi x hx=>?_
  ·rw [h3] at this;exact this
  ·rw [zr8 (List.getElem_mem hi),if_neg (by omega),if_neg (by omega),if_pos hk]
   have nd:=hR.nd
   rw [hvs] at nd
   simp only [List.nodup_cons,List.mem_cons,List.not_mem_nil,or_false,not_or] at nd
   have hi3:i=0∨i=1∨i=2:=by rw [hvs] at hi;simp at hi;omega
   unfold zvY zqJ zAZ
   rcases hi3 with rfl|rfl|rfl
   ·simp only [hvs,List.getElem_cons_zero,List.getD_cons_zero,List.getD_cons_succ,if_true]
    simp only [List.any_cons,List.any_nil,Bool.or_false,zDc]
   ·simp only [hvs,List.getElem_cons_zero,List.getElem_cons_succ,List.getD_cons_zero,List.getD_cons_succ,if_true]
    rw [if_neg (by omega),if_neg (fun e=>nd.1.1 e.symm)]
    simp only [List.any_cons,List.any_nil,Bool.or_false,zDc]
   ·simp only [hvs,List.getElem_cons_zero,List.getElem_cons_succ,List.getD_cons_zero,List.getD_cons_succ]
    rw [if_neg (by omega),if_neg (by omega),if_neg (fun e=>nd.1.2 e.symm),if_neg (fun e=>nd.2.1 e.symm)]
    simp only [List.any_cons,List.any_nil,Bool.or_false]
 rw [hst] at kK
 refine zar (v:=.tup [dsV (zai c l),iv 0]) (CT zvo) rfl rfl (fun _=>rfl) (by simp) ⟨H'.map fun _=>.dead,?_⟩
 simp [zaa,znd,zrf,kr,kL,kN,e,hz,kK,bb]
def zxn (a b x:Int):Bool:=decide (a≤x)&&decide (x≤b)
theorem zB5 {B:Nat} {H:List Ob} {v:V} {zs:List Int} (a b:Int) (hv:LV B H v zs) (hn:zs.length≤1000000):∀ (m i:Nat) (acc:List Int),i+m=zs.length→acc.length≤i →
  evw C y0 zgr [(0,v),(1,iv a),(2,iv b),(7,.own H.length 0 acc.length acc.length),(8,iv i)] (H++[.row 1 (acc.map (V.int .i64))]) =
   some (.ext 0,[(0,v),(1,iv a),(2,iv b),(7,.own H.length 0 (acc++(zs.drop i).filter (zxn a b)).length (acc++(zs.drop i).filter (zxn a b)).length),(8,iv zs.length),(13,.bool false)],H++[.row 1 ((acc++(zs.drop i).filter (zxn a b)).map (V.int .i64))]):=by
 intro m
 induction m with
 | zero=>
  intro i acc hin ha
  have:i=zs.length:=by omega
  subst this
  have hl:=(hv.keep (h':=H++[.row 1 (acc.map (V.int .i64))]) fun j r _ e=>za3 e).len
  rw [List.drop_length,List.filter_nil,List.append_nil,zgS]
  simp [zbY,hl]
 | succ m ih=>
  intro i acc hin ha
  have hlt:i<zs.length:=by omega
  have hi4:(i:Int)<zs.length:=by omega
  have hwr:=zac hlt (by omega)
  obtain ⟨x,hx⟩:∃ x,x=zs[i]:=⟨_,rfl⟩
  have hx1:zs[i]? = some x:=by simp [hlt,hx]
  have hv2:=hv.keep (h':=H++[.row 1 (acc.map (V.int .i64))]) fun j r _ e=>za3 e
  have hl:=hv2.len
  obtain ⟨P,p1,p2⟩:=hv2.at_ hx1
  rw [List.drop_eq_getElem_cons hlt,←hx]
  cases c:zxn a b x with
  | true=>
   have c2:a≤x∧x≤b:=by unfold zxn at c;simpa using c
   rw [List.filter_cons_of_pos (by simpa using c)]
   have ih:=ih (i+1) (acc++[x]) (by omega) (by simp;omega)
   rw [List.append_assoc,List.singleton_append] at ih
   simp only [Int.natCast_add,Int.cast_ofNat_Int,List.map_append (l₁:=acc) (l₂:=[x]),List.map_cons,List.map_nil] at ih
   have ap:∀ nid,zit nid (H++[.row 1 (acc.map (V.int .i64))]) 1 8 (.own H.length 0 acc.length acc.length) (.sl 1 [iv x])=some (.own H.length 0 (acc.length+1) (acc.length+1),some (H.length,.row 1 (acc.map (V.int .i64)++[iv x]))):=fun nid=>zbj (by simp) (by simp) rfl (by simp) rfl (by omega) (by omega)
   have bb:zii (.int .i64 0) [iv x]=some (.sl 1 [iv x]):=rfl
   have hl2:(acc++[x]).length=acc.length+1:=by simp
   rw [hl2] at ih
   rw [←ih,zgS]
   simp [zbY,hi4,hwr,hl,p1,p2,c2.1,c2.2,ap,bb]
  | false=>
   rw [List.filter_cons_of_neg (by simpa using c)]
   have ih:=ih (i+1) acc (by omega) (by omega)
   simp only [Int.natCast_add,Int.cast_ofNat_Int] at ih
   rw [←ih,zgS]
   by_cases c1:a≤x
   ·have c2:¬x≤b:=fun h=>by unfold zxn at c;simp [c1,h] at c
    simp [zbY,hi4,hwr,hl,p1,p2,c1,c2]
   ·simp [zbY,hi4,hwr,hl,p1,p2,c1]
theorem zot {B:Nat} {v:V} {zs:List Int} (a b:Int) (hn:zs.length≤1000000) (h:List Ob) (hv:LV B h v zs) :
  acw C zd4 [v,iv a,iv b] h=some (.ret (.own h.length 0 (zs.filter (zxn a b)).length (zs.filter (zxn a b)).length),h++[.row 1 ((zs.filter (zxn a b)).map (V.int .i64))]):=by
 have e:=zB5 a b hv hn zs.length 0 [] (by omega) (by simp)
 simp only [List.drop_zero,List.nil_append,Int.cast_ofNat_Int,List.length_nil,List.map_nil] at e
 rw [zbd (CT zsX) rfl]
 simp [zaa,zjV,znr,e]
theorem zAE {zs:List Int} {x:Int}:(((zs.filter (zxn x x)).length:Int)==0)=!zs.contains x:=by
 rw [Bool.eq_iff_iff,beq_iff_eq,Bool.not_eq_true',Bool.eq_false_iff,ne_eq,List.contains_iff_mem]
 have h:(zs.filter (zxn x x)).length=0↔¬x∈zs:=by
  rw [List.length_eq_zero_iff,List.filter_eq_nil_iff]
  constructor
  ·intro h hx
   exact h x hx (by simp [zxn])
  ·intro h y hy e
   unfold zxn at e
   simp only [Bool.and_eq_true,decide_eq_true_eq] at e
   have:y=x:=by omega
   exact h (this▸hy)
 exact ⟨fun q=>h.1 (by omega),fun q=>by have:=h.2 q;omega⟩
theorem zxA (nums:List Int) (i n:Int) (h:List Ob):acw C zlL [zab nums,iv i,iv n] h=some (.ret (.bool (ziy nums i n)),h):=by
 refine zar (v:=.bool _) (CT zyN) rfl rfl (fun _=>rfl) (by simp) ⟨[],?_⟩
 unfold ziy
 by_cases c1:0≤i
 ·by_cases c2:i<nums.length
  ·have c3:i.toNat<nums.length:=by omega
   have e1:nums[i.toNat]? = some nums[i.toNat]:=List.getElem?_eq_getElem c3
   have e2:nums.getD i.toNat 0=nums[i.toNat]:=zez e1
   rw [e2]
   have e3:=zEp (l:=nums) c1 c3
   simp [zaa,zlE,zn9,c1,c2,e3]
  ·simp [zaa,zlE,zn9,c1,c2]
 ·simp [zaa,zlE,zn9,c1]
section
variable {c:Con} {q1 q6 q9 q10:V} {a b:List Int}
theorem el_l0 (hb:b.length≤1000000) {i:Nat} {x:Int} (hx:a[i]? = some x) (H:List Ob) (h0:H[0]? = some (.row 6 [zaq c])):∀ (n k:Nat) (is:Bool),k+n=b.length →
  evw C y0 zjw [(1,q1),(2,.ptr 0 0 0 1),(6,q6),(7,zab a),(8,zab b),(9,q9),(10,q10),(11,iv i),(12,.bool is),(13,iv k)] H =
   some (.ext 2,[(1,q1),(2,.ptr 0 0 0 1),(6,q6),(7,zab a),(8,zab b),(9,q9),(10,q10),(11,iv i),(12,.bool (is||(b.drop k).any fun y=>ziy c.nums x y)),(13,iv b.length),(50,.bool false)],H):=by
 have l0:0<H.length:=(List.getElem?_eq_some_iff.1 h0).1
 have h0g:∀ h:0<H.length,H[0]'h=.row 6 [zaq c]:=fun _=>(List.getElem?_eq_some_iff.1 h0).2
 obtain ⟨hi,hx'⟩:=List.getElem?_eq_some_iff.1 hx
 have hx2:∀ h:i<a.length,a[i]'h=x:=fun _=>hx'
 have hi4:(i:Int)<a.length:=by omega
 intro n
 induction n with
 | zero=>
  intro k is hin
  have:k=b.length:=by omega
  subst this
  rw [List.drop_length,zoO]
  simp [zhp]
 | succ n ih=>
  intro k is hin
  have hlt:k<b.length:=by omega
  obtain ⟨y,hy⟩:∃ y,y=b[k]:=⟨_,rfl⟩
  have hy1:b[k]? = some y:=by simp [hlt,hy]
  have hy2:∀ h:k<b.length,b[k]'h=y:=fun _=>hy.symm
  have hk4:(k:Int)<b.length:=by omega
  have hwr:=zac hlt (by omega)
  have ka:=fun h=>zxA c.nums x y h
  have ih:=ih (k+1) (is||ziy c.nums x y) (by omega)
  simp only [Int.natCast_add,Int.cast_ofNat_Int] at ih
  rw [List.drop_eq_getElem_cons hlt,List.any_cons,←hy,←Bool.or_assoc,←ih,zoO]
  cases is<;>simp [zhp,hlt,hy1,hy2,hk4,hwr,hx,hx2,hi,hi4,h0,l0,h0g,ka]
theorem el_l2 (ha:a.length≤1000000) {k:Nat} {y:Int} (hy:b[k]? = some y) (H:List Ob) (h0:H[0]? = some (.row 6 [zaq c])):∀ (n i:Nat) (is:Bool),i+n=a.length →
  evw C y0 zj0 [(1,q1),(2,.ptr 0 0 0 1),(6,q6),(7,zab a),(8,zab b),(9,q9),(10,q10),(14,iv k),(15,.bool is),(16,iv i)] H =
   some (.ext 6,[(1,q1),(2,.ptr 0 0 0 1),(6,q6),(7,zab a),(8,zab b),(9,q9),(10,q10),(14,iv k),(15,.bool (is||(a.drop i).any fun x=>ziy c.nums x y)),(16,iv a.length),(84,.bool false)],H):=by
 have l0:0<H.length:=(List.getElem?_eq_some_iff.1 h0).1
 have h0g:∀ h:0<H.length,H[0]'h=.row 6 [zaq c]:=fun _=>(List.getElem?_eq_some_iff.1 h0).2
 obtain ⟨hk,hy'⟩:=List.getElem?_eq_some_iff.1 hy
 have hy2:∀ h:k<b.length,b[k]'h=y:=fun _=>hy'
 have hk4:(k:Int)<b.length:=by omega
 intro n
 induction n with
 | zero=>
  intro i is hin
  have:i=a.length:=by omega
  subst this
  rw [List.drop_length,zoD]
  simp [zhj]
 | succ n ih=>
  intro i is hin
  have hlt:i<a.length:=by omega
  obtain ⟨x,hx⟩:∃ y,y=a[i]:=⟨_,rfl⟩
  have hx1:a[i]? = some x:=by simp [hlt,hx]
  have hx2:∀ h:i<a.length,a[i]'h=x:=fun _=>hx.symm
  have hi4:(i:Int)<a.length:=by omega
  have hwr:=zac hlt (by omega)
  have ka:=fun h=>zxA c.nums x y h
  have ih:=ih (i+1) (is||ziy c.nums x y) (by omega)
  simp only [Int.natCast_add,Int.cast_ofNat_Int] at ih
  rw [List.drop_eq_getElem_cons hlt,List.any_cons,←hx,←Bool.or_assoc,←ih,zoD]
  cases is<;>simp [zhj,hlt,hx1,hx2,hi4,hwr,hy,hy2,hk,hk4,h0,l0,h0g,ka]
theorem el_l1 (ha:a.length≤1000000) (hb:b.length≤1000000) (r2:Ob):∀ (n i:Nat) (F:List Int),i+n=a.length→F.length≤i →
  evw C y0 zjU [(1,q1),(2,.ptr 0 0 0 1),(6,q6),(7,zab a),(8,zab b),(9,.own 1 0 F.length F.length),(10,q10),(11,iv i)] [.row 6 [zaq c],.row 1 (F.map (V.int .i64)),r2] =
   some (.ext 0,[(1,q1),(2,.ptr 0 0 0 1),(6,q6),(7,zab a),(8,zab b),(9,.own 1 0 (F++(a.drop i).filter fun x=>b.any fun y=>ziy c.nums x y).length (F++(a.drop i).filter fun x=>b.any fun y=>ziy c.nums x y).length),(10,q10),(11,iv a.length),(44,.bool false)],[.row 6 [zaq c],.row 1 ((F++(a.drop i).filter fun x=>b.any fun y=>ziy c.nums x y).map (V.int .i64)),r2]):=by
 intro n
 induction n with
 | zero=>
  intro i F hin hF
  have:i=a.length:=by omega
  subst this
  rw [List.drop_length,List.filter_nil,List.append_nil,zk0]
  simp [zeS]
 | succ n ih=>
  intro i F hin hF
  have hlt:i<a.length:=by omega
  obtain ⟨x,hx⟩:∃ y,y=a[i]:=⟨_,rfl⟩
  have hx1:a[i]? = some x:=by simp [hlt,hx]
  have hx2:∀ h:i<a.length,a[i]'h=x:=fun _=>hx.symm
  have hi4:(i:Int)<a.length:=by omega
  have hwr:=zac hlt (by omega)
  have e0:=el_l0 (c:=c) (q1:=q1) (q6:=q6) (q9:=.own 1 0 F.length F.length) (q10:=q10) hb hx1 [.row 6 [zaq c],.row 1 (F.map (V.int .i64)),r2] rfl b.length 0 false (by omega)
  simp only [Int.cast_ofNat_Int,List.drop_zero,Bool.false_or] at e0
  rw [List.drop_eq_getElem_cons hlt,←hx]
  cases hc:b.any fun y=>ziy c.nums x y with
  | true=>
   rw [hc] at e0
   rw [List.filter_cons_of_pos (by simpa using hc)]
   have ih:=ih (i+1) (F++[x]) (by omega) (by simp;omega)
   rw [List.append_assoc,List.singleton_append] at ih
   simp only [Int.natCast_add,Int.cast_ofNat_Int,List.map_append (l₁:=F) (l₂:=[x]),List.map_cons,List.map_nil] at ih
   have ap:∀ nid,zit nid [.row 6 [zaq c],.row 1 (F.map (V.int .i64)),r2] 1 8 (.own 1 0 F.length F.length) (.sl 1 [iv x])=some (.own 1 0 (F.length+1) (F.length+1),some (1,.row 1 (F.map (V.int .i64)++[iv x]))):=fun nid=>zbj rfl (by simp) rfl (by simp) rfl (by omega) (by omega)
   have bb:zii (.int .i64 0) [iv x]=some (.sl 1 [iv x]):=rfl
   have hl2:(F++[x]).length=F.length+1:=by simp
   rw [hl2] at ih
   rw [←ih,zk0]
   simp [zeS,hlt,hx1,hx2,hi4,hwr,e0,ap,bb]
  | false=>
   rw [hc] at e0
   rw [List.filter_cons_of_neg (by simpa using hc)]
   have ih:=ih (i+1) F (by omega) (by omega)
   simp only [Int.natCast_add,Int.cast_ofNat_Int] at ih
   rw [←ih,zk0]
   simp [zeS,hlt,hx1,hx2,hi4,hwr,e0]
theorem el_l3 (ha:a.length≤1000000) (hb:b.length≤1000000) (r1:Ob):∀ (n i:Nat) (F:List Int),i+n=b.length→F.length≤i →
  evw C y0 zjO [(1,q1),(2,.ptr 0 0 0 1),(6,q6),(7,zab a),(8,zab b),(9,q9),(10,.own 2 0 F.length F.length),(14,iv i)] [.row 6 [zaq c],r1,.row 1 (F.map (V.int .i64))] =
   some (.ext 4,[(1,q1),(2,.ptr 0 0 0 1),(6,q6),(7,zab a),(8,zab b),(9,q9),(10,.own 2 0 (F++(b.drop i).filter fun y=>a.any fun x=>ziy c.nums x y).length (F++(b.drop i).filter fun y=>a.any fun x=>ziy c.nums x y).length),(14,iv b.length),(78,.bool false)],[.row 6 [zaq c],r1,.row 1 ((F++(b.drop i).filter fun y=>a.any fun x=>ziy c.nums x y).map (V.int .i64))]):=by
 intro n
 induction n with
 | zero=>
  intro i F hin hF
  have:i=b.length:=by omega
  subst this
  rw [List.drop_length,List.filter_nil,List.append_nil,zli]
  simp [zeP]
 | succ n ih=>
  intro i F hin hF
  have hlt:i<b.length:=by omega
  obtain ⟨x,hx⟩:∃ y,y=b[i]:=⟨_,rfl⟩
  have hx1:b[i]? = some x:=by simp [hlt,hx]
  have hx2:∀ h:i<b.length,b[i]'h=x:=fun _=>hx.symm
  have hi4:(i:Int)<b.length:=by omega
  have hwr:=zac hlt (by omega)
  have e0:=el_l2 (c:=c) (q1:=q1) (q6:=q6) (q9:=q9) (q10:=.own 2 0 F.length F.length) ha hx1 [.row 6 [zaq c],r1,.row 1 (F.map (V.int .i64))] rfl a.length 0 false (by omega)
  simp only [Int.cast_ofNat_Int,List.drop_zero,Bool.false_or] at e0
  rw [List.drop_eq_getElem_cons hlt,←hx]
  cases hc:a.any fun y=>ziy c.nums y x with
  | true=>
   rw [hc] at e0
   rw [List.filter_cons_of_pos (by simpa using hc)]
   have ih:=ih (i+1) (F++[x]) (by omega) (by simp;omega)
   rw [List.append_assoc,List.singleton_append] at ih
   simp only [Int.natCast_add,Int.cast_ofNat_Int,List.map_append (l₁:=F) (l₂:=[x]),List.map_cons,List.map_nil] at ih
   have ap:∀ nid,zit nid [.row 6 [zaq c],r1,.row 1 (F.map (V.int .i64))] 1 8 (.own 2 0 F.length F.length) (.sl 1 [iv x])=some (.own 2 0 (F.length+1) (F.length+1),some (2,.row 1 (F.map (V.int .i64)++[iv x]))):=fun nid=>zbj rfl (by simp) rfl (by simp) rfl (by omega) (by omega)
   have bb:zii (.int .i64 0) [iv x]=some (.sl 1 [iv x]):=rfl
   have hl2:(F++[x]).length=F.length+1:=by simp
   rw [hl2] at ih
   rw [←ih,zli]
   simp [zeP,hlt,hx1,hx2,hi4,hwr,e0,ap,bb]
  | false=>
   rw [hc] at e0
   rw [List.filter_cons_of_neg (by simpa using hc)]
   have ih:=ih (i+1) F (by omega) (by omega)
   simp only [Int.natCast_add,Int.cast_ofNat_Int] at ih
   rw [←ih,zli]
   simp [zeP,hlt,hx1,hx2,hi4,hwr,e0]
end
theorem zEE {c:Con} {l:Ds} {u v:Int} (hvs:c.vars=[u,v]) (hk:c.kind=4) (hR:RC c l.length) :
  zbT l (((lists l).set u.toNat ((atL (lists l) u).filter fun x=>(atL (lists l) v).any fun y=>ziy c.nums x y)).set v.toNat ((atL (lists l) v).filter fun y=>(atL (lists l) u).any fun x=>ziy c.nums x y))=zai c l:=by
 have hub:=hR.b u (by rw [hvs];simp)
 have hvb:=hR.b v (by rw [hvs];simp)
 have nd:=hR.nd
 rw [hvs] at nd
 have huv:u≠v:=by simpa using nd
 refine zly fun j hj x hx=>?_
 have hx2:x∈atL (lists l) (j:Int):=by rw [zs6,zcg hj];exact hx
 by_cases c1:(j:Int)=v
 ·have e1:v.toNat=j:=by omega
  rw [e1,zct (by rw [List.length_set,zah];exact hj),zr8 (by rw [hvs,c1];simp),if_neg (by omega),if_neg (by omega),if_neg (by omega),if_pos hk]
  unfold ztB
  simp only [hvs,List.getD_cons_zero,List.getD_cons_succ]
  rw [if_neg (by omega),List.mem_filter]
  rw [c1] at hx2
  exact ⟨fun q=>q.2,fun q=>⟨hx2,q⟩⟩
 ·rw [getD_set_ne (by omega)]
  by_cases c2:(j:Int)=u
  ·have e1:u.toNat=j:=by omega
   rw [e1,zct (by rw [zah];exact hj),zr8 (by rw [hvs,c2];simp),if_neg (by omega),if_neg (by omega),if_neg (by omega),if_pos hk]
   unfold ztB
   simp only [hvs,List.getD_cons_zero,List.getD_cons_succ]
   rw [if_pos c2,List.mem_filter]
   rw [c2] at hx2
   exact ⟨fun q=>q.2,fun q=>⟨hx2,q⟩⟩
  ·rw [getD_set_ne (by omega),zcg hj,zqY (by rw [hvs];simp [c1,c2])]
   simp [hx]
theorem zyE {c:Con} {l:Ds} (hc:c150 c) (hk:c.kind=4) (hr:zaC c l.length=true) (ok:okL l) (hn:l.length≤16) (h:List Ob):acw C zku [zaq c,dsV l] h=some (.ret (.tup [dsV (zai c l),iv 0]),h):=by
 have hl:zmK l:=zo3 ok (by omega)
 have hR:=RC.of hr
 have h2:=hR.w.e hk
 obtain ⟨u,v,hvs⟩:∃ u v,c.vars=[u,v]:=by
  match e:c.vars,h2 with
  | [u,v],_=>exact ⟨u,v,rfl⟩
 have kr:∀ h,acw C zaQ [zaq c,dsV l,.sl 1 [iv 4]] h=some (.ret (.bool true),h):=fun h=>zgZ (ks:=[4]) hc hl (by simp) (by simp [hk]) hr ok h
 have kL:=fun h=>zgL l hl h
 have hub:=hR.b u (by rw [hvs];simp)
 have hvb:=hR.b v (by rw [hvs];simp)
 have nd:=hR.nd
 rw [hvs] at nd
 have huv:u≠v:=by simpa using nd
 have au:=zo8 (L:=lists l) hub.1 (by rw [zah];exact hub.2)
 have av:=zo8 (L:=lists l) hvb.1 (by rw [zah];exact hvb.2)
 have bb:zii (.int .i64 0) [iv 4]=some (.sl 1 [iv 4]):=rfl
 have x0:c.vars[0]? = some u:=by rw [hvs];rfl
 have x1:c.vars[1]? = some v:=by rw [hvs];rfl
 have g0:∀ h:0<c.vars.length,c.vars[0]'h=u:=fun _=>(List.getElem?_eq_some_iff.1 x0).2
 have g1:∀ h:1<c.vars.length,c.vars[1]'h=v:=fun _=>(List.getElem?_eq_some_iff.1 x1).2
 have n0:0<c.vars.length:=by rw [hvs];simp
 have n1:1<c.vars.length:=by rw [hvs];simp
 obtain ⟨F,hF⟩:∃ F,F=(atL (lists l) u).filter fun x=>(atL (lists l) v).any fun y=>ziy c.nums x y:=⟨_,rfl⟩
 obtain ⟨S,hS⟩:∃ S,S=(atL (lists l) v).filter fun y=>(atL (lists l) u).any fun x=>ziy c.nums x y:=⟨_,rfl⟩
 have e1:=el_l1 (c:=c) (q1:=dsV l) (q6:=lsV (lists l)) (q10:=.own 2 0 0 0) (a:=atL (lists l) u) (b:=atL (lists l) v) (zbL _) (zbL _) (.row 1 []) (atL (lists l) u).length 0 [] (by omega) (by simp)
 have e2:=el_l3 (c:=c) (q1:=dsV l) (q6:=lsV (lists l)) (q9:=.own 1 0 F.length F.length) (a:=atL (lists l) u) (b:=atL (lists l) v) (zbL _) (zbL _) (.row 1 (F.map (V.int .i64))) (atL (lists l) v).length 0 [] (by omega) (by simp)
 simp only [List.drop_zero,List.nil_append,Int.cast_ofNat_Int,List.length_nil,List.map_nil] at e1 e2
 rw [←hF] at e1
 rw [←hS] at e2
 have hst:=zEE hvs hk hR
 rw [←hF,←hS] at hst
 have hlen:(((lists l).set u.toNat F).set v.toNat S).length=l.length:=by rw [List.length_set,List.length_set,zah]
 have sm:∀ xs∈((lists l).set u.toNat F).set v.toNat S,xs.length≤1000000:=zlG (zlG zbr (by rw [hF];exact Nat.le_trans (List.length_filter_le _ _) (zbL _))) (by rw [hS];exact Nat.le_trans (List.length_filter_le _ _) (zbL _))
 have kK:=fun h=>zdv l hl (((lists l).set u.toNat F).set v.toNat S) hlen sm h
 rw [hst] at kK
 have un:u.toNat<l.length:=by omega
 have vn:v.toNat<l.length:=by omega
 obtain ⟨xa,ra,hxa⟩:∃ xa ra,lists l=xa::ra:=by
  cases e:lists l with
  | nil=>have:=zah (l:=l);rw [e] at this;simp at this;omega
  | cons x r=>exact ⟨x,r,rfl⟩
 have apL:∀ nid R1 R2 R3,zit nid [R1,R2,R3,.row 1 []] 1 24 (.own 3 0 0 0) (lsV (lists l))=some (.own 3 0 l.length l.length,some (3,.row 1 ((lists l).map zab))):=fun nid R1 R2 R3=>by
  have:=zbj (nid:=nid) (id:=3) (z:=1) (b:=24) (n:=0) (m:=l.length) (h:=[R1,R2,R3,.row 1 []]) (xs:=[]) (y:=lsV (lists l)) (ys:=(lists l).map zab) (by simp) rfl rfl (by rw [hxa];simp) (by simp [lists]) (by omega) (by omega)
  simpa using this
 obtain ⟨X,hX⟩:∃ X,X=(lists l).map zab:=⟨_,rfl⟩
 have hXl:X.length=l.length:=by rw [hX];simp [lists]
 have gX:zqV 1 [.row 6 [zaq c],.row 1 (F.map (V.int .i64)),.row 1 (S.map (V.int .i64)),.row 1 ((X.set u.toNat (.own 1 0 F.length F.length)).set v.toNat (.own 2 0 S.length S.length))] ((X.set u.toNat (.own 1 0 F.length F.length)).set v.toNat (.own 2 0 S.length S.length)) (((lists l).set u.toNat F).set v.toNat S):=by
  refine zqV.set (zqV.set (by rw [hX];exact zqV.ls) ?_) ?_
  ·exact .inr (zmL.own (by omega) (by simp) rfl)
  ·exact .inr (zmL.own (by omega) (by simp) rfl)
 have hz:zj4 [.row 6 [zaq c],.row 1 (F.map (V.int .i64)),.row 1 (S.map (V.int .i64)),.row 1 ((X.set u.toNat (.own 1 0 F.length F.length)).set v.toNat (.own 2 0 S.length S.length))] [dsV l,.own 3 0 l.length l.length]=some [dsV l,lsV (((lists l).set u.toNat F).set v.toNat S)]:=zpT rfl gX (by rw [hlen])
 have ov1:∀ (h:u.toNat<X.length) w,over (X[u.toNat]'h) 0 [w]=some w:=fun h w=>by subst hX;rw [List.getElem_map];rfl
 have ov2:∀ (h:v.toNat<X.length) w,over (X[v.toNat]'h) 0 [w]=some w:=fun h w=>by subst hX;rw [List.getElem_map];rfl
 have ne:¬u.toNat=v.toNat:=by omega
 have u0:=hub.1
 have v0:=hvb.1
 have u3:=hub.2
 have v3:=hvb.2
 rw [←hX] at apL
 refine zar (v:=.tup [dsV (zai c l),iv 0]) (CT zvz) rfl rfl (fun _=>rfl) (by simp) ⟨[.dead,.dead,.dead,.dead],?_⟩
 simp [zaa,zno,zrn,kr,kL,kK,e1,e2,hz,apL,au,av,x0,x1,g0,g1,n0,n1,u0,v0,u3,v3,un,vn,hXl,ov1,ov2,ne,bb]
def zz7 (a:List Int) (v:Int):List Int:=if a.contains v then a else a++[v]
theorem zBZ {a:List Int} {v:Int}:(zz7 a v).length≤a.length+1:=by
 unfold zz7
 split<;>simp
theorem df_l0 {c:Con} {L:Ls} {q1 q7:V} {i:Nat} {v:Int} (hi:c.vars[i]? = some v) (hvb:0≤v∧v<L.length) (hb:(atL L v).length≤1000):∀ (n k:Nat) (H:List Ob) (A:List Int),k+n=(atL L v).length→H[0]? = some (.row 6 [zaq c])→H[1]? = some (.row 1 (A.map (V.int .i64)))→A.length≤9000+k →
  ∃ H' A',evw C y0 zjy [(1,q1),(2,.ptr 0 0 0 1),(6,lsV L),(7,q7),(8,.own 1 0 A.length A.length),(9,iv i),(10,iv k)] H =
   some (.ext 2,[(1,q1),(2,.ptr 0 0 0 1),(6,lsV L),(7,q7),(8,.own 1 0 A'.length A'.length),(9,iv i),(10,iv (atL L v).length),(46,.bool false)],H')∧H'[0]? = some (.row 6 [zaq c])∧H'[1]? = some (.row 1 (A'.map (V.int .i64)))∧A'=((atL L v).drop k).foldl zz7 A:=by
 obtain ⟨xs,hxs⟩:∃ xs,xs=atL L v:=⟨_,rfl⟩
 have hat:=zo8 hvb.1 hvb.2
 rw [←hxs] at hat hb ⊢
 obtain ⟨hi0,hi2'⟩:=List.getElem?_eq_some_iff.1 hi
 have hi2:∀ h:i<c.vars.length,c.vars[i]'h=v:=fun _=>hi2'
 have hi4:(i:Int)<c.vars.length:=by omega
 intro n
 induction n with
 | zero=>
  intro k H A hin h0 h1 hA
  have:k=xs.length:=by omega
  subst this
  have l0:0<H.length:=(List.getElem?_eq_some_iff.1 h0).1
  have h0g:∀ h:0<H.length,H[0]'h=.row 6 [zaq c]:=fun _=>(List.getElem?_eq_some_iff.1 h0).2
  refine ⟨H,A,?_,h0,h1,by rw [List.drop_length];rfl⟩
  rw [zlm]
  simp [zeQ,hat,hi,hi0,hi2,hi4,h0,l0,h0g]
 | succ n ih=>
  intro k H A hin h0 h1 hA
  have hlt:k<xs.length:=by omega
  obtain ⟨x,hx⟩:∃ x,x=xs[k]:=⟨_,rfl⟩
  have hx1:xs[k]? = some x:=by simp [hlt,hx]
  have hx2:∀ h:k<xs.length,xs[k]'h=x:=fun _=>hx.symm
  have hk4:(k:Int)<xs.length:=by omega
  have hwr:=zac hlt (by omega)
  have l0:0<H.length:=(List.getElem?_eq_some_iff.1 h0).1
  have h0g:∀ h:0<H.length,H[0]'h=.row 6 [zaq c]:=fun _=>(List.getElem?_eq_some_iff.1 h0).2
  have l1:1<H.length:=(List.getElem?_eq_some_iff.1 h1).1
  have lv:LV 0 H (.own 1 0 A.length A.length) A:=.inr (zmL.own (Nat.zero_le _) (by simp) h1)
  have kb:=zot x x (by omega) H lv
  obtain ⟨R,hR⟩:∃ R,R=A.filter (zxn x x):=⟨_,rfl⟩
  have bo:=zAE (zs:=A) (x:=x)
  rw [←hR] at kb bo
  have hc0:A.contains x=true∨A.contains x=false:=by cases A.contains x<;>simp
  rw [List.drop_eq_getElem_cons hlt,←hx,List.foldl_cons]
  rcases hc0 with hc|hc
  ·rw [hc] at bo
   have e:zz7 A x=A:=by unfold zz7;rw [if_pos hc]
   obtain ⟨H',A',ih,r0,r1,r2⟩:=ih (k+1) (H++[.row 1 (R.map (V.int .i64))]) A (by omega) (za3 h0) (za3 h1) (by omega)
   simp only [Int.natCast_add,Int.cast_ofNat_Int] at ih
   refine ⟨H',A',?_,r0,r1,by rw [e];exact r2⟩
   have bo2:((R.length:Int)==0)=false:=bo
   rw [←ih,zlm]
   simp [zeQ,hat,hi,hi0,hi2,hi4,h0,l0,h0g,hx1,hx2,hlt,hk4,hwr,kb,bo2]
  ·rw [hc] at bo
   have e:zz7 A x=A++[x]:=by unfold zz7;rw [if_neg (by rw [hc];simp)]
   have hl2:(A++[x]).length=A.length+1:=by simp
   obtain ⟨H',A',ih,r0,r1,r2⟩:=ih (k+1) (H.set 1 (.row 1 (A.map (V.int .i64)++[iv x]))++[.row 1 (R.map (V.int .i64))]) (A++[x]) (by omega) (za3 (by rw [List.getElem?_set_ne (by omega)];exact h0)) (za3 (by rw [List.getElem?_set_self l1];simp)) (by omega)
   rw [hl2] at ih
   simp only [Int.natCast_add,Int.cast_ofNat_Int] at ih
   refine ⟨H',A',?_,r0,r1,by rw [e];exact r2⟩
   have bo2:((R.length:Int)==0)=true:=bo
   have ap:∀ nid,zit nid (H++[.row 1 (R.map (V.int .i64))]) 1 8 (.own 1 0 A.length A.length) (.sl 1 [iv x])=some (.own 1 0 (A.length+1) (A.length+1),some (1,.row 1 (A.map (V.int .i64)++[iv x]))):=fun nid=>zbj (za3 h1) (by simp) rfl (by simp) rfl (by omega) (by omega)
   have bb:zii (.int .i64 0) [iv x]=some (.sl 1 [iv x]):=rfl
   have hwH:∀ t o,wr (H++t) (some (1,o))=H.set 1 o++t:=fun t o=>by rw [zfi (by simp;omega),List.set_append_left _ _ l1]
   rw [←ih,zlm]
   simp [zeQ,hat,hi,hi0,hi2,hi4,h0,l0,h0g,hx1,hx2,hlt,hk4,hwr,kb,bo2,ap,bb,hwH]
theorem zvB:∀ {xs A:List Int},(xs.foldl zz7 A).length≤A.length+xs.length
 | [],A=>by simp
 | x::xs,A=>by
  rw [List.foldl_cons,List.length_cons]
  have h1:=zvB (xs:=xs) (A:=zz7 A x)
  have h2:=zBZ (a:=A) (v:=x)
  omega
theorem df_l1 {c:Con} {L:Ls} {q1 q7:V} (h9:c.vars.length≤9) (hv:∀ v∈c.vars,0≤v∧v<L.length) (hb:∀ v∈c.vars,(atL L v).length≤1000):∀ (n i:Nat) (H:List Ob) (A:List Int),i+n=c.vars.length→H[0]? = some (.row 6 [zaq c])→H[1]? = some (.row 1 (A.map (V.int .i64)))→A.length≤i*1000 →
  ∃ H' A',evw C y0 zjQ [(1,q1),(2,.ptr 0 0 0 1),(6,lsV L),(7,q7),(8,.own 1 0 A.length A.length),(9,iv i)] H =
   some (.ext 0,[(1,q1),(2,.ptr 0 0 0 1),(6,lsV L),(7,q7),(8,.own 1 0 A'.length A'.length),(9,iv c.vars.length),(33,.bool false)],H')∧H'[0]? = some (.row 6 [zaq c])∧H'[1]? = some (.row 1 (A'.map (V.int .i64)))∧A'=((c.vars.drop i).flatMap fun u=>atL L u).foldl zz7 A:=by
 intro n
 induction n with
 | zero=>
  intro i H A hin h0 h1 hA
  have:i=c.vars.length:=by omega
  subst this
  have l0:0<H.length:=(List.getElem?_eq_some_iff.1 h0).1
  have h0g:∀ h:0<H.length,H[0]'h=.row 6 [zaq c]:=fun _=>(List.getElem?_eq_some_iff.1 h0).2
  refine ⟨H,A,?_,h0,h1,by rw [List.drop_length];rfl⟩
  rw [zoH]
  simp [zhh,h0,l0,h0g]
 | succ n ih=>
  intro i H A hin h0 h1 hA
  have hlt:i<c.vars.length:=by omega
  obtain ⟨v,hvv⟩:∃ v,v=c.vars[i]:=⟨_,rfl⟩
  have hv1:c.vars[i]? = some v:=by simp [hlt,hvv]
  have hvm:v∈c.vars:=by rw [hvv];exact List.getElem_mem hlt
  have hi4:(i:Int)<c.vars.length:=by omega
  have hwr:=zac hlt (by omega)
  have l0:0<H.length:=(List.getElem?_eq_some_iff.1 h0).1
  have h0g:∀ h:0<H.length,H[0]'h=.row 6 [zaq c]:=fun _=>(List.getElem?_eq_some_iff.1 h0).2
  obtain ⟨H1,A1,e1,r0,r1,r2⟩:=df_l0 (q1:=q1) (q7:=q7) hv1 (hv v hvm) (hb v hvm) (atL L v).length 0 H A (by omega) h0 h1 (by omega)
  simp only [Int.cast_ofNat_Int,List.drop_zero] at e1 r2
  have hA1:A1.length≤A.length+(atL L v).length:=by rw [r2];exact zvB
  have:=hb v hvm
  obtain ⟨H',A',ih,s0,s1,s2⟩:=ih (i+1) H1 A1 (by omega) r0 r1 (by omega)
  simp only [Int.natCast_add,Int.cast_ofNat_Int] at ih
  refine ⟨H',A',?_,s0,s1,?_⟩
  ·rw [←ih,zoH]
   simp [zhh,hlt,hi4,hwr,h0,l0,h0g,e1]
  ·rw [List.drop_eq_getElem_cons hlt,←hvv,List.flatMap_cons,List.foldl_append,←r2]
   exact s2
def zj7 (L:Ls) (vs:List Int) (i:Nat):Nat→List Int→List Int
 | 0,xs=>xs
 | k+1,xs=>if k≠i∧(atL L (vs.getD k 0)).length=1 then (zj7 L vs i k xs).filter fun x=>x != lo (atL L (vs.getD k 0)) else zj7 L vs i k xs
def zls (L:Ls) (vs:List Int):Nat→Ls
 | 0=>L
 | i+1=>(zls L vs i).set (vs.getD i 0).toNat (zj7 L vs i vs.length (atL L (vs.getD i 0)))
theorem zsp {L:Ls} {vs:List Int} {i:Nat} {xs:List Int} {x:Int}:∀ {n:Nat},x∈zj7 L vs i n xs↔x∈xs∧∀ k,k<n→k≠i→(atL L (vs.getD k 0)).length=1→x≠lo (atL L (vs.getD k 0))
 | 0=>by simp [zj7]
 | n+1=>by
  rw [zj7]
  split
  ·rename_i h
   rw [List.mem_filter,zsp,and_assoc]
   refine and_congr_right fun _=>?_
   constructor
   ·rintro ⟨a,b⟩ k hk hki hl
    by_cases e:k=n
    ·subst e;simpa using b
    ·exact a k (by omega) hki hl
   ·intro a
    exact ⟨fun k hk=>a k (by omega),by simpa using a n (by omega) h.1 h.2⟩
  ·rename_i h
   rw [zsp]
   refine and_congr_right fun _=>?_
   constructor
   ·intro a k hk hki hl
    by_cases e:k=n
    ·subst e;exact absurd ⟨hki,hl⟩ h
    ·exact a k (by omega) hki hl
   ·exact fun a k hk=>a k (by omega)
theorem zqb {L:Ls} {vs:List Int} {i:Nat} {xs:List Int}:∀ {n:Nat},(zj7 L vs i n xs).length≤xs.length
 | 0=>Nat.le_refl _
 | n+1=>by
  rw [zj7]
  split
  ·exact Nat.le_trans (List.length_filter_le _ _) zqb
  ·exact zqb
theorem zmV {L:Ls} {vs:List Int}:∀ {i:Nat},(zls L vs i).length=L.length
 | 0=>rfl
 | i+1=>by rw [zls,List.length_set];exact zmV
theorem zuO {L:Ls} {vs:List Int} (h0:∀ v∈vs,0≤v):∀ {n j:Nat},n≤vs.length→(j:Int)∉vs.take n→(zls L vs n).getD j []=L.getD j []
 | 0,j,_,_=>rfl
 | n+1,j,hn,hj=>by
  rw [List.take_succ_eq_append_getElem (by omega),List.mem_append,List.mem_singleton,not_or] at hj
  have e:vs.getD n 0=vs[n]:=zez (List.getElem?_eq_getElem (by omega))
  have hp:=h0 vs[n] (List.getElem_mem (by omega))
  rw [zls,e,getD_set_ne (by omega)]
  exact zuO h0 (by omega) hj.1
theorem zyl {L:Ls} {vs:List Int} (nd:vs.Nodup) (hv:∀ v∈vs,0≤v∧v<L.length):∀ {n i:Nat} (hi:i<n) (hn:n≤vs.length),(zls L vs n).getD (vs[i]'(by omega)).toNat []=zj7 L vs i vs.length (atL L (vs[i]'(by omega)))
 | n+1,i,hi,hn=>by
  have e:vs.getD n 0=vs[n]:=zez (List.getElem?_eq_getElem (by omega))
  have hp:=hv vs[n] (List.getElem_mem (by omega))
  have hp2:=hv (vs[i]'(by omega)) (List.getElem_mem (by omega))
  rw [zls,e]
  by_cases c1:i=n
  ·subst c1
   rw [zct (by rw [zmV];omega)]
  ·have hne:vs[n]≠vs[i]'(by omega):=fun q=>c1 ((List.getElem_inj nd).1 q).symm
   rw [getD_set_ne (by omega)]
   exact zyl nd hv (by omega) (by omega)
theorem zsC {L:Ls} {vs:List Int} (hb:∀ v:Int,(atL L v).length≤1000000) (h:∀ xs∈L,xs.length≤1000000):∀ {i:Nat},∀ xs∈zls L vs i,xs.length≤1000000
 | 0=>h
 | i+1=>zlG (zsC hb h) (Nat.le_trans zqb (hb _))
theorem df_l2 {c:Con} {L:Ls} {q1:V} {i:Nat} {v:Int} (h9:c.vars.length≤9) (hi:c.vars[i]? = some v) (hv:∀ v∈c.vars,0≤v∧v<L.length) (hb:∀ v:Int,(atL L v).length≤1000000) (oid:Nat) (h0n:oid≠0) (G0:Ls) (hG:G0.length=L.length) (hG0:G0.getD v.toNat []=atL L v):∀ (n k:Nat) (H:List Ob),k+n=c.vars.length→H[0]? = some (.row 6 [zaq c])→H[oid]? = some (.row 1 ((G0.set v.toNat (zj7 L c.vars i k (atL L v))).map zab)) →
  evw C y0 zjl [(1,q1),(2,.ptr 0 0 0 1),(6,lsV L),(12,.own oid 0 L.length L.length),(13,iv i),(14,iv k)] H =
   some (.ext 6,[(1,q1),(2,.ptr 0 0 0 1),(6,lsV L),(12,.own oid 0 L.length L.length),(13,iv i),(14,iv c.vars.length),(98,.bool false)],H.set oid (.row 1 ((G0.set v.toNat (zj7 L c.vars i c.vars.length (atL L v))).map zab))):=by
 obtain ⟨hi0,hi2'⟩:=List.getElem?_eq_some_iff.1 hi
 have hi2:∀ h:i<c.vars.length,c.vars[i]'h=v:=fun _=>hi2'
 have hi4:(i:Int)<c.vars.length:=by omega
 have hvb:=hv v (List.mem_of_getElem? hi)
 have hv0:=hvb.1
 have hv3:=hvb.2
 have hvn:v.toNat<L.length:=by omega
 intro n
 induction n with
 | zero=>
  intro k H hin h0 h1
  have:k=c.vars.length:=by omega
  subst this
  have l0:0<H.length:=(List.getElem?_eq_some_iff.1 h0).1
  have h0g:∀ h:0<H.length,H[0]'h=.row 6 [zaq c]:=fun _=>(List.getElem?_eq_some_iff.1 h0).2
  have e:H.set oid (.row 1 ((G0.set v.toNat (zj7 L c.vars i c.vars.length (atL L v))).map zab))=H:=by
   obtain ⟨a,b⟩:=List.getElem?_eq_some_iff.1 h1
   rw [←b,List.set_getElem_self]
  rw [e,zhc]
  simp [zdt,h0,l0,h0g]
 | succ n ih=>
  intro k H hin h0 h1
  have hlt:k<c.vars.length:=by omega
  obtain ⟨w,hw⟩:∃ w,w=c.vars[k]:=⟨_,rfl⟩
  have hw1:c.vars[k]? = some w:=by simp [hlt,hw]
  have hw2:∀ h:k<c.vars.length,c.vars[k]'h=w:=fun _=>hw.symm
  have hwm:w∈c.vars:=by rw [hw];exact List.getElem_mem hlt
  have hwb:=hv w hwm
  have hat:=zo8 hwb.1 hwb.2
  have hk4:(k:Int)<c.vars.length:=by omega
  have hwr:=zac hlt (by omega)
  have l0:0<H.length:=(List.getElem?_eq_some_iff.1 h0).1
  have h0g:∀ h:0<H.length,H[0]'h=.row 6 [zaq c]:=fun _=>(List.getElem?_eq_some_iff.1 h0).2
  have lo1:oid<H.length:=(List.getElem?_eq_some_iff.1 h1).1
  have hD:c.vars.getD k 0=w:=zez hw1
  obtain ⟨Y,hY⟩:∃ Y,Y=zj7 L c.vars i k (atL L v):=⟨_,rfl⟩
  rw [←hY] at h1
  by_cases ck:k=i
  ·have e:zj7 L c.vars i (k+1) (atL L v)=Y:=by rw [zj7,if_neg (fun h=>h.1 ck),hY]
   have ih:=ih (k+1) H (by omega) h0 (by rw [e];exact h1)
   simp only [Int.natCast_add,Int.cast_ofNat_Int] at ih
   have cb:((k:Int) != i)=false:=by rw [ck];simp
   rw [←ih,zhc]
   simp [zdt,hlt,hw1,hw2,hat,hk4,hwr,h0,l0,h0g,cb]
  ·have cb:((k:Int) != i)=true:=by rw [bne_iff_ne];omega
   by_cases cl:(atL L w).length=1
   ·have e:zj7 L c.vars i (k+1) (atL L v)=Y.filter fun x=>x != lo (atL L w):=by rw [zj7,hD,if_pos ⟨ck,cl⟩,hY]
    have cl2:(((atL L w).length:Int)==1)=true:=by rw [beq_iff_eq];omega
    obtain ⟨y,hy⟩:∃ y,atL L w=[y]:=List.length_eq_one_iff.1 cl
    have hlo:lo (atL L w)=y:=by rw [hy];rfl
    rw [hlo] at e
    have hYl:Y.length≤1000000:=by rw [hY];exact Nat.le_trans zqb (hb v)
    have kl:=fun h=>zyQ Y y hYl h
    obtain ⟨Z,hZ⟩:∃ Z,Z=Y.filter fun x=>x != y:=⟨_,rfl⟩
    rw [←hZ] at kl e
    have hset:(H.set oid (.row 1 ((G0.set v.toNat Z).map zab)))[oid]? = some (.row 1 ((G0.set v.toNat Z).map zab)):=List.getElem?_set_self lo1
    have ih:=ih (k+1) (H.set oid (.row 1 ((G0.set v.toNat Z).map zab))) (by omega) (by rw [List.getElem?_set_ne (by omega)];exact h0) (by rw [e];exact hset)
    simp only [Int.natCast_add,Int.cast_ofNat_Int,List.set_set] at ih
    have hgv:(G0.set v.toNat Y)[v.toNat]? = some Y:=List.getElem?_set_self (by rw [hG];omega)
    obtain ⟨R,hR⟩:∃ R,R=(G0.set v.toNat Y).map zab:=⟨_,rfl⟩
    rw [←hR] at h1
    have hRl:R.length=L.length:=by rw [hR];simp [hG]
    have hR1:R[v.toNat]? = some (zab Y):=by rw [hR,List.getElem?_map,hgv];rfl
    have hvR:v.toNat<R.length:=by omega
    have hR2:∀ h:v.toNat<R.length,R[v.toNat]'h=zab Y:=fun h=>(List.getElem?_eq_some_iff.1 hR1).2
    have hRs:R.set v.toNat (zab Z)=(G0.set v.toNat Z).map zab:=by rw [hR,List.map_set,List.map_set,List.set_set]
    have h1g:∀ h:oid<H.length,H[oid]'h=.row 1 R:=fun _=>(List.getElem?_eq_some_iff.1 h1).2
    rw [←hRs] at ih
    have hwo:∀ o,wr H (some (oid,o))=H.set oid o:=fun o=>zfi lo1
    rw [hy] at hat cl2
    rw [←ih,zhc]
    simp [zdt,hlt,hw1,hw2,hat,hk4,hwr,h0,l0,h0g,cb,hi,hi0,hi2,hi4,h1,lo1,h1g,hR1,hR2,hvR,hRl,hv0,hv3,hvn,kl,hwo]
   ·have e:zj7 L c.vars i (k+1) (atL L v)=Y:=by rw [zj7,hD,if_neg (fun h=>cl h.2),hY]
    have cl2:(((atL L w).length:Int)==1)=false:=by rw [beq_eq_false_iff_ne];omega
    have ih:=ih (k+1) H (by omega) h0 (by rw [e];exact h1)
    simp only [Int.natCast_add,Int.cast_ofNat_Int] at ih
    rw [←ih,zhc]
    simp [zdt,hlt,hw1,hw2,hat,hk4,hwr,h0,l0,h0g,cb,cl2]
theorem zEf {vs:List Int} (nd:vs.Nodup) {i:Nat} (hi:i<vs.length):vs[i]∉vs.take i:=fun q=>by
 obtain ⟨j,hj,e⟩:=List.mem_iff_getElem.1 q
 rw [List.getElem_take] at e
 have:=(List.getElem_inj nd).1 e
 simp at hj
 omega
theorem df_l3 {c:Con} {L:Ls} {q1:V} (h9:c.vars.length≤9) (nd:c.vars.Nodup) (hv:∀ v∈c.vars,0≤v∧v<L.length) (hb:∀ v:Int,(atL L v).length≤1000000) (oid:Nat) (h0n:oid≠0):∀ (n i:Nat) (H:List Ob),i+n=c.vars.length→H[0]? = some (.row 6 [zaq c])→H[oid]? = some (.row 1 ((zls L c.vars i).map zab)) →
  ∃ H',evw C y0 zi3 [(1,q1),(2,.ptr 0 0 0 1),(6,lsV L),(12,.own oid 0 L.length L.length),(13,iv i)] H =
   some (.ext 4,[(1,q1),(2,.ptr 0 0 0 1),(6,lsV L),(12,.own oid 0 L.length L.length),(13,iv c.vars.length),(91,.bool false)],H')∧H'[oid]? = some (.row 1 ((zls L c.vars c.vars.length).map zab)):=by
 intro n
 induction n with
 | zero=>
  intro i H hin h0 h1
  have:i=c.vars.length:=by omega
  subst this
  have l0:0<H.length:=(List.getElem?_eq_some_iff.1 h0).1
  have h0g:∀ h:0<H.length,H[0]'h=.row 6 [zaq c]:=fun _=>(List.getElem?_eq_some_iff.1 h0).2
  refine ⟨H,?_,h1⟩
  rw [zoZ]
  simp [zg5,h0,l0,h0g]
 | succ n ih=>
  intro i H hin h0 h1
  have hlt:i<c.vars.length:=by omega
  obtain ⟨v,hvv⟩:∃ v,v=c.vars[i]:=⟨_,rfl⟩
  have hv1:c.vars[i]? = some v:=by simp [hlt,hvv]
  have hvm:v∈c.vars:=by rw [hvv];exact List.getElem_mem hlt
  have hvb:=hv v hvm
  have hi4:(i:Int)<c.vars.length:=by omega
  have hwr:=zac hlt (by omega)
  have l0:0<H.length:=(List.getElem?_eq_some_iff.1 h0).1
  have h0g:∀ h:0<H.length,H[0]'h=.row 6 [zaq c]:=fun _=>(List.getElem?_eq_some_iff.1 h0).2
  have hD:c.vars.getD i 0=v:=zez hv1
  have hG0:(zls L c.vars i).getD v.toNat []=atL L v:=by
   rw [zuO (fun v h=>(hv v h).1) (by omega) (by
    rw [show ((v.toNat:Nat):Int)=v by omega,hvv]
    exact zEf nd hlt)]
   rfl
  have e0:(zls L c.vars i).set v.toNat (zj7 L c.vars i 0 (atL L v))=zls L c.vars i:=by
   rw [zj7,←hG0,zuE]
  have e1:=df_l2 (q1:=q1) h9 hv1 hv hb oid h0n (zls L c.vars i) zmV hG0 c.vars.length 0 H (by omega) h0 (by rw [e0];exact h1)
  have lo1:oid<H.length:=(List.getElem?_eq_some_iff.1 h1).1
  have eG:zls L c.vars (i+1)=(zls L c.vars i).set v.toNat (zj7 L c.vars i c.vars.length (atL L v)):=by rw [zls,hD]
  rw [←eG] at e1
  obtain ⟨H',ih,r1⟩:=ih (i+1) (H.set oid (.row 1 ((zls L c.vars (i+1)).map zab))) (by omega) (by rw [List.getElem?_set_ne (by omega)];exact h0) (List.getElem?_set_self lo1)
  simp only [Int.natCast_add,Int.cast_ofNat_Int] at ih e1
  refine ⟨H',?_,r1⟩
  rw [←ih,zoZ]
  simp [zg5,hlt,hi4,hwr,h0,l0,h0g,e1]
theorem uni_eq {xs:List Int}:uni xs=xs.foldl zz7 []:=rfl
theorem zwD {c:Con} {l:Ds} (hk:c.kind=5) (h:(wiped c.vars (lists l)||decide ((uni (c.vars.flatMap fun u=>atL (lists l) u)).length<c.vars.length))=true):zbT l (zce c.vars (lists l))=zai c l:=by
 refine zrZ fun j x hj=>?_
 rw [zr8 hj,if_neg (by omega),if_neg (by omega),if_neg (by omega),if_neg (by omega),if_pos hk]
 unfold zwn
 rw [h];rfl
theorem zzZ {c:Con} {l:Ds} (hk:c.kind=5) (hR:RC c l.length) (h:(wiped c.vars (lists l)||decide ((uni (c.vars.flatMap fun u=>atL (lists l) u)).length<c.vars.length))=false):zbT l (zls (lists l) c.vars c.vars.length)=zai c l:=by
 have hv:∀ v∈c.vars,0≤v∧v<(lists l).length:=fun v h=>by rw [zah];exact hR.b v h
 refine zly fun j hj x hx=>?_
 by_cases c1:(j:Int)∈c.vars
 ·obtain ⟨i,hi,e⟩:=List.mem_iff_getElem.1 c1
  have h1:=zyl hR.nd hv hi (Nat.le_refl _)
  rw [e,Int.toNat_natCast] at h1
  have hx2:x∈atL (lists l) (j:Int):=by rw [zs6,zcg hj];exact hx
  rw [h1,zsp,zr8 c1,if_neg (by omega),if_neg (by omega),if_neg (by omega),if_neg (by omega),if_pos hk]
  unfold zwn
  rw [h]
  simp only [Bool.not_false,Bool.true_and,Bool.not_eq_true',List.any_eq_false,Bool.and_eq_true,Bool.not_eq_true',beq_eq_false_iff_ne,beq_iff_eq,not_and]
  constructor
  ·rintro ⟨-,a⟩ u hu hne hux
   obtain ⟨k,hk2,ek⟩:=List.mem_iff_getElem.1 hu
   have hD:c.vars.getD k 0=u:=by rw [zez (List.getElem?_eq_getElem hk2),ek]
   have hki:k≠i:=fun q=>hne (by subst q;rw [←ek,e])
   have:=a k hk2 hki (by rw [hD,hux];rfl)
   rw [hD,hux] at this
   exact this rfl
  ·intro a
   refine ⟨hx2,fun k hk2 hki hl q=>?_⟩
   have hD:c.vars.getD k 0=c.vars[k]:=zez (List.getElem?_eq_getElem hk2)
   rw [hD] at hl q
   obtain ⟨y,hy⟩:=List.length_eq_one_iff.1 hl
   have hxy:x=y:=by rw [q,hy];rfl
   refine a c.vars[k] (List.getElem_mem hk2) (fun q2=>hki ?_) (by rw [hy,hxy])
   have:c.vars[k]=c.vars[i]:=by rw [q2,e]
   exact (List.getElem_inj hR.nd).1 this
 ·rw [zuO (fun v h=>(hv v h).1) (Nat.le_refl _) (by rw [List.take_length];exact c1),zcg hj,zqY c1]
  simp [hx]
theorem zBf {vs:List Int} {L:Ls}:zce vs (zce vs L)=zce vs L:=by
 refine List.ext_getElem (by simp [zce]) fun j h1 h2=>?_
 simp only [zce,List.getElem_mapIdx]
 split<;>rfl
theorem atL_64 {l:Ds} (v:Int):(atL (lists l) v).length≤64:=by
 unfold atL
 rw [List.getD]
 cases h:(lists l)[v.toNat]? with
 | none=>simp
 | some x=>
  obtain ⟨d,-,rfl⟩:=List.mem_map.1 (List.mem_of_getElem? h)
  exact zbz d
theorem zze {c:Con} {l:Ds} (hc:c150 c) (hk:c.kind=5) (hr:zaC c l.length=true) (ok:okL l) (hn:l.length≤16) (h:List Ob):acw C zkd [zaq c,dsV l] h=some (.ret (.tup [dsV (zai c l),iv 0]),h):=by
 have hl:zmK l:=zo3 ok (by omega)
 have hR:=RC.of hr
 have kr:∀ h,acw C zaQ [zaq c,dsV l,.sl 1 [iv 5]] h=some (.ret (.bool true),h):=fun h=>zgZ (ks:=[5]) hc hl (by simp) (by simp [hk]) hr ok h
 have kL:=fun h=>zgL l hl h
 have hv:∀ v∈c.vars,0≤v∧v<(lists l).length:=fun v h=>by rw [zah];exact hR.b v h
 have v9:=hR.v8.1
 have kW:=fun h=>zpe (c:=c) (L:=lists l) (by omega) (by rw [zah];omega) hv h
 have bb:zii (.int .i64 0) [iv 5]=some (.sl 1 [iv 5]):=rfl
 have kK0:=fun h=>zdv l hl (zce c.vars (lists l)) (by simp [zce,lists]) (zlF zbr) h
 cases hw:wiped c.vars (lists l) with
 | true=>
  rw [hw] at kW
  simp only [if_true] at kW
  rw [zwD hk (by rw [hw];rfl)] at kK0
  have hvN:∀ v∈c.vars,0≤v∧v<(zce c.vars (lists l)).length:=fun v h=>by rw [zne];exact hv v h
  obtain ⟨H',A',e,r0,r1,-⟩:=df_l1 (c:=c) (L:=zce c.vars (lists l)) (q1:=dsV l) (q7:=.bool true) v9 hvN (fun v hvm=>by
   unfold atL
   rw [zok,show ((v.toNat:Nat):Int)=v by have:=(hv v hvm).1;omega,if_pos hvm]
   simp) c.vars.length 0 [.row 6 [zaq c],.row 1 []] [] (by omega) rfl rfl (by simp)
  simp only [Int.cast_ofNat_Int,List.length_nil] at e
  have kN:=ziV (c:=c) (L:=zce c.vars (lists l)) (by omega) (by rw [zne,zah];omega) hvN H'
  rw [zne,zah] at kN
  have hz:zj4 (H'++[.row 6 [zaq c],.row 1 (zd6 c.vars (zce c.vars (lists l)))]) [dsV l,.own (H'.length+1) 0 l.length l.length]=some [dsV l,lsV (zce c.vars (lists l))]:=by
   have:=zmN (l:=l) (id:=H'.length+1) (n:=l.length) (h:=H'++[.row 6 [zaq c],.row 1 (zd6 c.vars (zce c.vars (lists l)))]) (X:=zd6 c.vars (zce c.vars (lists l))) (G:=zce c.vars (zce c.vars (lists l))) (by simp) (by rw [zp6,zne,zah]) (zp0 10)
   rw [zBf] at this
   exact this
  have h0g:∀ h:0<H'.length,H'[0]'h=.row 6 [zaq c]:=fun _=>(List.getElem?_eq_some_iff.1 r0).2
  have l0:0<H'.length:=(List.getElem?_eq_some_iff.1 r0).1
  refine zar (v:=.tup [dsV (zai c l),iv 0]) (CT znf) rfl rfl (fun _=>rfl) (by simp) ⟨(H'++[Ob.dead,Ob.dead]).map fun _=>Ob.dead,?_⟩
  simp [zaa,zhJ,zkc,kr,kL,kW,e,kN,hz,kK0,bb,r0,h0g,l0]
 | false=>
  rw [hw] at kW
  simp only [Bool.false_eq_true,if_false] at kW
  obtain ⟨H',A',e,r0,r1,r2⟩:=df_l1 (c:=c) (L:=lists l) (q1:=dsV l) (q7:=.bool false) v9 hv (fun v _=>by have:=atL_64 (l:=l) v;omega) c.vars.length 0 [.row 6 [zaq c],.row 1 []] [] (by omega) rfl rfl (by simp)
  simp only [Int.cast_ofNat_Int,List.length_nil,List.drop_zero] at e r2
  rw [←uni_eq] at r2
  have h0g:∀ h:0<H'.length,H'[0]'h=.row 6 [zaq c]:=fun _=>(List.getElem?_eq_some_iff.1 r0).2
  have h1g:∀ h:1<H'.length,H'[1]'h=.row 1 (A'.map (V.int .i64)):=fun _=>(List.getElem?_eq_some_iff.1 r1).2
  have l0:0<H'.length:=(List.getElem?_eq_some_iff.1 r0).1
  have l1:1<H'.length:=(List.getElem?_eq_some_iff.1 r1).1
  have r0t:∀ t,(H'++t)[0]? = some (.row 6 [zaq c]):=fun t=>za3 r0
  by_cases hA:A'.length<c.vars.length
  ·have hA2:(A'.length:Int)<c.vars.length:=by omega
   rw [zwD hk (by rw [hw,←r2,decide_eq_true hA];rfl)] at kK0
   have kN:=ziV (c:=c) (L:=lists l) (by omega) (by rw [zah];omega) hv H'
   rw [zah] at kN
   have hz:=zmN (l:=l) (id:=H'.length+1) (n:=l.length) (h:=H'++[.row 6 [zaq c],.row 1 (zd6 c.vars (lists l))]) (X:=zd6 c.vars (lists l)) (G:=zce c.vars (lists l)) (by simp) (by rw [zp6,zah]) (zp0 10)
   refine zar (v:=.tup [dsV (zai c l),iv 0]) (CT znf) rfl rfl (fun _=>rfl) (by simp) ⟨(H'++[Ob.dead,Ob.dead]).map fun _=>Ob.dead,?_⟩
   simp [zaa,zhJ,zkc,kr,kL,kW,e,kN,hz,kK0,bb,r0,h0g,l0,r1,h1g,l1,hA,hA2]
  ·have hA2:¬(A'.length:Int)<c.vars.length:=by omega
   have hst:=zzZ hk hR (by rw [hw,←r2,decide_eq_false hA];rfl)
   have kK:=fun h=>zdv l hl (zls (lists l) c.vars c.vars.length) (by rw [zmV,zah]) (zsC zbL zbr) h
   rw [hst] at kK
   obtain ⟨H2,e2,s1⟩:=df_l3 (c:=c) (L:=lists l) (q1:=dsV l) v9 hR.nd hv zbL H'.length (by omega) c.vars.length 0 (H'++[.row 1 ((lists l).map zab)]) (by omega) (r0t _) (by simp [zls])
   rw [zah] at e2
   simp only [Int.cast_ofNat_Int] at e2
   have hz:=zmN (l:=l) (n:=l.length) s1 (by simp [zmV,zah]) (zC4 10)
   have ap:∀ nid,zit nid (H'++[.row 1 []]) 1 24 (.own H'.length 0 0 0) (lsV (lists l))=if lists l=[] then some (.own H'.length 0 0 0,none) else some (.own H'.length 0 l.length l.length,some (H'.length,.row 1 ((lists l).map zab))):=fun nid=>by
    split
    ·rename_i he
     rw [he]
     simp [zit,op1,src,elems,zaF]
    ·rename_i he
     have:=zbj (nid:=nid) (id:=H'.length) (z:=1) (b:=24) (n:=0) (m:=l.length) (h:=H'++[.row 1 []]) (xs:=[]) (y:=lsV (lists l)) (ys:=(lists l).map zab) (by simp) rfl rfl (by simpa using he) (by simp [lists]) (by omega) (by omega)
     simpa using this
   refine zar (v:=.tup [dsV (zai c l),iv 0]) (CT znf) rfl rfl (fun _=>rfl) (by simp) ⟨H2.map fun _=>Ob.dead,?_⟩
   by_cases he:lists l=[]
   ·have h2:2≤c.vars.length:=by
     have hr2:=hr
     unfold zaC at hr2
     rw [if_neg (by omega),if_neg (by omega),if_neg (by omega),if_neg (by omega),if_pos hk] at hr2
     unfold zlk zfq at hr2
     simp only [Bool.and_eq_true,decide_eq_true_eq] at hr2
     omega
    have hm:=hv c.vars[0] (List.getElem_mem (by omega))
    rw [he] at hm
    simp at hm
    omega
   ·rw [if_neg he] at ap
    have hwE:∀ r o,wr (H'++[r]) (some (H'.length,o))=H'++[o]:=fun r o=>by rw [zfi (by simp),List.set_append_right _ _ (Nat.le_refl _)];simp
    simp [zaa,zhJ,zkc,kr,kL,kW,e,e2,hz,kK,bb,r0,h0g,l0,r1,h1g,l1,hA,hA2,ap,hwE]
def ziu (L:Ls) (vs xs:List Int):Bool:=(vs.zip xs).all fun q=>(atL L q.1).contains q.2
theorem zsm {L:Ls}:∀ {vs xs:List Int},ziu L vs (xs.take vs.length)=ziu L vs xs
 | [],xs=>by simp [ziu]
 | v::vs,[]=>by simp [ziu]
 | v::vs,x::xs=>by
  have:=zsm (L:=L) (vs:=vs) (xs:=xs)
  unfold ziu at this ⊢
  rw [List.length_cons,List.take_succ_cons,List.zip_cons_cons,List.zip_cons_cons,List.all_cons,List.all_cons,this]
theorem zC8 {l:List Int} {a i:Nat} {x:Int} (h:l[a+i]? = some x):at? (l.map (V.int .i64)) ((a:Int)+(i:Int))=some (iv x):=by
 have h1:0≤(a:Int)+(i:Int):=by omega
 have h2:((a:Int)+(i:Int)).toNat=a+i:=by omega
 unfold at?
 rw [if_pos h1,h2,List.getElem?_map,h]
 rfl
theorem zEg {c:Con} {L:Ls} {at':Nat} (h9:c.vars.length≤9) (hn:c.nums.length≤1000) (ha:at'+c.vars.length≤c.nums.length) (hv:∀ v∈c.vars,0≤v∧v<L.length) (hb:∀ v∈c.vars,(atL L v).length≤1000000):∀ (n i:Nat) (H:List Ob),i+n=c.vars.length→H[0]? = some (.row 6 [zaq c]) →
  ∃ fr' H',evw C y0 zhW [(1,lsV L),(2,iv at'),(3,.ptr 0 0 0 1),(7,iv i)] H=some (if ziu L (c.vars.drop i) (c.nums.drop (at'+i))=true then (.ext 0,fr',H') else (.ret,[(6,.bool false)],H')):=by
 intro n
 induction n with
 | zero=>
  intro i H hin h0
  have:i=c.vars.length:=by omega
  subst this
  have l0:0<H.length:=(List.getElem?_eq_some_iff.1 h0).1
  have h0g:∀ h:0<H.length,H[0]'h=.row 6 [zaq c]:=fun _=>(List.getElem?_eq_some_iff.1 h0).2
  refine ⟨[(1,lsV L),(2,iv at'),(3,.ptr 0 0 0 1),(7,iv c.vars.length),(12,.bool false)],H,?_⟩
  rw [List.drop_length,if_pos (by simp [ziu]),zjp]
  simp [zd7,h0,l0,h0g]
 | succ n ih=>
  intro i H hin h0
  have hlt:i<c.vars.length:=by omega
  have hlx:at'+i<c.nums.length:=by omega
  have l0:0<H.length:=(List.getElem?_eq_some_iff.1 h0).1
  have h0g:∀ h:0<H.length,H[0]'h=.row 6 [zaq c]:=fun _=>(List.getElem?_eq_some_iff.1 h0).2
  obtain ⟨v,hvv⟩:∃ v,v=c.vars[i]:=⟨_,rfl⟩
  obtain ⟨x,hxx⟩:∃ v,v=c.nums[at'+i]:=⟨_,rfl⟩
  have hv1:c.vars[i]? = some v:=by simp [hlt,hvv]
  have hv2:∀ h:i<c.vars.length,c.vars[i]'h=v:=fun _=>hvv.symm
  have hx1:c.nums[at'+i]? = some x:=by simp [hlx,hxx]
  have hvm:v∈c.vars:=by rw [hvv];exact List.getElem_mem hlt
  have hvb:=hv v hvm
  have hat:=zo8 hvb.1 hvb.2
  have hi4:(i:Int)<c.vars.length:=by omega
  have hwr:=zac hlt (by omega)
  have hw2:IntKind.i64.wrap ((at':Int)+(i:Int))=((at'+i:Nat):Int):=by rw [wrap64 (by omega) (by omega)];omega
  have hax2:at? (c.nums.map (V.int .i64)) ((at':Int)+(i:Int))=some (iv x):=zC8 hx1
  have kb:=fun H=>zot (B:=0) (v:=zab (atL L v)) x x (hb v hvm) H (.inl rfl)
  obtain ⟨R,hR⟩:∃ R,R=(atL L v).filter (zxn x x):=⟨_,rfl⟩
  have bo:=zAE (zs:=atL L v) (x:=x)
  rw [←hR] at bo
  rw [←hR] at kb
  have ez:ziu L (c.vars.drop i) (c.nums.drop (at'+i))=((atL L v).contains x&&ziu L (c.vars.drop (i+1)) (c.nums.drop (at'+(i+1)))):=by
   rw [List.drop_eq_getElem_cons hlt,List.drop_eq_getElem_cons hlx,←hvv,←hxx]
   simp [ziu,Nat.add_assoc]
  rw [ez]
  cases hc:(atL L v).contains x with
  | true=>
   rw [hc] at bo
   obtain ⟨fr',H',ih⟩:=ih (i+1) (H++[.row 1 (R.map (V.int .i64))]) (by omega) (za3 h0)
   simp only [Int.natCast_add,Int.cast_ofNat_Int] at ih hw2
   refine ⟨fr',H',?_⟩
   have bo2:((R.length:Int)==0)=false:=bo
   rw [Bool.true_and,←ih,zjp]
   simp [zd7,h0,l0,h0g,hlt,hv1,hv2,hi4,hwr,hw2,hat,hax2,kb,bo2]
  | false=>
   rw [hc] at bo
   refine ⟨[],H++[.row 1 (R.map (V.int .i64))],?_⟩
   have bo2:((R.length:Int)==0)=true:=bo
   simp only [Int.natCast_add] at hw2
   rw [Bool.false_and,if_neg (by simp),zjp]
   simp [zd7,h0,l0,h0g,hlt,hv1,hv2,hi4,hwr,hw2,hat,hax2,kb,bo2]
theorem zw5 {c:Con} {L:Ls} {at':Nat} (h9:c.vars.length≤9) (hn:c.nums.length≤1000) (ha:at'+c.vars.length≤c.nums.length) (hv:∀ v∈c.vars,0≤v∧v<L.length) (hb:∀ v∈c.vars,(atL L v).length≤1000000) (h:List Ob):acw C ziH [zaq c,lsV L,iv at'] h=some (.ret (.bool (ziu L c.vars (c.nums.drop at'))),h):=by
 obtain ⟨fr',H',e⟩:=zEg h9 hn ha hv hb c.vars.length 0 [.row 6 [zaq c]] (by omega) rfl
 simp only [Int.cast_ofNat_Int,List.drop_zero,Nat.add_zero] at e
 refine zar (v:=.bool _) (CT zui) rfl rfl (fun _=>rfl) (by simp) ⟨H',?_⟩
 cases r:ziu L c.vars (c.nums.drop at') with
 | true=>
  rw [r,if_pos rfl] at e
  simp [zaa,ziG,zlY,e]
 | false=>
  rw [r,if_neg (by simp)] at e
  simp [zaa,ziG,zlY,e]
def zBp (c:Con) (L:Ls) (i:Nat) (x:Int):Nat→Nat→Bool
 | 0,_=>false
 | m+1,a=>(c.nums.getD (a+i) 0==x&&ziu L c.vars (c.nums.drop a))||zBp c L i x m (a+c.vars.length)
theorem tab_l0 {c:Con} {L:Ls} {q1 q7:V} {i k:Nat} {v x:Int} (h9:1≤c.vars.length∧c.vars.length≤9) (hn:c.nums.length≤1000) (hv:∀ v∈c.vars,0≤v∧v<L.length) (hb:∀ v∈c.vars,(atL L v).length≤1000000) (hi:c.vars[i]? = some v) (hx:(atL L v)[k]? = some x) (H:List Ob) (h0:H[0]? = some (.row 6 [zaq c])):∀ (m a:Nat) (is:Bool),a+m*c.vars.length=c.nums.length →
  evw C y0 zi9 [(1,q1),(2,.ptr 0 0 0 1),(6,lsV L),(7,q7),(8,iv c.vars.length),(9,iv i),(10,iv v),(11,iv k),(12,.bool is),(13,iv a)] H =
   some (.ext 4,[(1,q1),(2,.ptr 0 0 0 1),(6,lsV L),(7,q7),(8,iv c.vars.length),(9,iv i),(10,iv v),(11,iv k),(12,.bool (is||zBp c L i x m a)),(13,iv c.nums.length),(50,.bool false)],H):=by
 have l0:0<H.length:=(List.getElem?_eq_some_iff.1 h0).1
 have h0g:∀ h:0<H.length,H[0]'h=.row 6 [zaq c]:=fun _=>(List.getElem?_eq_some_iff.1 h0).2
 have hvm:v∈c.vars:=List.mem_of_getElem? hi
 have hvb:=hv v hvm
 have hat:=zo8 hvb.1 hvb.2
 have hilt:=(List.getElem?_eq_some_iff.1 hi).1
 obtain ⟨xs,hxs⟩:∃ xs,xs=atL L v:=⟨_,rfl⟩
 rw [←hxs] at hat hx
 obtain ⟨hk,hx'⟩:=List.getElem?_eq_some_iff.1 hx
 have hx2:∀ h:k<xs.length,xs[k]'h=x:=fun _=>hx'
 have hk4:(k:Int)<xs.length:=by omega
 intro m
 induction m with
 | zero=>
  intro a is hin
  have:a=c.nums.length:=by omega
  subst this
  rw [zBp,zo0]
  simp [zdr,h0,l0,h0g]
 | succ m ih=>
  intro a is hin
  rw [Nat.succ_mul] at hin
  have hlx:a+i<c.nums.length:=by omega
  have hlt:(a:Int)<c.nums.length:=by omega
  obtain ⟨y,hyy⟩:∃ v,v=c.nums[a+i]:=⟨_,rfl⟩
  have hy1:c.nums[a+i]? = some y:=by simp [hlx,hyy]
  have hw2:IntKind.i64.wrap ((a:Int)+(i:Int))=(a:Int)+(i:Int):=wrap64 (by omega) (by omega)
  have hw3:IntKind.i64.wrap ((a:Int)+(c.vars.length:Int))=(a:Int)+(c.vars.length:Int):=wrap64 (by omega) (by omega)
  have hax2:at? (c.nums.map (V.int .i64)) ((a:Int)+(i:Int))=some (iv y):=zC8 hy1
  have ka:=fun h=>zw5 (c:=c) (L:=L) (at':=a) h9.2 hn (by omega) hv hb h
  have eT:zBp c L i x (m+1) a=((y==x&&ziu L c.vars (c.nums.drop a))||zBp c L i x m (a+c.vars.length)):=by
   rw [zBp,zez hy1]
  have ih:=ih (a+c.vars.length) (is||(y==x&&ziu L c.vars (c.nums.drop a))) (by omega)
  simp only [Int.natCast_add] at ih
  rw [eT,←Bool.or_assoc,←ih,zo0]
  cases is with
  | true=>simp [zdr,h0,l0,h0g,hlt,hw3]
  | false=>
   cases hyx:y==x with
   | false=>simp [zdr,h0,l0,h0g,hlt,hw2,hw3,hax2,hat,hx,hx2,hk,hk4,hyx]
   | true=>simp [zdr,h0,l0,h0g,hlt,hw2,hw3,hax2,hat,hx,hx2,hk,hk4,hyx,ka]
structure TabR (c:Con) (L:Ls):Prop where
 h9:1≤c.vars.length∧c.vars.length≤9
 hn:c.nums.length≤1000
 hm:c.nums.length / c.vars.length*c.vars.length=c.nums.length
 hv:∀ v∈c.vars,0≤v∧v<L.length
 hb:∀ v:Int,(atL L v).length≤1000000
 hL:L.length≤1000
 nd:c.vars.Nodup
def zpX (c:Con) (L:Ls) (i:Nat) (x:Int):Bool:=zBp c L i x (c.nums.length / c.vars.length) 0
theorem zEH {c:Con} {L:Ls} (R:TabR c L) {q1:V} {i:Nat} {v:Int} (hi:c.vars[i]? = some v):∀ (n k:Nat) (H:List Ob) (X:List V) (G:Ls),k+n=(atL L v).length→H[0]? = some (.row 6 [zaq c])→H[2]? = some (.row 1 X)→zqV 3 H X G→G.length=L.length→(G.getD v.toNat []).length≤k →
  ∃ H' X',evw C y0 zj2 [(1,q1),(2,.ptr 0 0 0 1),(6,lsV L),(7,.own 2 0 L.length L.length),(8,iv c.vars.length),(9,iv i),(10,iv v),(11,iv k)] H =
   some (.ext 2,[(1,q1),(2,.ptr 0 0 0 1),(6,lsV L),(7,.own 2 0 L.length L.length),(8,iv c.vars.length),(9,iv i),(10,iv v),(11,iv (atL L v).length),(43,.bool false)],H')∧H'[0]? = some (.row 6 [zaq c])∧H'[2]? = some (.row 1 X')∧zqV 3 H' X' (G.set v.toNat (G.getD v.toNat []++((atL L v).drop k).filter (zpX c L i))):=by
 have hvm:v∈c.vars:=List.mem_of_getElem? hi
 have hvb:=R.hv v hvm
 have hb:=R.hb v
 have hL:=R.hL
 obtain ⟨xs,hxs⟩:∃ xs,xs=atL L v:=⟨_,rfl⟩
 have hat:=zo8 hvb.1 hvb.2
 have hv0:=hvb.1
 have hv3:=hvb.2
 have hvn:v.toNat<L.length:=by omega
 rw [←hxs] at hat hb ⊢
 intro n
 induction n with
 | zero=>
  intro k H X G hin h0 h2 g hG hk
  have:k=xs.length:=by omega
  subst this
  refine ⟨H,X,?_,h0,h2,?_⟩
  ·rw [zkZ]
   simp [ze4,hat]
  ·rw [List.drop_length,List.filter_nil,List.append_nil,zuE];exact g
 | succ n ih=>
  intro k H X G hin h0 h2 g hG hk
  have hlt:k<xs.length:=by omega
  obtain ⟨x,hx⟩:∃ x,x=xs[k]:=⟨_,rfl⟩
  have hx1:xs[k]? = some x:=by simp [hlt,hx]
  have hx2:∀ h:k<xs.length,xs[k]'h=x:=fun _=>hx.symm
  have hi4:(k:Int)<xs.length:=by omega
  have hwr:=zac hlt (by omega)
  have l0:0<H.length:=(List.getElem?_eq_some_iff.1 h0).1
  have l2:2<H.length:=(List.getElem?_eq_some_iff.1 h2).1
  have h0g:∀ h:0<H.length,H[0]'h=.row 6 [zaq c]:=fun _=>(List.getElem?_eq_some_iff.1 h0).2
  have h2g:∀ h:2<H.length,H[2]'h=.row 1 X:=fun _=>(List.getElem?_eq_some_iff.1 h2).2
  have h2t:∀ t,(H++t)[2]? = some (.row 1 X):=fun t=>za3 h2
  have hXl:X.length=L.length:=by rw [g.n];exact hG
  have e0:=tab_l0 (q1:=q1) (q7:=.own 2 0 L.length L.length) R.h9 R.hn R.hv (fun v _=>R.hb v) hi (by rw [←hxs];exact hx1) H h0 (c.nums.length / c.vars.length) 0 false (by rw [R.hm];omega)
  simp only [Int.cast_ofNat_Int,Bool.false_or] at e0
  have e1:zBp c L i x (c.nums.length / c.vars.length) 0=zpX c L i x:=rfl
  rw [e1] at e0
  rw [List.drop_eq_getElem_cons hlt,←hx]
  cases hc:zpX c L i x with
  | false=>
   rw [hc] at e0
   obtain ⟨H',X',ih,r1,r2,r3⟩:=ih (k+1) H X G (by omega) h0 h2 g hG (by omega)
   simp only [Int.natCast_add,Int.cast_ofNat_Int] at ih
   rw [List.filter_cons_of_neg (by simpa using hc)]
   refine ⟨H',X',?_,r1,r2,r3⟩
   rw [←ih,zkZ]
   simp [ze4,hat,hx1,hx2,hlt,hi4,hwr,e0]
  | true=>
   rw [hc] at e0
   rw [List.filter_cons_of_pos (by simpa using hc)]
   obtain ⟨u,hu,hlv⟩:=g.get (j:=v.toNat) (by rw [hG];omega)
   have hGv:G.getD v.toNat []=G[v.toNat]'(by rw [hG];omega):=zez (List.getElem?_eq_getElem (by rw [hG];omega))
   rw [←hGv] at hlv
   obtain ⟨zs,hzs⟩:∃ zs,zs=G.getD v.toNat []:=⟨_,rfl⟩
   rw [←hzs] at hlv hk ⊢
   have hX2:v.toNat<X.length:=by omega
   have hu2:∀ h:v.toNat<X.length,X[v.toNat]'h=u:=fun h=>(List.getElem?_eq_some_iff.1 hu).2
   have hov:∀ w,over u 0 [w]=some w:=fun w=>hlv.over
   have hc1:u.cells=[u]:=by rcases hlv with rfl|⟨rfl,-⟩|⟨id,-,rfl,-⟩<;>rfl
   obtain ⟨w1,a1,a2,a3⟩:=zvH hlv (by omega)
   have bb:zii (.int .i64 0) [iv x]=some (.sl 1 [iv x]):=rfl
   obtain ⟨H2,hH2⟩:∃ H2,H2=H.set 2 (.row 1 (X.set v.toNat (.own H.length 0 (zs.length+1) (zs.length+1))))++[.row 1 (zs.map (V.int .i64)++[iv x])]:=⟨_,rfl⟩
   have gm:=zqV.more (B:=3) h2 (by omega) (by omega) g v.toNat (zs++[x]) (zs.length+1) (by simp) (zs.map (V.int .i64)++[iv x]) (by simp)
   rw [←hH2] at gm
   have hsd:(G.set v.toNat (zs++[x])).getD v.toNat []=zs++[x]:=zct (by rw [hG];omega)
   obtain ⟨H',X',ih,r1,r2,r3⟩:=ih (k+1) H2 _ (G.set v.toNat (zs++[x])) (by omega) (by rw [hH2,List.getElem?_append_left (by simp;omega),List.getElem?_set_ne (by omega)];exact h0) gm.2 gm.1 (by rw [List.length_set];exact hG) (by rw [hsd];simp;omega)
   rw [hsd,List.set_set,List.append_assoc,List.singleton_append] at r3
   simp only [Int.natCast_add,Int.cast_ofNat_Int] at ih
   refine ⟨H',X',?_,r1,r2,r3⟩
   have hwH:∀ t o,wr (H++t) (some (2,o))=H.set 2 o++t:=fun t o=>by rw [zfi (by simp;omega),List.set_append_left _ _ l2]
   have hwE:∀ r o,wr (H++[r]) (some (H.length,o))=H++[o]:=fun r o=>by rw [zfi (by simp),List.set_append_right _ _ (Nat.le_refl _)];simp
   rw [←ih,hH2,zkZ]
   simp [ze4,hat,hx1,hx2,hlt,hi4,hwr,e0,h0,l0,h0g,h2,h2g,h2t,l2,hu,hu2,hX2,hXl,hvn,hv0,hv3,hov,hc1,a1,a2,a3,bb,hwH,hwE]
theorem zDI {c:Con} {L:Ls} (R:TabR c L) {q1:V}:∀ (n i:Nat) (H:List Ob) (X:List V),i+n=c.vars.length→H[0]? = some (.row 6 [zaq c])→H[2]? = some (.row 1 X)→zqV 3 H X (zqL c.vars L (zpX c L) i) →
  ∃ H' X',evw C y0 zjs [(1,q1),(2,.ptr 0 0 0 1),(6,lsV L),(7,.own 2 0 L.length L.length),(8,iv c.vars.length),(9,iv i)] H =
   some (.ext 0,[(1,q1),(2,.ptr 0 0 0 1),(6,lsV L),(7,.own 2 0 L.length L.length),(8,iv c.vars.length),(9,iv c.vars.length),(29,.bool false)],H')∧H'[2]? = some (.row 1 X')∧zqV 3 H' X' (zqL c.vars L (zpX c L) c.vars.length):=by
 intro n
 induction n with
 | zero=>
  intro i H X hin h0 h2 g
  have:i=c.vars.length:=by omega
  subst this
  refine ⟨H,X,?_,h2,g⟩
  rw [zou]
  simp [zhm]
 | succ n ih=>
  intro i H X hin h0 h2 g
  have h9:=R.h9.2
  have hlt:i<c.vars.length:=by omega
  obtain ⟨w,hw⟩:∃ w,w=c.vars[i]:=⟨_,rfl⟩
  have hv1:c.vars[i]? = some w:=by simp [hlt,hw]
  have hv2:∀ h:i<c.vars.length,c.vars[i]'h=w:=fun _=>hw.symm
  have hi4:(i:Int)<c.vars.length:=by omega
  have hwr:=zac hlt (by omega)
  have l0:0<H.length:=(List.getElem?_eq_some_iff.1 h0).1
  have h0g:∀ h:0<H.length,H[0]'h=.row 6 [zaq c]:=fun _=>(List.getElem?_eq_some_iff.1 h0).2
  have hnil:=zx0 (L:=L) (p:=zpX c L) R.nd (fun v h=>(R.hv v h).1) hlt
  rw [←hw] at hnil
  obtain ⟨H1,X1,e1,r0,r1,r2⟩:=zEH R (q1:=q1) hv1 (atL L w).length 0 H X _ (by omega) h0 h2 g zn5 (by rw [hnil];simp)
  simp only [List.drop_zero,hnil,List.nil_append,Int.cast_ofNat_Int] at e1 r2
  have hG:zqL c.vars L (zpX c L) (i+1)=(zqL c.vars L (zpX c L) i).set w.toNat ((atL L w).filter (zpX c L i)):=by
   rw [zqL,zez hv1]
  rw [←hG] at r2
  obtain ⟨H',X',ih,s1,s2⟩:=ih (i+1) H1 X1 (by omega) r0 r1 r2
  simp only [Int.natCast_add,Int.cast_ofNat_Int] at ih
  refine ⟨H',X',?_,s1,s2⟩
  rw [←ih,zou]
  simp [zhm,hlt,hv1,hv2,hi4,hwr,h0,l0,h0g,e1]
theorem zCI {L:Ls} {vs r:List Int}:zgz vs L r=ziu L vs r:=rfl
theorem zAn {xs:List Int} {n i:Nat} (h:i<n):(xs.take n).getD i 0=xs.getD i 0:=by
 rw [List.getD,List.getD,List.getElem?_take,if_pos h]
theorem zzy {xs:List Int} {a i:Nat}:(xs.drop a).getD i 0=xs.getD (a+i) 0:=by
 rw [List.getD,List.getD,List.getElem?_drop]
theorem zvT {c:Con} {L:Ls} {i:Nat} {x:Int} (hi:i<c.vars.length):∀ {m a:Nat},((zgA c.vars.length m (c.nums.drop a)).any fun r=>zgz c.vars L r&&(r.getD i 0==x))=zBp c L i x m a
 | 0,a=>rfl
 | m+1,a=>by
  rw [zgA,List.any_cons,zBp,List.drop_drop,zvT hi,zCI,zsm,zAn hi,zzy,Bool.and_comm]
theorem zyM {c:Con} {l:Ds} (hc:c150 c) (hk:c.kind=6) (hr:zaC c l.length=true) (ok:okL l) (hn:l.length≤16) (h:List Ob):acw C zkF [zaq c,dsV l] h=some (.ret (.tup [dsV (zai c l),iv 0]),h):=by
 have hl:zmK l:=zo3 ok (by omega)
 have hR:=RC.of hr
 have ht:=hR.t hk
 have v8:=hR.v8
 have kr:∀ h,acw C zaQ [zaq c,dsV l,.sl 1 [iv 6]] h=some (.ret (.bool true),h):=fun h=>zgZ (ks:=[6]) hc hl (by simp) (by simp [hk]) hr ok h
 have kL:=fun h=>zgL l hl h
 have hv:∀ v∈c.vars,0≤v∧v<(lists l).length:=fun v h=>by rw [zah];exact hR.b v h
 have R:TabR c (lists l):=⟨⟨ht.1,v8.1⟩,by omega,by
  have:=Nat.div_add_mod c.nums.length c.vars.length
  rw [ht.2,Nat.mul_comm] at this
  omega,hv,zbL,by rw [zah];omega,hR.nd⟩
 have kN:=fun h=>ziV (c:=c) (L:=lists l) (by omega) (by rw [zah];omega) hv h
 rw [zah] at kN
 have bb:zii (.int .i64 0) [iv 6]=some (.sl 1 [iv 6]):=rfl
 obtain ⟨H',X',e,r1,r2⟩:=zDI R (q1:=dsV l) c.vars.length 0 [.row 6 [zaq c],.row 6 [zaq c],.row 1 (zd6 c.vars (lists l))] (zd6 c.vars (lists l)) (by omega) rfl rfl zqV.none
 rw [zah] at e
 simp only [Int.cast_ofNat_Int] at e
 have hlen:(zqL c.vars (lists l) (zpX c (lists l)) c.vars.length).length=l.length:=by rw [zn5,zah]
 have hz:=zpT (l:=l) r1 r2 hlen.symm
 have kK:=fun h=>zdv l hl (zqL c.vars (lists l) (zpX c (lists l)) c.vars.length) hlen (zqt zbL zbr) h
 have hst:zbT l (zqL c.vars (lists l) (zpX c (lists l)) c.vars.length)=zai c l:=by
  refine zxE (p:=zpX c (lists l)) hR fun i hi x hx=>?_
  rw [zr8 (List.getElem_mem hi),if_neg (by omega),if_neg (by omega),if_neg (by omega),if_neg (by omega),if_neg (by omega)]
  unfold zEq zpX
  rw [zu0 hR.nd (List.getElem?_eq_getElem hi),←zvT hi,List.drop_zero]
 rw [hst] at kK
 refine zar (v:=.tup [dsV (zai c l),iv 0]) (CT zwo) rfl rfl (fun _=>rfl) (by simp) ⟨H'.map fun _=>.dead,?_⟩
 simp [zaa,zmW,zq9,kr,kL,kN,e,hz,kK,bb]
theorem zy3 {c:Con} {l:Ds} (hc:c150 c) (hr:zaC c l.length=true) (ok:okL l) (hn:l.length≤16) (h:List Ob):acw C zkN [zaq c,dsV l] h=some (.ret (.tup [dsV (zai c l),iv 0]),h):=by
 have hk:=zt9 hr
 have:c.kind=1∨c.kind=3∨c.kind=2∨c.kind=4∨c.kind=5∨c.kind=6:=by omega
 refine zar (v:=.tup [dsV (zai c l),iv 0]) (CT zvN) rfl rfl (fun _=>rfl) (by simp) ⟨[.row 6 [zaq c]],?_⟩
 rcases this with e|e|e|e|e|e
 ·have k:=fun h=>zzQ hc e hr ok hn (zpf hr (.inl e)) h
  have b1:(c.kind==1)=true:=by rw [e];rfl
  simp [zaa,zcZ,zdU,k,b1]
 ·have k:=fun h=>zAf hc e hr ok hn (zpf hr (.inr e)) h
  have b1:(c.kind==1)=false:=by rw [e];rfl
  have b3:(c.kind==3)=true:=by rw [e];rfl
  simp [zaa,zcZ,zdU,k,b1,b3]
 ·have k:=fun h=>zyV hc e hr ok hn h
  have b1:(c.kind==1)=false:=by rw [e];rfl
  have b3:(c.kind==3)=false:=by rw [e];rfl
  have b2:(c.kind==2)=true:=by rw [e];rfl
  simp [zaa,zcZ,zdU,k,b1,b3,b2]
 ·have k:=fun h=>zyE hc e hr ok hn h
  have b1:(c.kind==1)=false:=by rw [e];rfl
  have b3:(c.kind==3)=false:=by rw [e];rfl
  have b2:(c.kind==2)=false:=by rw [e];rfl
  have b4:(c.kind==4)=true:=by rw [e];rfl
  simp [zaa,zcZ,zdU,k,b1,b3,b2,b4]
 ·have k:=fun h=>zze hc e hr ok hn h
  have b1:(c.kind==1)=false:=by rw [e];rfl
  have b3:(c.kind==3)=false:=by rw [e];rfl
  have b2:(c.kind==2)=false:=by rw [e];rfl
  have b4:(c.kind==4)=false:=by rw [e];rfl
  have b5:(c.kind==5)=true:=by rw [e];rfl
  simp [zaa,zcZ,zdU,k,b1,b3,b2,b4,b5]
 ·have k:=fun h=>zyM hc e hr ok hn h
  have b1:(c.kind==1)=false:=by rw [e];rfl
  have b3:(c.kind==3)=false:=by rw [e];rfl
  have b2:(c.kind==2)=false:=by rw [e];rfl
  have b4:(c.kind==4)=false:=by rw [e];rfl
  have b5:(c.kind==5)=false:=by rw [e];rfl
  have b6:(c.kind==6)=true:=by rw [e];rfl
  simp [zaa,zcZ,zdU,k,b1,b3,b2,b4,b5,b6]
section
variable {cs:List Con} {m0:Nat}
theorem zzA (hcl:cs.length≤1000) (hcs:∀ c∈cs,c150 c) (hm0:m0≤16) (hRB:∀ c∈cs,zaC c m0=true) (q6:V) (h:List Ob):∀ (n:Nat) (l:Ds),n≤cs.length→okL l→l.length=m0 →
  ∃ l',evw C y0 zjq [(0,zaW cs),(1,dsV l),(6,q6),(7,iv ((n:Int)-1))] h=some (.ext 2,[(0,zaW cs),(1,dsV l'),(6,q6),(7,iv (-1)),(14,.bool false)],h)∧Steps cs l l'∧LeL l' l∧(l'=l→∀ c∈cs.take n,zai c l=l):=by
 intro n
 induction n with
 | zero=>
  intro l hn ok hl
  refine ⟨l,?_,.refl,LeL.refl ok,fun _ c hc=>by simp at hc⟩
  rw [zoI]
  simp [zha]
 | succ n ih=>
  intro l hn ok hl
  have hlt:n<cs.length:=by omega
  obtain ⟨c,hc⟩:∃ c,c=cs[n]:=⟨_,rfl⟩
  have hcm:c∈cs:=by rw [hc];exact List.getElem_mem hlt
  have hc1:cs[n]? = some c:=by simp [hlt,hc]
  have hc2:∀ h:n<cs.length,cs[n]'h=c:=fun _=>hc.symm
  have ks:=fun h=>zy3 (hcs c hcm) (by rw [hl];exact hRB c hcm) ok (by omega) h
  have le:=zkT (c:=c) ok
  obtain ⟨l',e,s,hle,f⟩:=ih (zai c l) (by omega) le.okl (by rw [zby];exact hl)
  refine ⟨l',?_,(Steps.step .refl hcm).trans s,hle.trans le,fun q=>?_⟩
  ·have hw:IntKind.i64.wrap ((n:Int)-1)=(n:Int)-1:=wrap64 (by omega) (by omega)
   have e0:((n+1:Nat):Int)-1=(n:Int):=by omega
   rw [e0,←e,zoI]
   simp [zha,hlt,hc1,hc2,ks,hw]
  ·have e1:zai c l=l:=by
    refine le.anti ?_
    have h2:=hle
    rw [q] at h2
    exact h2
   intro d hd
   rw [List.take_succ_eq_append_getElem hlt,List.mem_append,List.mem_singleton] at hd
   rcases hd with hd|rfl
   ·have:=f (by rw [q,e1]) d hd
    rw [e1] at this
    exact this
   ·rw [←hc];exact e1
theorem zCj (hcl:cs.length≤1000) (hcs:∀ c∈cs,c150 c) (hm0:m0≤16) (hRB:∀ c∈cs,zaC c m0=true) (h:List Ob):∀ (N:Nat) (l:Ds),tot l≤N→okL l→l.length=m0 →
  ∃ A,evw C y0 zjz [(0,zaW cs),(1,dsV l),(5,.bool true)] h=some (.ext 0,[(0,zaW cs),(1,dsV A),(8,.bool false)],h)∧Steps cs l A∧fixed cs A:=by
 intro N
 induction N with
 | zero=>
  intro l hN ok hl
  obtain ⟨l',e,s,le,f⟩:=zzA hcl hcs hm0 hRB (dsV l) h cs.length l (Nat.le_refl _) ok hl
  have eq:l'=l:=Classical.byContradiction fun q=>by have:=(zsg le).2 q;omega
  subst eq
  have hs:=fun h=>zoe l' l' (zo3 ok (by omega)) h
  rw [decide_eq_true rfl] at hs
  have hw:IntKind.i64.wrap ((cs.length:Int)-1)=(cs.length:Int)-1:=wrap64 (by omega) (by omega)
  refine ⟨l',?_,.refl,fun c hc=>f rfl c (by rw [List.take_length];exact hc)⟩
  rw [zeE]
  simp [zcv,e,hs,hw]
  rw [zeE]
  simp [zcv]
 | succ N ih=>
  intro l hN ok hl
  obtain ⟨l',e,s,le,f⟩:=zzA hcl hcs hm0 hRB (dsV l) h cs.length l (Nat.le_refl _) ok hl
  have hs:=fun h=>zoe l l' (zo3 ok (by omega)) h
  have hw:IntKind.i64.wrap ((cs.length:Int)-1)=(cs.length:Int)-1:=wrap64 (by omega) (by omega)
  by_cases q:l'=l
  ·subst q
   rw [decide_eq_true rfl] at hs
   refine ⟨l',?_,.refl,fun c hc=>f rfl c (by rw [List.take_length];exact hc)⟩
   rw [zeE]
   simp [zcv,e,hs,hw]
   rw [zeE]
   simp [zcv]
  ·rw [decide_eq_false (fun p=>q p.symm)] at hs
   obtain ⟨A,ih,s2,f2⟩:=ih l' (by have:=(zsg le).2 q;omega) le.okl (by have:=le.1;omega)
   refine ⟨A,?_,s.trans s2,f2⟩
   rw [←ih]
   conv=>lhs;rw [zeE]
   simp [zcv,e,hs,hw]
end
theorem zyz (cs:List Con) (hcl:cs.length≤1000) (hcs:∀ c∈cs,c150 c) (l:Ds) (hr:zbH cs l=true):∃ A,(∀ h,acw C zkt [zaW cs,dsV l] h=some (.ret (dsV A),h))∧Steps cs l A∧fixed cs A:=by
 have hr2:=hr
 unfold zbH at hr2
 simp only [Bool.and_eq_true,decide_eq_true_eq] at hr2
 obtain ⟨⟨h16,hRB⟩,hma⟩:=hr2
 obtain ⟨A,e,s,f⟩:=zCj (m0:=l.length) hcl hcs h16 (List.all_eq_true.1 hRB) [] (tot l) l (Nat.le_refl _) (zgu hma) rfl
 refine ⟨A,fun h=>?_,s,f⟩
 refine zar (v:=dsV A) (CT zwx) rfl rfl (fun _=>rfl) (by simp) ⟨[],?_⟩
 simp [zaa,znH,zq8,e]
theorem zCC {cs:List Con} (hcl:cs.length≤1000) (hcs:∀ c∈cs,c150 c) {A:Ds} (okA:okL A) (hA:A.length≤16) (hRB:∀ c∈cs,zaC c A.length=true) (fx:fixed cs A):∀ (n i:Nat) (h:List Ob),i+n=cs.length →
  ∃ h',evw C y0 zg0 [(7,dsV A),(81,zaW cs),(82,iv cs.length),(83,iv i)] h=some (.ext 0,[(7,dsV A),(81,zaW cs),(82,iv cs.length),(83,iv cs.length),(84,.bool false)],h'):=by
 intro n
 induction n with
 | zero=>
  intro i h hin
  have:i=cs.length:=by omega
  subst this
  refine ⟨h,?_⟩
  rw [zmz]
  simp [ze9]
 | succ n ih=>
  intro i h hin
  have hlt:i<cs.length:=by omega
  obtain ⟨c,hc⟩:∃ c,c=cs[i]:=⟨_,rfl⟩
  have hcm:c∈cs:=by rw [hc];exact List.getElem_mem hlt
  have hc1:cs[i]? = some c:=by simp [hlt,hc]
  have hc2:∀ h:i<cs.length,cs[i]'h=c:=fun _=>hc.symm
  have hi4:(i:Int)<cs.length:=by omega
  have hwr:=zac hlt (by omega)
  have hDA:zmK A:=zo3 okA (by omega)
  have ks:=fun h=>zrP c (hcs c hcm) A hDA h
  have eF:zru c A=(A,0):=by
   unfold zru
   rw [hRB c hcm,zsf okA,fx c hcm]
   rfl
  rw [eF] at ks
  have ko:=fun h=>zsZ (l:=A) (by omega) h
  have kS:=fun h=>zoe A A hDA h
  rw [decide_eq_true rfl] at kS
  obtain ⟨h',ih⟩:=ih (i+1) (h++[.row 6 [zaq c]]) (by omega)
  simp only [Int.natCast_add,Int.cast_ofNat_Int] at ih
  refine ⟨h',?_⟩
  rw [←ih,zmz]
  simp [ze9,hlt,hc1,hc2,hi4,hwr,ks,ko,kS]
theorem fixOne (cs:List Con) (l:Ds) (ord:List Int) (hl1:l.length≤9223372036854775807) (hlive:∀ d∈l,d.live<18446744073709551616) (h:List Ob) :
  acw C zhq [zaW cs,dsV l,zab ord] h=some (.ret (.bool true),h):=by
 have k0:=awake
 have kL:=fun h=>zwN cs l hl1 h
 cases c1:l17L cs l with
 | true=>
  rw [c1] at kL
  refine zar (v:=.bool true) (CT zhu) rfl rfl (fun _=>rfl) (by simp) ⟨[],?_⟩
  simp [zaa,zdx,zeH,k0,kL]
 | false=>
  rw [c1] at kL
  by_cases c0:(40:Int)<ord.length
  ·refine zar (v:=.bool true) (CT zhu) rfl rfl (fun _=>rfl) (by simp) ⟨[],?_⟩
   simp [zaa,zdx,zeH,k0,kL,c0]
  obtain ⟨hcl,hcs,hl,hl20⟩:=zEy c1 hlive
  obtain ⟨a,n,e,ra,kr⟩:=zuJ cs hcl hcs l hl
  obtain ⟨b,f,rb,ko⟩:=zwl cs hcl hcs l hl ord (by omega)
  have kow:=fun h=>zsZ (l:=l) (by omega) h
  unfold zEo at ra
  unfold OrdA at rb
  cases c2:zbH cs l with
  | false=>
   rw [c2,if_neg (by simp)] at ra
   rw [c2,if_neg (by simp)] at rb
   obtain ⟨rfl,rfl,rfl⟩:=ra
   obtain ⟨rfl,rfl⟩:=rb
   have kR:=fun h=>zwZ cs hcs (by omega) l hl h
   rw [c2] at kR
   simp only [dsV,List.map_nil] at kr ko
   refine zar (v:=.bool true) (CT zhu) rfl rfl (fun _=>rfl) (by simp) ⟨[],?_⟩
   simp [zaa,zdx,zeH,k0,kL,c0,kr,ko,kow,kR]
  | true=>
   rw [c2,if_pos rfl] at ra rb
   obtain ⟨rfl,st,fx,m,rfl,-⟩:=ra
   obtain ⟨rfl,st2,fx2⟩:=rb
   obtain ⟨ok,rc,h16⟩:=zEB c2
   obtain ⟨A,kA,st3,fx3⟩:=zyz cs (by omega) hcs l c2
   obtain rfl:b=a:=Steps.one ok rc st2 fx2 st fx
   obtain rfl:A=b:=Steps.one ok rc st3 fx3 st fx
   have le:=Steps.le ok st
   have hln:A.length=l.length:=le.1
   have hDA:zmK A:=zo3 le.okl (by omega)
   have kS:=fun h=>zoe A A hDA h
   rw [decide_eq_true rfl] at kS
   have koA:=fun h=>zsZ (l:=A) (by omega) h
   have hr2:=c2
   unfold zbH at hr2
   simp only [Bool.and_eq_true,decide_eq_true_eq] at hr2
   obtain ⟨h',e1⟩:=zCC (by omega) hcs le.okl (by omega) (by rw [hln];exact List.all_eq_true.1 hr2.1.2) fx cs.length 0 [] (by omega)
   simp only [Int.cast_ofNat_Int] at e1
   refine zar (v:=.bool true) (CT zhu) rfl rfl (fun _=>rfl) (by simp) ⟨h',?_⟩
   simp [zaa,zdx,zeH,k0,kL,c0,kr,ko,kow,koA,kS,kA,e1]
theorem zDE (cs:List Con) (l:Ds) (ord:List Int) (l0:cs.length≤maxLen) (l1:l.length≤maxLen) (y1:∀ d∈l,d.live<18446744073709551616) (l2:ord.length≤maxLen) (h:List Ob) :
  acw C zhq [zaW cs,dsV l,zab ord] h=some (.ret (.bool true),h):=fixOne cs l ord (Nat.le_trans l1 max_ok) y1 h
end Go.RR.FX
