/- What all constraints leave: who waits when something changed. -/
import Derived.Test.YtlligemlmccfnaaGreatDoorRX2
import Derived.Test.YtlligemlmccfnaaGreatDoorRX1
import Derived.KernelRfl
import Derived.Test.YtlligemlmccfnaaGreatDoorR5
set_option linter.unusedSimpArgs false
set_option linter.unusedVariables false
set_option maxHeartbeats 8000000
set_option maxRecDepth 100000
namespace Go.RR.FX
open Go Go.RR Go.RR.M
open Go.RR.TU (Mv TR putS chg iL)
structure WQ (cs:List Con) (lst:List Int):Prop where
 nd:lst.Nodup
 r:∀ x∈lst,∃ k:Nat,k<cs.length∧x=k
theorem WQ.len {cs:List Con} {lst:List Int} (w:WQ cs lst):lst.length≤cs.length:=by
 have h1:(lst.map Int.toNat).Nodup:=by
  rw [List.nodup_iff_pairwise_ne,List.pairwise_map]
  refine List.Pairwise.imp_of_mem (fun {a b} ha hb hne q=>?_) w.nd
  obtain ⟨k,-,rfl⟩:=w.r a ha
  obtain ⟨m,-,rfl⟩:=w.r b hb
  simp at q
  exact hne (by rw [q])
 have h2:=TU.nodup_le (m:=List.range cs.length) h1 fun z hz=>by
  obtain ⟨x,hx,rfl⟩:=List.mem_map.1 hz
  obtain ⟨k,hk,rfl⟩:=w.r x hx
  simpa using hk
 simpa using h2
theorem WQ.add {cs:List Con} {lst:List Int} (w:WQ cs lst) {k:Nat} (hk:k<cs.length):WQ cs (if (k:Int)∈lst then lst else lst++[(k:Int)]):=by
 by_cases c:(k:Int)∈lst
 ·rw [if_pos c];exact w
 ·rw [if_neg c]
  refine ⟨?_,fun x hx=>?_⟩
  ·rw [List.nodup_append]
   refine ⟨w.nd,by simp,fun u hu y hy=>?_⟩
   have:y=(k:Int):=by simpa using hy
   subst this
   intro e
   subst e
   exact c hu
  ·rcases List.mem_append.1 hx with h|h
   ·exact w.r x h
   ·exact ⟨k,hk,by simpa using h⟩
structure More (cs:List Con) (p:Nat→Prop) (lst lst':List Int):Prop where
 e:∃ t,lst'=lst++t
 h:∀ k:Nat,k<cs.length→p k→(k:Int)∈lst'
theorem run_cons {cs:List Con} (hcl:cs.length≤1000) (hcs:∀ c∈cs,c150 c) (qid:Nat) (v:Int) (q9 q10 q11 q78 q79 q80:V):∀ (n i:Nat) (lst:List Int) (F:List Nat) (h:List Ob),i+n=cs.length→QR h qid F lst→WQ cs lst →
  ∃ h' F' lst',evw M.C y0 i_fix_Run_l2 [(0,consV cs),(7,.ptr qid 0 0 1),(9,q9),(10,q10),(11,q11),(17,iv v),(78,q78),(79,q79),(80,q80),(84,consV cs),(85,iv cs.length),(86,iv i)] h =
   some (.ext 8,[(0,consV cs),(7,.ptr qid 0 0 1),(9,q9),(10,q10),(11,q11),(17,iv v),(78,q78),(79,q79),(80,q80),(84,consV cs),(85,iv cs.length),(86,iv cs.length),(87,.bool false)],h')∧QR h' qid F' lst'∧WQ cs lst'∧More cs (fun k=>i≤k∧∃ c,cs[k]? = some c∧v∈c.vars) lst lst'∧Mw h h' F F':=by
 intro n
 induction n with
 | zero=>
  intro i lst F h hin q w
  have:i=cs.length:=by omega
  subst this
  rw [r_fix_Run_2]
  refine ⟨h,F,lst,?_,q,w,⟨⟨[],by simp⟩,fun k hk hp=>by omega⟩,Mw.refl⟩
  simp [b_fix_Run_2]
 | succ n ih=>
  intro i lst F h hin q w
  have hlt:i<cs.length:=by omega
  obtain ⟨c,hc⟩:∃ c,c=cs[i]:=⟨_,rfl⟩
  have hc1:cs[i]? = some c:=by simp [hlt,hc]
  have hc2:∀ h:i<cs.length,cs[i]'h=c:=fun _=>hc.symm
  have hi4:(i:Int)<cs.length:=by omega
  have hwr:=wrap_succ hlt (by omega)
  have h150:=hcs c (by rw [hc];exact List.getElem_mem hlt)
  have kc:=fun h=>contains_intE c.vars v (by have:=h150.1;omega) h
  have q1:QR (h++[.row 6 [conV c]]) qid F lst:=q.keep fun j hj=>List.getElem?_append_left (q.lt j hj)
  cases hcc:(c.vars.any fun y=>v==y) with
  | false=>
   rw [hcc] at kc
   obtain ⟨h',F',lst',e,a1,a2,a3,a4⟩:=ih (i+1) lst F _ (by omega) q1 w
   simp only [Int.natCast_add,Int.cast_ofNat_Int] at e
   refine ⟨h',F',lst',?_,a1,a2,⟨a3.e,fun k hk hp=>?_⟩,Mw.grow.trans a4⟩
   ·rw [←e,r_fix_Run_2]
    simp [b_fix_Run_2,hlt,hc1,hc2,hi4,hwr,kc]
   ·obtain ⟨p1,d,p2,p3⟩:=hp
    by_cases ek:k=i
    ·subst ek
     rw [hc1] at p2
     cases p2
     have:(c.vars.any fun y=>v==y)=true:=List.any_eq_true.2 ⟨v,p3,by simp⟩
     rw [this] at hcc
     cases hcc
    ·exact a3.h k hk ⟨by omega,d,p2,p3⟩
  | true=>
   rw [hcc] at kc
   obtain ⟨h2,F2,e2,q2,m2⟩:=push (x:=(i:Int)) q1 (by have:=w.len;omega)
   obtain ⟨h',F',lst',e,a1,a2,a3,a4⟩:=ih (i+1) _ F2 h2 (by omega) q2 (w.add hlt)
   simp only [Int.natCast_add,Int.cast_ofNat_Int] at e
   refine ⟨h',F',lst',?_,a1,a2,⟨?_,fun k hk hp=>?_⟩,(Mw.grow.trans (Mw.of m2)).trans a4⟩
   ·rw [←e,r_fix_Run_2]
    simp [b_fix_Run_2,hlt,hc1,hc2,hi4,hwr,kc,e2]
   ·obtain ⟨t,ht⟩:=a3.e
    rw [ht]
    split
    ·exact ⟨t,rfl⟩
    ·exact ⟨[(i:Int)]++t,by rw [List.append_assoc]⟩
   ·obtain ⟨p1,d,p2,p3⟩:=hp
    by_cases ek:k=i
    ·subst ek
     obtain ⟨t,ht⟩:=a3.e
     rw [ht,List.mem_append]
     left
     split
     ·assumption
     ·simp
    ·exact a3.h k hk ⟨by omega,d,p2,p3⟩
theorem run_chg {cs:List Con} (hcl:cs.length≤1000) (hcs:∀ c∈cs,c150 c) (qid:Nat) (ks:List Int) (hkl:ks.length≤1000) (aid:Nat) (q9 q10 q11:V):∀ (n j:Nat) (lst:List Int) (F:List Nat) (h:List Ob),j+n=ks.length→QR h qid F lst→WQ cs lst→aid∉F→h[aid]? = some (.row 1 (iL ks)) →
  ∃ h' F' lst',evw M.C y0 i_fix_Run_l3 [(0,consV cs),(7,.ptr qid 0 0 1),(9,q9),(10,q10),(11,q11),(78,.own aid 0 ks.length ks.length),(79,iv ks.length),(80,iv j)] h =
   some (.ext 6,[(0,consV cs),(7,.ptr qid 0 0 1),(9,q9),(10,q10),(11,q11),(78,.own aid 0 ks.length ks.length),(79,iv ks.length),(80,iv ks.length),(81,.bool false)],h')∧QR h' qid F' lst'∧WQ cs lst'∧More cs (fun k=>∃ c,cs[k]? = some c∧∃ v∈ks.drop j,v∈c.vars) lst lst'∧Mw h h' F F':=by
 intro n
 induction n with
 | zero=>
  intro j lst F h hjn q w ha hr
  have:j=ks.length:=by omega
  subst this
  rw [r_fix_Run_3]
  refine ⟨h,F,lst,?_,q,w,⟨⟨[],by simp⟩,fun k hk hp=>?_⟩,Mw.refl⟩
  ·simp [b_fix_Run_3]
  ·obtain ⟨c,-,v,hv,-⟩:=hp
   simp at hv
 | succ n ih=>
  intro j lst F h hjn q w ha hr
  have hlt:j<ks.length:=by omega
  obtain ⟨v,hv⟩:∃ v,v=ks[j]:=⟨_,rfl⟩
  have hv1:ks[j]? = some v:=by simp [hlt,hv]
  have hv2:∀ h:j<ks.length,ks[j]'h=v:=fun _=>hv.symm
  have hj4:(j:Int)<ks.length:=by omega
  have hwr:=wrap_succ hlt (by omega)
  obtain ⟨h1,F1,lst1,e1,q1,w1,m1,x1⟩:=run_cons hcl hcs qid v q9 q10 q11 (.own aid 0 ks.length ks.length) (iv ks.length) (iv j) cs.length 0 lst F h (by omega) q w
  simp only [Int.cast_ofNat_Int] at e1
  have hal:aid<h.length:=(List.getElem?_eq_some_iff.1 hr).1
  have ha1:aid∉F1:=fun c=>by
   rcases x1.f _ c with k|k
   ·exact ha k
   ·omega
  obtain ⟨h',F',lst',e2,q2,w2,m2,x2⟩:=ih (j+1) lst1 F1 h1 (by omega) q1 w1 ha1 (by rw [x1.k _ hal ha];exact hr)
  simp only [Int.natCast_add,Int.cast_ofNat_Int] at e2
  refine ⟨h',F',lst',?_,q2,w2,⟨?_,fun k hk hp=>?_⟩,x1.trans x2⟩
  ·rw [←e2,r_fix_Run_3]
   simp [b_fix_Run_3,hlt,hv1,hv2,hj4,hwr,hr,e1]
  ·obtain ⟨t1,ht1⟩:=m1.e
   obtain ⟨t2,ht2⟩:=m2.e
   exact ⟨t1++t2,by rw [ht2,ht1,List.append_assoc]⟩
  ·obtain ⟨c,hc,u,hu,huc⟩:=hp
   rw [List.drop_eq_getElem_cons hlt,←hv] at hu
   rcases List.mem_cons.1 hu with rfl|hu
   ·have:=m1.h k hk ⟨by omega,c,hc,huc⟩
    obtain ⟨t2,ht2⟩:=m2.e
    rw [ht2]
    exact List.mem_append_left _ this
   ·exact m2.h k hk ⟨c,hc,u,hu,huc⟩
end Go.RR.FX
namespace Go.RR.FX
open Go Go.RR Go.RR.M
open Go.RR.TU (chg)
theorem TU_nodup_le':∀ {l m:List Int},l.Nodup→(∀ z∈l,z∈m)→l.length≤m.length
 | [],m,_,_=>Nat.zero_le _
 | x::l,m,hn,hs=>by
  have h2:=List.nodup_cons.1 hn
  have hx:=hs x (by simp)
  have:=TU_nodup_le' (l:=l) (m:=m.erase x) h2.2 fun z hz=>(List.mem_erase_of_ne (fun e=>h2.1 (by rw [←e];exact hz))).2 (hs z (by simp [hz]))
  rw [List.length_erase_of_mem hx] at this
  have:0<m.length:=List.length_pos_of_mem hx
  simp only [List.length_cons]
  omega
def tot (l:Ds):Nat:=(l.map sizeD).sum
theorem nodup_listD {d:Dm} (h:mayD d=true):(listD d).Nodup:=(listD_sorted h).imp (fun {a b} h=>by omega)
theorem LeD.size {a b:Dm} (h:LeD a b):sizeD a≤sizeD b:=TU_nodup_le' (nodup_listD h.ma) h.s
theorem LeD.lt {a b:Dm} (h:LeD a b) (hne:a≠b):sizeD a<sizeD b:=by
 rcases Nat.lt_or_ge (sizeD a) (sizeD b) with k|k
 ·exact k
 ·refine absurd (h.anti ⟨h.mb,h.ma,h.v.symm,fun x hx=>?_⟩) hne
  rcases Classical.em (x∈listD a) with q|q
  ·exact q
  ·have:=TU_nodup_le' (l:=x::listD a) (m:=listD b) (List.nodup_cons.2 ⟨q,nodup_listD h.ma⟩) (fun z hz=>by
    rcases List.mem_cons.1 hz with rfl|hz
    ·exact hx
    ·exact h.s z hz)
   simp only [List.length_cons] at this
   unfold sizeD at k
   omega
theorem tot_le:∀ {a b:Ds},LeL a b→tot a≤tot b∧(a≠b→tot a<tot b)
 | [],[],_=>⟨Nat.le_refl _,fun h=>absurd rfl h⟩
 | [],_::_,h=>by have:=h.1;simp at this
 | _::_,[],h=>by have:=h.1;simp at this
 | x::a,y::b,h=>by
  have h0:LeD x y:=h.2 0 (by simp) (by simp)
  have hr:LeL a b:=⟨by have:=h.1;simpa using this,fun i h1 h2=>by
   have:=h.2 (i+1) (by simpa using h1) (by simpa using h2)
   simpa using this⟩
  obtain ⟨k1,k2⟩:=tot_le hr
  have e1:tot (x::a)=sizeD x+tot a:=by simp [tot]
  have e2:tot (y::b)=sizeD y+tot b:=by simp [tot]
  have s:=h0.size
  rw [e1,e2]
  refine ⟨by omega,fun hne=>?_⟩
  by_cases c:x=y
  ·subst c
   have:=k2 (fun q=>hne (by rw [q]))
   omega
  ·have:=h0.lt c
   omega
theorem live_eq {a b:Dm} (h:LeD a b) (e:a.live=b.live):a=b:=by
 obtain ⟨v,l⟩:=a
 obtain ⟨v',l'⟩:=b
 have:=h.v
 simp only at this e
 rw [this,e]
theorem not_chg {a b:Ds} (h:LeL a b) {u:Int} (hu:0≤u∧u<b.length) (hn:u∉chg (liveL a) (liveL b)) (h1:u.toNat<a.length) (h2:u.toNat<b.length):a[u.toNat]=b[u.toNat]:=by
 refine live_eq (h.2 _ h1 h2) ?_
 rcases Classical.em (a[u.toNat].live=b[u.toNat].live) with k|k
 ·exact k
 ·refine absurd (TU.chg_mem.2 ⟨u.toNat,by simpa [liveL] using h1,by omega,?_⟩) hn
  unfold liveL
  rw [List.getElem?_map,List.getElem?_map,List.getElem?_eq_getElem h1,List.getElem?_eq_getElem h2]
  intro q
  simp only [Option.map_some,Option.some.injEq] at q
  exact k (Int.ofNat.inj q)
theorem next_fixed {cs:List Con} {l:Ds} {k:Nat} {lst lst':List Int} (ok:okL l) (hR:RCs cs l.length) {ck:Con} (hk:cs[k]? = some ck) (inv:∀ (i:Nat) (c:Con),cs[i]? = some c→i≠k→(i:Int)∉lst→stepD c l=l) (m:More cs (fun i=>∃ c,cs[i]? = some c∧∃ v∈chg (liveL (stepD ck l)) (liveL l),v∈c.vars) lst lst') :
  ∀ (i:Nat) (c:Con),cs[i]? = some c→(i:Int)∉lst'→stepD c (stepD ck l)=stepD ck l:=by
 intro i c hc hn
 have hle:=step_le (c:=ck) ok
 have hcm:c∈cs:=List.mem_of_getElem? hc
 have hR1:=hR c hcm
 have same:∀ u∈c.vars,∀ (h1:u.toNat<l.length) (h2:u.toNat<(stepD ck l).length),l[u.toNat]=(stepD ck l)[u.toNat]:=fun u hu h1 h2=>by
  refine (not_chg hle (hR1.b u hu) (fun q=>?_) h2 h1).symm
  exact hn (m.h i (List.getElem?_eq_some_iff.1 hc).1 ⟨c,hc,u,q,hu⟩)
 by_cases e:i=k
 ·subst e
  obtain rfl:c=ck:=by rw [hc] at hk;exact Option.some.inj hk
  have:stepD c l=l:=by
   refine List.ext_getElem stepD_len fun j h1 h2=>?_
   by_cases hv:(j:Int)∈c.vars
   ·have:=same j hv (by simpa using h2) (by simpa using h1)
    simpa using this.symm
   ·exact step_other ok h2 hv
  rw [this,this]
 ·refine step_stay ok hle.okl stepD_len.symm hR1 same (inv i c hc e fun q=>hn ?_)
  obtain ⟨t,ht⟩:=m.e
  rw [ht]
  exact List.mem_append_left _ q
end Go.RR.FX
namespace Go.RR.FX
open Go Go.RR Go.RR.M
open Go.RR.TU (Mv TR putS chg iL)
theorem ds_ok {l:Ds} (ok:okL l) (hn:l.length≤1000):DsOK l:=⟨hn,fun d hd=>mayD_ok (ok d hd)⟩
theorem may_all {l:Ds} (ok:okL l):mayAll l=true:=List.all_eq_true.2 ok
theorem run_l3 {cs:List Con} (hcl:cs.length≤1000) (hcs:∀ c∈cs,c150 c) (qid:Nat) (ks:List Int) (hkl:ks.length≤1000) (q9 q10 q11:V) (lst:List Int) (F:List Nat) (h:List Ob) (q:QR h qid F lst) (w:WQ cs lst) :
  ∃ h' F' lst',(if ks=[] then evw M.C y0 i_fix_Run_l3 [(0,consV cs),(7,.ptr qid 0 0 1),(9,q9),(10,q10),(11,q11),(78,.nsl 1),(79,iv 0),(80,iv 0)] (h++[.dead]) =
   some (.ext 6,[(0,consV cs),(7,.ptr qid 0 0 1),(9,q9),(10,q10),(11,q11),(78,.nsl 1),(79,iv 0),(80,iv 0),(81,.bool false)],h')
   else evw M.C y0 i_fix_Run_l3 [(0,consV cs),(7,.ptr qid 0 0 1),(9,q9),(10,q10),(11,q11),(78,.own (h.length+1) 0 ks.length ks.length),(79,iv ks.length),(80,iv 0)] (h++[.dead,.row 1 (iL ks)]) =
   some (.ext 6,[(0,consV cs),(7,.ptr qid 0 0 1),(9,q9),(10,q10),(11,q11),(78,.own (h.length+1) 0 ks.length ks.length),(79,iv ks.length),(80,iv ks.length),(81,.bool false)],h')) ∧
   QR h' qid F' lst'∧WQ cs lst'∧More cs (fun k=>∃ c,cs[k]? = some c∧∃ v∈ks,v∈c.vars) lst lst'∧(ks=[]→lst'=lst)∧Mw h h' F F':=by
 by_cases c:ks=[]
 ·subst c
  refine ⟨h++[.dead],F,lst,?_,q.keep fun j hj=>List.getElem?_append_left (q.lt j hj),w,⟨⟨[],by simp⟩,fun k hk hp=>?_⟩,fun _=>rfl,Mw.grow⟩
  ·rw [if_pos rfl,r_fix_Run_3]
   simp [b_fix_Run_3]
  ·obtain ⟨c,-,v,hv,-⟩:=hp
   simp at hv
 ·obtain ⟨h',F',lst',e,a1,a2,a3,a4⟩:=run_chg hcl hcs qid ks hkl (h.length+1) q9 q10 q11 ks.length 0 lst F (h++[.dead,.row 1 (iL ks)]) (by omega) (q.keep fun j hj=>List.getElem?_append_left (q.lt j hj)) w (fun m=>by have:=q.lt _ m;omega) (by simp)
  simp only [Int.cast_ofNat_Int,List.drop_zero] at e a3
  exact ⟨h',F',lst',by rw [if_neg c];exact e,a1,a2,a3,fun e=>absurd e c,Mw.grow.trans a4⟩
inductive StepsN (cs:List Con) (l:Ds):Nat→Ds→Prop where
 | refl:StepsN cs l 0 l
 | step {n:Nat} {r:Ds} {c:Con} (h:StepsN cs l n r) (hc:c∈cs):StepsN cs l (n+1) (stepD c r)
theorem StepsN.cons {cs:List Con} {l r:Ds} {c:Con} {n:Nat} (hc:c∈cs) (h:StepsN cs (stepD c l) n r):StepsN cs l (n+1) r:=by
 induction h with
 | refl=>exact .step .refl hc
 | step _ h2 ih=>exact .step ih h2
theorem run_main {cs:List Con} (hcl:cs.length≤1000) (hcs:∀ c∈cs,c150 c) {m0:Nat} (hm0:m0≤1000) (hRB:∀ c∈cs,rightB c m0=true) (qid tid:Nat):∀ (N:Nat) (l:Ds) (k:Nat) (ck:Con) (lst:List Int) (steps:Nat) (h:List Ob) (FQ FT:List Nat) (S:List Int) (Os:List (List Int)) (b:Nat),
  cs.length*tot l+lst.length+1≤N→okL l→l.length=m0→cs[k]? = some ck→(k:Int)∉lst→WQ cs lst→(∀ (i:Nat) (c:Con),cs[i]? = some c→i≠k→(i:Int)∉lst→stepD c l=l)→QR h qid FQ lst→TR h tid FT (liveL l) S Os→(∀ j∈FQ,j∉FT)→(∀ s∈S,0≤s∧s≤b)→b+N≤900000→Os.length+N≤900000→steps+N≤900000 →
  ∃ h' l' n',evw M.C y0 i_fix_Run_l4 [(0,consV cs),(7,.ptr qid 0 0 1),(9,dsV l),(10,.ptr tid 0 0 1),(11,iv steps),(12,iv k),(13,.bool true)] h =
   some (.ext 2,[(0,consV cs),(7,.ptr qid 0 0 1),(9,dsV l'),(10,.ptr tid 0 0 1),(11,iv n'),(12,iv 0),(45,.bool false)],h')∧Steps cs l l'∧fixed cs l'∧∃ m:Nat,n'=(m:Int)∧steps+lst.length+1≤m∧m≤steps+(cs.length*tot l+lst.length+1)∧StepsN cs l (m-steps) l':=by
 intro N
 induction N with
 | zero=>intro l k ck lst steps h FQ FT S Os b hN;omega
 | succ N ih=>
  intro l k ck lst steps h FQ FT S Os b hN ok hlm hk hkn w inv q t dj hS hb hO hst
  have hcm:ck∈cs:=List.mem_of_getElem? hk
  have hkl:=(List.getElem?_eq_some_iff.1 hk).1
  have hk2:∀ h:k<cs.length,cs[k]'h=ck:=fun _=>(List.getElem?_eq_some_iff.1 hk).2
  have hk4:(k:Int)<cs.length:=by omega
  have hR:RCs cs l.length:=fun c hc=>RC.of (by rw [hlm];exact hRB c hc)
  have es:=fun h=>fix_Step ck (hcs ck hcm) l (ds_ok ok (by omega)) h
  have eF:stepF ck l=(stepD ck l,0):=by
   unfold stepF
   rw [hlm,hRB ck hcm,may_all ok]
   rfl
  rw [eF] at es
  obtain ⟨l',hl'⟩:∃ l',l'=stepD ck l:=⟨_,rfl⟩
  have hle:LeL l' l:=by rw [hl'];exact step_le ok
  have hlen:l'.length=l.length:=hle.1
  obtain ⟨h1,FT1,e1,t1,m1⟩:=TU.saveT t (by omega)
  obtain ⟨h2,S2,e2,t2,b2,m2⟩:=run_sets (l:=l') (by omega) (Os:=liveL l::Os) (by simp;omega) b (by omega) (consV cs) (.ptr qid 0 0 1) (iv ((steps+1:Nat):Int)) l'.length 0 (liveL l) S h1 (by omega) t1 (by simp [liveL,hlen]) (by simp) (fun j hj=>by
   rw [if_neg (by omega)]
   exact hS _ (List.getElem_mem hj))
  obtain ⟨ks,hks⟩:∃ ks,ks=chg (liveL l') (liveL l):=⟨_,rfl⟩
  have hkl2:ks.length≤1000:=by
   have:=TU.chg_len (C:=liveL l') (B:=liveL l)
   rw [←hks] at this
   simp [liveL] at this
   omega
  have e3:=t2.chg (by omega) (by simp [liveL];omega)
  rw [←hks] at e3
  have m12:Mw h h2 FT FT1:=(Mw.of m1).trans m2
  have q2:QR h2 qid FQ lst:=q.keep fun j hj=>m12.k j (q.lt j hj) (dj j hj)
  obtain ⟨h5,FQ5,lst',e5,q5,w5,mo,mo0,m5⟩:=run_l3 hcl hcs qid ks hkl2 (dsV l') (.ptr tid 0 0 1) (iv ((steps+1:Nat):Int)) lst FQ h2 q2 w
  have dj2:∀ j∈FQ,j∉FT1:=fun j hj hf=>by
   rcases m12.f j hf with r|r
   ·exact dj j hj r
   ·have:=q.lt j hj;omega
  have t5:TR h5 tid FT1 (liveL l') S2 (liveL l::Os):=t2.keep fun j hj=>m5.k j (t2.lt j hj) fun r=>dj2 j r hj
  have dj5:∀ j∈FQ5,j∉FT1:=fun j hj hf=>by
   rcases m5.f j hj with r|r
   ·exact dj2 j r hf
   ·have:=t2.lt j hf;omega
  have nf:=next_fixed (lst':=lst') ok hR hk inv (by rw [←hl',←hks];exact mo)
  rw [←hl'] at nf
  obtain ⟨ex,hex⟩:=mo.e
  have hlge:lst.length≤lst'.length:=by rw [hex];simp
  have hmes:cs.length*tot l'+lst'.length≤cs.length*tot l+lst.length:=by
   by_cases c:ks=[]
   ·rw [mo0 c]
    have:=Nat.mul_le_mul_left cs.length (tot_le hle).1
    omega
   ·have hne:l'≠l:=fun e=>by
     apply c
     rw [hks,e]
     unfold chg
     simp
    have h1:=(tot_le hle).2 hne
    have h2:=w5.len
    have h3:cs.length*(tot l'+1)≤cs.length*tot l:=Nat.mul_le_mul_left _ h1
    rw [Nat.mul_add] at h3
    omega
  have hwr:IntKind.i64.wrap ((steps:Int)+1)=((steps+1:Nat):Int):=by rw [wrap64 (by omega) (by omega)];omega
  simp only [Int.natCast_add,Int.cast_ofNat_Int] at e2 e5 hwr
  have one:∀ (r:V×V) (h6:List Ob) (z:Option Rs),acw M.C n_fix_queue_int_pop [.ptr qid 0 0 1] h5=some (.ret (.tup [r.1,r.2]),h6)→evw M.C y0 i_fix_Run_l4 [(0,consV cs),(7,.ptr qid 0 0 1),(9,dsV l'),(10,.ptr tid 0 0 1),(11,iv ((steps:Int)+1)),(12,r.1),(13,r.2)] h6=z→evw M.C y0 i_fix_Run_l4 [(0,consV cs),(7,.ptr qid 0 0 1),(9,dsV l),(10,.ptr tid 0 0 1),(11,iv steps),(12,iv k),(13,.bool true)] h=z:=fun r h6 z e6 e7=>by
   rw [←e7]
   conv=>lhs;rw [r_fix_Run_4]
   rw [←hl'] at es
   by_cases c:ks=[]
   ·rw [if_pos c] at e5
    have e3':acw M.C n_trail_Trail_uint64_Changed [.ptr tid 0 0 1] h2=some (.ret (.nsl 1),h2++[.dead]):=by rw [e3,c];rfl
    simp [b_fix_Run_4,hk,hk2,hk4,hkl,es,hwr,e1,e2,e3',e5,e6]
   ·rw [if_neg c] at e5
    have e3':acw M.C n_trail_Trail_uint64_Changed [.ptr tid 0 0 1] h2=some (.ret (.own (h2.length+1) 0 ks.length ks.length),h2++[.dead,.row 1 (iL ks)]):=by
     rw [e3]
     simp [accV,accH,c,iL]
    simp [b_fix_Run_4,hk,hk2,hk4,hkl,es,hwr,e1,e2,e3',e5,e6]
  cases hc:lst' with
  | nil=>
   rw [hc] at q5 nf hlge
   have e6:=pop0 q5
   have e7:evw M.C y0 i_fix_Run_l4 [(0,consV cs),(7,.ptr qid 0 0 1),(9,dsV l'),(10,.ptr tid 0 0 1),(11,iv ((steps:Int)+1)),(12,iv 0),(13,.bool false)] h5=some (.ext 2,[(0,consV cs),(7,.ptr qid 0 0 1),(9,dsV l'),(10,.ptr tid 0 0 1),(11,iv ((steps:Int)+1)),(12,iv 0),(45,.bool false)],h5):=by
    rw [r_fix_Run_4]
    simp [b_fix_Run_4]
   refine ⟨h5,l',(steps:Int)+1,one (iv 0,.bool false) h5 _ e6 e7,by rw [hl'];exact .step .refl hcm,fun c hcc=>?_,steps+1,by omega,by have:lst.length≤0:=hlge;omega,by omega,by rw [show steps+1-steps=1 by omega,hl'];exact .step .refl hcm⟩
   obtain ⟨i,hi,rfl⟩:=List.mem_iff_getElem.1 hcc
   exact nf i _ (List.getElem?_eq_getElem hi) (by simp)
  | cons x r=>
   rw [hc] at q5 nf hlge w5 hmes
   simp only [List.length_cons] at hlge hmes
   obtain ⟨k',hk',rfl⟩:=w5.r x (by simp)
   have nd2:=List.nodup_cons.1 w5.nd
   have wl:=w5.len
   simp only [List.length_cons] at wl
   obtain ⟨h6,e6,q6,m6⟩:=pop1 q5 w5.nd (by omega)
   obtain ⟨h',lf,n',e9,s9,f9,m,hm1,hm2,hm3,hm4⟩:=ih l' k' cs[k'] r (steps+1) h6 FQ5 FT1 S2 (liveL l::Os) (b+1) (by omega) (hle.okl) (by omega) (List.getElem?_eq_getElem hk') nd2.1 ⟨nd2.2,fun y hy=>w5.r y (by simp [hy])⟩ (fun i c hi hne hnr=>nf i c hi (by simp only [List.mem_cons,not_or];exact ⟨by omega,hnr⟩)) q6 (t5.keep fun j hj=>m6.k j (t5.lt j hj) fun r=>dj5 j r hj) dj5 (fun s hs=>by have:=b2.all s hs;omega) (by omega) (by simp;omega) (by omega)
   simp only [Int.natCast_add,Int.cast_ofNat_Int] at e9
   refine ⟨h',lf,n',one (iv k',.bool true) h6 _ e6 e9,(Steps.step .refl hcm).trans (by rw [←hl'];exact s9),f9,m,hm1,by omega,by omega,by rw [show m-steps=(m-(steps+1))+1 by omega];exact StepsN.cons hcm (by rw [←hl'];exact hm4)⟩
theorem run_init {cs:List Con} (hcl:cs.length≤1000) (qid:Nat) (q1:V):∀ (n i:Nat) (lst:List Int) (F:List Nat) (h:List Ob),i+n=cs.length→QR h qid F lst→WQ cs lst→(∀ k:Nat,k<i→(k:Int)∈lst)→(∀ k:Nat,(k:Int)∈lst→k<i)→lst.length=i →
  ∃ h' F' lst',evw M.C y0 i_fix_Run_l0 [(0,consV cs),(1,q1),(7,.ptr qid 0 0 1),(28,iv cs.length),(29,iv i)] h =
   some (.ext 0,[(0,consV cs),(1,q1),(7,.ptr qid 0 0 1),(28,iv cs.length),(29,iv cs.length),(30,.bool false)],h')∧QR h' qid F' lst'∧WQ cs lst'∧(∀ k:Nat,k<cs.length→(k:Int)∈lst')∧lst'.length=cs.length∧Mw h h' F F':=by
 intro n
 induction n with
 | zero=>
  intro i lst F h hin q w a1 a2 a3
  have:i=cs.length:=by omega
  subst this
  rw [r_fix_Run_0]
  refine ⟨h,F,lst,?_,q,w,a1,a3,Mw.refl⟩
  simp [b_fix_Run_0]
 | succ n ih=>
  intro i lst F h hin q w a1 a2 a3
  have hlt:i<cs.length:=by omega
  have hi4:(i:Int)<cs.length:=by omega
  have hwr:=wrap_succ hlt (by omega)
  have hni:(i:Int)∉lst:=fun m=>by have:=a2 i m;omega
  obtain ⟨h1,F1,e1,qq,m1⟩:=pushN q hni (by omega)
  have w1:=w.add hlt
  rw [if_neg hni] at w1
  obtain ⟨h',F',lst',e2,q2,w2,c1,c2,m2⟩:=ih (i+1) (lst++[(i:Int)]) F1 h1 (by omega) qq w1 (fun k hk=>by
   by_cases c:k=i
   ·subst c;simp
   ·exact List.mem_append_left _ (a1 k (by omega))) (fun k hk=>by
   rcases List.mem_append.1 hk with h|h
   ·have:=a2 k h;omega
   ·have:(k:Int)=i:=by simpa using h
    omega) (by simp;omega)
  simp only [Int.natCast_add,Int.cast_ofNat_Int] at e2
  refine ⟨h',F',lst',?_,q2,w2,c1,c2,(Mw.of m1).trans m2⟩
  rw [←e2,r_fix_Run_0]
  simp [b_fix_Run_0,hlt,hi4,hwr,e1]
theorem tot_bd {l:Ds} (hl:l.length≤16):tot l≤1024:=by
 have:∀ l:Ds,tot l≤l.length*64:=fun l=>by
  induction l with
  | nil=>simp [tot]
  | cons d r ih=>
   have h1:tot (d::r)=sizeD d+tot r:=by simp [tot]
   have h2:=listD_len d
   rw [h1,List.length_cons,Nat.succ_mul]
   unfold sizeD
   omega
 have:=this l
 omega
def RunA (cs:List Con) (l:Ds) (a:Ds) (n e:Int):Prop:=
 if rightAll cs l=true then e=0∧Steps cs l a∧fixed cs a∧∃ m:Nat,n=m∧cs.length≤m∧m≤cs.length*(tot l+1)∧StepsN cs l m a else a=[]∧n=0∧e=1
theorem fix_Run (cs:List Con) (hcl:cs.length≤20) (hcs:∀ c∈cs,c150 c) (l:Ds) (hl:DsOK l):∃ a n e,RunA cs l a n e∧∀ h,acw C n_fix_Run [consV cs,dsV l] h=some (.ret (.tup [dsV a,iv n,iv e]),h):=by
 have kr:=fun h=>fix_right cs hcs (by omega) l hl h
 cases hr:rightAll cs l with
 | false=>
  rw [hr] at kr
  refine ⟨[],0,1,by unfold RunA;rw [hr,if_neg (by simp)];exact ⟨rfl,rfl,rfl⟩,fun h=>?_⟩
  refine acw_pure (h':=[]) (v:=.tup [.nsl 2,iv 0,iv 1]) (v':=.tup [dsV [],iv 0,iv 1]) (CT T_fix_Run) rfl rfl ?_ rfl (by simp)
  simp [runW_fin,F_fix_Run,i_fix_Run,kr]
 | true=>
  rw [hr] at kr
  have hr2:=hr
  unfold rightAll at hr2
  simp only [Bool.and_eq_true,decide_eq_true_eq] at hr2
  obtain ⟨⟨h16,hRB⟩,hma⟩:=hr2
  have hRB:=List.all_eq_true.1 hRB
  have ok:=mayAll_ok hma
  have kc:=fun h=>fix_copied ok (by omega) h
  have q0:QR [.map (mI []) 0,.row 2 [.agg [.nsl 1,.mp 0]]] 1 [1,0] []:=⟨0,.nsl 1,[],0,[],⟨rfl,rfl,fun y=>by simp [gM],by simp [keysM]⟩,⟨rfl,rfl⟩,by simp,rfl⟩
  obtain ⟨h1,F1,lst,e1,q1,w1,c1,c2,m1⟩:=run_init (cs:=cs) (by omega) 1 (dsV l) cs.length 0 [] [1,0] [.map (mI []) 0,.row 2 [.agg [.nsl 1,.mp 0]]] (by omega) q0 ⟨List.nodup_nil,fun x hx=>by simp at hx⟩ (fun k hk=>by omega) (fun k hk=>by simp at hk) rfl
  simp only [Int.cast_ofNat_Int,List.map_nil] at e1
  obtain ⟨h2,tid,FT,S,e2,t2,s2,m2⟩:=lives (l:=l) (by omega) h1
  have q2:QR h2 1 F1 lst:=q1.keep fun j hj=>m2.k j (q1.lt j hj) (by simp)
  have dj2:∀ j∈F1,j∉FT:=fun j hj hf=>by
   rcases m2.f j hf with r|r
   ·simp at r
   ·have:=q1.lt j hj;omega
  unfold RunA
  simp only [hr,if_true]
  have fin:∀ (a:Ds) (n:Int) (h3:List Ob),runB (evw C y0) F_fix_Run [consV cs,dsV l] []=some (.ret (.tup [dsV a,iv n,iv 0]),h3)→∀ h,acw C n_fix_Run [consV cs,dsV l] h=some (.ret (.tup [dsV a,iv n,iv 0]),h):=fun a n h3 e h=>
   acw_pure (h':=h3) (v:=.tup [dsV a,iv n,iv 0]) (v':=.tup [dsV a,iv n,iv 0]) (CT T_fix_Run) rfl rfl e rfl (by simp)
  cases hc:lst with
  | nil=>
   rw [hc] at q2 c2
   have e3:=pop0 q2
   have hcs0:cs=[]:=List.length_eq_zero_iff.1 c2.symm
   refine ⟨l,0,0,⟨rfl,.refl,fun c hcc=>by rw [hcs0] at hcc;simp at hcc,0,rfl,by rw [hcs0];simp,Nat.zero_le _,.refl⟩,fin l 0 h2 ?_⟩
   have e4:evw M.C y0 i_fix_Run_l4 [(0,consV cs),(7,.ptr 1 0 0 1),(9,dsV l),(10,.ptr tid 0 0 1),(11,iv 0),(12,iv 0),(13,.bool false)] h2=some (.ext 2,[(0,consV cs),(7,.ptr 1 0 0 1),(9,dsV l),(10,.ptr tid 0 0 1),(11,iv 0),(12,iv 0),(45,.bool false)],h2):=by
    rw [r_fix_Run_4]
    simp [b_fix_Run_4]
   simp [runW_fin,F_fix_Run,i_fix_Run,kr,o_mkm,e1,kc,e2,e3,e4]
  | cons x r=>
   rw [hc] at q2 c2 w1 c1
   obtain ⟨k,hk,rfl⟩:=w1.r x (by simp)
   have nd2:=List.nodup_cons.1 w1.nd
   simp only [List.length_cons] at c2
   obtain ⟨h3,e3,q3,m3⟩:=pop1 q2 w1.nd (by omega)
   have tb:=tot_bd h16
   have t3:TR h3 tid FT (liveL l) S [List.replicate l.length 0]:=t2.keep fun j hj=>m3.k j (t2.lt j hj) fun r=>dj2 j r hj
   have hN:cs.length*tot l≤20*1024:=Nat.mul_le_mul hcl tb
   obtain ⟨h4,lf,n',e4,s4,f4,m,hm1,hm2,hm3,hm4⟩:=run_main (cs:=cs) (by omega) hcs (m0:=l.length) (by omega) hRB 1 tid (cs.length*tot l+r.length+1) l k cs[k] r 0 h3 F1 FT S [List.replicate l.length 0] 1 (Nat.le_refl _) ok rfl (List.getElem?_eq_getElem hk) nd2.1 ⟨nd2.2,fun y hy=>w1.r y (by simp [hy])⟩ (fun i c hi hne hnr=>absurd (c1 i (List.getElem?_eq_some_iff.1 hi).1) (by simp only [List.mem_cons,not_or];exact ⟨by omega,hnr⟩)) q3 t3 dj2 (fun s hs=>by have:=s2 s hs;omega) (by omega) (by simp;omega) (by omega)
   simp only [Int.cast_ofNat_Int] at e4
   refine ⟨lf,n',0,⟨rfl,s4,f4,m,hm1,by omega,by rw [Nat.mul_add];omega,hm4⟩,fin lf n' h4 ?_⟩
   simp [runW_fin,F_fix_Run,i_fix_Run,kr,o_mkm,e1,kc,e2,e3,e4]
end Go.RR.FX
namespace Go.RR.FX
open Go Go.RR Go.RR.M
theorem all2_dec {α:Type} [DecidableEq α]:∀ {l m:List α},all2 (fun a b=>decide (a=b)) l m=decide (l=m)
 | [],[]=>rfl
 | [],_::_=>rfl
 | _::_,[]=>rfl
 | x::r,y::s=>by
  simp only [all2,all2_dec (l:=r) (m:=s)]
  rw [←Bool.decide_and]
  exact decide_eq_decide.2 (by simp)
theorem same_ds (a b:Ds) (ha:a.length≤1000) (hv:∀ d∈a,d.vals.length≤1000000) (h:List Ob):acw C n_slices_EqualFunc_sdom_Dom_sdom_Dom_dom_Dom_dom_Dom [dsV a,dsV b,.fn (.func n_dom_Same) [] []] h=some (.ret (.bool (decide (a=b))),h):=by
 rw [←all2_dec]
 exact equalFunc (C:=C) (n:=n_slices_EqualFunc_sdom_Dom_sdom_Dom_dom_Dom_dom_Dom) (CT T_slices_EqualFunc_sdom_Dom_sdom_Dom_dom_Dom_dom_Dom) (enc:=domV) (q:=fun a b=>decide (a=b)) (g:=n_dom_Same) (first:=[]) (cap:=[]) a b (by omega) (fun _=>⟨rfl,rfl⟩) ⟨_,rfl,rfl⟩ (f':=.fn (.func n_dom_Same) [] []) (h:=h) rfl (fun x hx y _ h=>dom_Same x y (hv x hx) h)
def ordI (n:Int) (L:Nat):Nat:=((n.tmod L+L).tmod L).toNat
theorem ordI_lt {n:Int} {L:Nat} (h:0<L):(ordI n L:Int)=(n.tmod L+L).tmod L∧ordI n L<L∧(-(L:Int)<n.tmod L∧n.tmod L<L):=by
 have hL:(0:Int)<L:=by omega
 have h1:=Int.tmod_lt_of_pos n hL
 have h2:-(L:Int)<n.tmod L:=by
  have:=Int.lt_tmod_of_pos n hL
  exact this
 have h3:=Int.tmod_lt_of_pos (n.tmod L+L) hL
 have h4:0≤(n.tmod L+L).tmod L:=Int.tmod_nonneg _ (by omega)
 unfold ordI
 exact ⟨by omega,by omega,h2,h1⟩
theorem ord_in {cs:List Con} (hcl:cs.length≤20) (hpos:0<cs.length) (hcs:∀ c∈cs,c150 c) {m0:Nat} (hm0:m0≤1000) (hRB:∀ c∈cs,rightB c m0=true) (ord:List Int) (hol:ord.length≤1000):∀ (n i:Nat) (l:Ds) (more:Bool) (h:List Ob),i+n=ord.length→okL l→l.length=m0 →
  ∃ l' more',evw C y0 i_fix_Order_l0 [(0,consV cs),(2,intsV ord),(8,dsV l),(9,.bool more),(24,intsV ord),(25,iv ord.length),(26,iv i)] h =
   some (.ext 2,[(0,consV cs),(2,intsV ord),(8,dsV l'),(9,.bool more'),(24,intsV ord),(25,iv ord.length),(26,iv ord.length),(27,.bool false)],h)∧Steps cs l l'∧LeL l' l∧(more'=true→more=true∨tot l'<tot l):=by
 intro n
 induction n with
 | zero=>
  intro i l more h hin ok hlm
  have:i=ord.length:=by omega
  subst this
  rw [r_fix_Order_0]
  refine ⟨l,more,?_,.refl,LeL.refl ok,fun h=>.inl h⟩
  simp [b_fix_Order_0]
 | succ n ih=>
  intro i l more h hin ok hlm
  have hlt:i<ord.length:=by omega
  obtain ⟨x,hx⟩:∃ x,x=ord[i]:=⟨_,rfl⟩
  have hx1:ord[i]? = some x:=by simp [hlt,hx]
  have hx2:∀ h:i<ord.length,ord[i]'h=x:=fun _=>hx.symm
  have hi4:(i:Int)<ord.length:=by omega
  have hwr:=wrap_succ hlt (by omega)
  obtain ⟨o1,o2,o3,o4⟩:=ordI_lt (n:=x) hpos
  obtain ⟨p,hp⟩:∃ p,p=ordI x cs.length:=⟨_,rfl⟩
  rw [←hp] at o1 o2
  have w2:IntKind.i64.wrap (x.tmod cs.length+cs.length)=x.tmod cs.length+cs.length:=wrap64 (by omega) (by omega)
  have hL0:¬cs=[]:=fun e=>by rw [e] at hpos;simp at hpos
  obtain ⟨c,hc⟩:∃ c,c=cs[p]:=⟨_,rfl⟩
  have hcm:c∈cs:=by rw [hc];exact List.getElem_mem o2
  have hc1:cs[p]? = some c:=by simp [o2,hc]
  have hc2:∀ h:p<cs.length,cs[p]'h=c:=fun _=>hc.symm
  have hp4:(p:Int)<cs.length:=by omega
  have es:=fun h=>fix_Step c (hcs c hcm) l (ds_ok ok (by omega)) h
  have eF:stepF c l=(stepD c l,0):=by
   unfold stepF
   rw [hlm,hRB c hcm,may_all ok]
   rfl
  rw [eF] at es
  obtain ⟨l',hl'⟩:∃ l',l'=stepD c l:=⟨_,rfl⟩
  have hle:LeL l' l:=by rw [hl'];exact step_le ok
  rw [←hl'] at es
  have ee:=fun h=>same_ds l' l (by have:=hle.1;omega) (fun d hd=>(mayD_ok (hle.okl d hd)).2) h
  have hst:Steps cs l l':=by rw [hl'];exact .step .refl hcm
  obtain ⟨lf,mf,e2,s2,le2,k2⟩:=ih (i+1) l' (more||!(decide (l'=l))) h (by omega) hle.okl (by have:=hle.1;omega)
  simp only [Int.natCast_add,Int.cast_ofNat_Int] at e2
  refine ⟨lf,mf,?_,hst.trans s2,le2.trans hle,fun hm=>?_⟩
  ·rw [←e2,r_fix_Order_0]
   cases more with
   | true=>simp [b_fix_Order_0,hlt,hx1,hx2,hi4,hwr,hL0,w2,←o1,o2,hc1,hc2,hp4,es]
   | false=>simp [b_fix_Order_0,hlt,hx1,hx2,hi4,hwr,hL0,w2,←o1,o2,hc1,hc2,hp4,es,ee]
  ·have t1:=(tot_le le2).1
   have t2:=(tot_le hle)
   rcases k2 hm with k|k
   ·simp only [Bool.or_eq_true,Bool.not_eq_true',decide_eq_false_iff_not] at k
    rcases k with k|k
    ·exact .inl k
    ·have:=t2.2 k
     exact .inr (by omega)
   ·exact .inr (by omega)
theorem ord_out {cs:List Con} (hcl:cs.length≤20) (hpos:0<cs.length) (hcs:∀ c∈cs,c150 c) {m0:Nat} (hm0:m0≤1000) (hRB:∀ c∈cs,rightB c m0=true) (ord:List Int) (hol:ord.length≤1000) (h:List Ob):∀ (n:Nat) (l:Ds),tot l≤n→okL l→l.length=m0 →
  ∃ l',evw C y0 i_fix_Order_l1 [(0,consV cs),(2,intsV ord),(8,dsV l),(9,.bool true)] h =
   some (.ext 0,[(0,consV cs),(2,intsV ord),(8,dsV l'),(23,.bool false)],h)∧Steps cs l l'∧LeL l' l:=by
 have key:∀ (l l':Ds) (m:Bool) (z:Option Rs),(evw C y0 i_fix_Order_l0 [(0,consV cs),(2,intsV ord),(8,dsV l),(9,.bool false),(24,intsV ord),(25,iv ord.length),(26,iv 0)] h =
   some (.ext 2,[(0,consV cs),(2,intsV ord),(8,dsV l'),(9,.bool m),(24,intsV ord),(25,iv ord.length),(26,iv ord.length),(27,.bool false)],h))→evw C y0 i_fix_Order_l1 [(0,consV cs),(2,intsV ord),(8,dsV l'),(9,.bool m),(24,intsV ord),(25,iv ord.length),(26,iv ord.length),(27,.bool false)] h=z→evw C y0 i_fix_Order_l1 [(0,consV cs),(2,intsV ord),(8,dsV l),(9,.bool true)] h=z:=fun l l' m z e1 e2=>by
  rw [←e2]
  conv=>lhs;rw [r_fix_Order_1]
  simp [b_fix_Order_1,e1]
 have norm:∀ (l':Ds) (m:Bool),evw C y0 i_fix_Order_l1 [(0,consV cs),(2,intsV ord),(8,dsV l'),(9,.bool m),(24,intsV ord),(25,iv ord.length),(26,iv ord.length),(27,.bool false)] h=evw C y0 i_fix_Order_l1 [(0,consV cs),(2,intsV ord),(8,dsV l'),(9,.bool m)] h:=fun l' m=>by
  rw [r_fix_Order_1]
  conv=>rhs;rw [r_fix_Order_1]
  congr 1
  unfold b_fix_Order_1
  rw [w_seq,w_seq]
  congr 1
  simp
 have stop:∀ l':Ds,evw C y0 i_fix_Order_l1 [(0,consV cs),(2,intsV ord),(8,dsV l'),(9,.bool false)] h=some (.ext 0,[(0,consV cs),(2,intsV ord),(8,dsV l'),(23,.bool false)],h):=fun l'=>by
  rw [r_fix_Order_1]
  simp [b_fix_Order_1]
 intro n
 induction n with
 | zero=>
  intro l hn ok hlm
  obtain ⟨l',m,e,s,le,k⟩:=ord_in hcl hpos hcs hm0 hRB ord hol ord.length 0 l false h (by omega) ok hlm
  simp only [Int.cast_ofNat_Int] at e
  cases m with
  | true=>rcases k rfl with q|q;cases q;omega
  | false=>exact ⟨l',key l l' false _ e (by rw [norm,stop]),s,le⟩
 | succ n ih=>
  intro l hn ok hlm
  obtain ⟨l',m,e,s,le,k⟩:=ord_in hcl hpos hcs hm0 hRB ord hol ord.length 0 l false h (by omega) ok hlm
  simp only [Int.cast_ofNat_Int] at e
  cases m with
  | false=>exact ⟨l',key l l' false _ e (by rw [norm,stop]),s,le⟩
  | true=>
   have hlt:tot l'<tot l:=by rcases k rfl with q|q;cases q;exact q
   obtain ⟨lf,e2,s2,le2⟩:=ih l' (by omega) le.okl (by have:=le.1;omega)
   exact ⟨lf,key l l' true _ e (by rw [norm];exact e2),s.trans s2,le2.trans le⟩
def OrdA (cs:List Con) (l:Ds) (a:Ds) (e:Int):Prop:=
 if rightAll cs l=true then e=0∧Steps cs l a∧fixed cs a else a=[]∧e=1
theorem fix_Order (cs:List Con) (hcl:cs.length≤20) (hcs:∀ c∈cs,c150 c) (l:Ds) (hl:DsOK l) (ord:List Int) (hol:ord.length≤1000):∃ a e,OrdA cs l a e∧∀ h,acw C n_fix_Order [consV cs,dsV l,intsV ord] h=some (.ret (.tup [dsV a,iv e]),h):=by
 have kr:=fun h=>fix_right cs hcs (by omega) l hl h
 cases hr:rightAll cs l with
 | false=>
  rw [hr] at kr
  refine ⟨[],1,by unfold OrdA;rw [hr,if_neg (by simp)];exact ⟨rfl,rfl⟩,fun h=>?_⟩
  refine acw_pure (h':=[]) (v:=.tup [.nsl 2,iv 1]) (v':=.tup [dsV [],iv 1]) (CT T_fix_Order) rfl rfl ?_ rfl (by simp)
  simp [runW_fin,F_fix_Order,i_fix_Order,kr]
 | true=>
  rw [hr] at kr
  have hr2:=hr
  unfold rightAll at hr2
  simp only [Bool.and_eq_true,decide_eq_true_eq] at hr2
  obtain ⟨⟨h16,hRB⟩,hma⟩:=hr2
  have hRB2:=List.all_eq_true.1 hRB
  have ok:=mayAll_ok hma
  have kc:=fun h=>fix_copied ok (by omega) h
  unfold OrdA
  simp only [hr,if_true]
  have last:∀ l':Ds,Steps cs l l'→LeL l' l→∃ a n,(∀ h,acw C n_fix_Run [consV cs,dsV l'] h=some (.ret (.tup [dsV a,iv n,iv 0]),h))∧Steps cs l a∧fixed cs a:=fun l' s le=>by
   have ok':=le.okl
   obtain ⟨a,n,e,A,k⟩:=fix_Run cs hcl hcs l' (ds_ok ok' (by have:=le.1;omega))
   have hr':rightAll cs l'=true:=by
    unfold rightAll
    rw [le.1,hRB,may_all ok']
    simp [h16]
   unfold RunA at A
   rw [hr',if_pos rfl] at A
   obtain ⟨rfl,s2,f2,-⟩:=A
   exact ⟨a,n,k,s.trans s2,f2⟩
  have fin:∀ (a:Ds) (h3:List Ob),runB (evw C y0) F_fix_Order [consV cs,dsV l,intsV ord] []=some (.ret (.tup [dsV a,iv 0]),h3)→∀ h,acw C n_fix_Order [consV cs,dsV l,intsV ord] h=some (.ret (.tup [dsV a,iv 0]),h):=fun a h3 e h=>
   acw_pure (h':=h3) (v:=.tup [dsV a,iv 0]) (v':=.tup [dsV a,iv 0]) (CT T_fix_Order) rfl rfl e rfl (by simp)
  rcases Nat.eq_zero_or_pos cs.length with h0|hpos
  ·have hcs0:cs=[]:=List.length_eq_zero_iff.1 h0
   obtain ⟨a,n,k,s,f⟩:=last l .refl (LeL.refl ok)
   refine ⟨a,0,⟨rfl,s,f⟩,fin a [] ?_⟩
   have stop:evw C y0 i_fix_Order_l1 [(0,consV cs),(2,intsV ord),(8,dsV l),(9,.bool false)] []=some (.ext 0,[(0,consV cs),(2,intsV ord),(8,dsV l),(23,.bool false)],[]):=by
    rw [r_fix_Order_1]
    simp [b_fix_Order_1]
   have hg:¬(0:Int)<cs.length:=by omega
   subst hcs0
   simp [runW_fin,F_fix_Order,i_fix_Order] at kr stop k ⊢
   simp [runW_fin,F_fix_Order,i_fix_Order,kr,kc,stop,k]
  ·obtain ⟨l',e1,s1,le1⟩:=ord_out hcl hpos hcs (m0:=l.length) (by omega) hRB2 ord hol [] (tot l) l (Nat.le_refl _) ok rfl
   obtain ⟨a,n,k,s,f⟩:=last l' s1 le1
   refine ⟨a,0,⟨rfl,s,f⟩,fin a [] ?_⟩
   simp [runW_fin,F_fix_Order,i_fix_Order,kr,kc,hpos,e1,k]
def bigD (d:Dm):Bool:=decide (150<(d.vals.length:Int))
def l12L (l:Ds):Bool:=decide (20<(l.length:Int))||l.any bigD
theorem l12_loop {l:Ds} (hl:l.length≤1000):∀ (n i:Nat) (h:List Ob),i+n=l.length →
  ∃ fr' h',evw C y0 i_law12_Large_l0 [(28,dsV l),(29,iv l.length),(30,iv i)] h=some (if (l.drop i).any bigD=true then (.ret,[(4,.bool true)],h') else (.ext 0,fr',h')):=by
 intro n
 induction n with
 | zero=>
  intro i h hin
  have:i=l.length:=by omega
  subst this
  refine ⟨[(28,dsV l),(29,iv l.length),(30,iv l.length),(31,.bool false)],h,?_⟩
  rw [r_law12_Large_0,List.drop_length]
  simp [b_law12_Large_0]
 | succ n ih=>
  intro i h hin
  have hlt:i<l.length:=by omega
  obtain ⟨d,hd⟩:∃ d,d=l[i]:=⟨_,rfl⟩
  have hd1:l[i]? = some d:=by simp [hlt,hd]
  have hd2:∀ h:i<l.length,l[i]'h=d:=fun _=>hd.symm
  have hi4:(i:Int)<l.length:=by omega
  have hwr:=wrap_succ hlt (by omega)
  obtain ⟨fr',h',ih⟩:=ih (i+1) (h++[.row 2 [domV d]]) (by omega)
  simp only [Int.natCast_add,Int.cast_ofNat_Int] at ih
  rw [List.drop_eq_getElem_cons hlt,List.any_cons,←hd]
  by_cases c:(150:Int)<d.vals.length
  ·have e:bigD d=true:=by unfold bigD;simpa using c
   refine ⟨[],h++[.row 2 [domV d]],?_⟩
   rw [e,Bool.true_or,if_pos rfl,r_law12_Large_0]
   simp [b_law12_Large_0,hlt,hd1,hd2,hi4,c]
  ·have e:bigD d=false:=by unfold bigD;simpa using c
   refine ⟨fr',h',?_⟩
   rw [e,Bool.false_or,←ih,r_law12_Large_0]
   simp [b_law12_Large_0,hlt,hd1,hd2,hi4,hwr,c]
def zCon:V:=.agg [iv 0,.nsl 1,.nsl 1,iv 0,iv 0,.nsl 1]
def zConS:V:=.agg [iv 0,.sl 1 [],.sl 1 [],iv 0,iv 0,.sl 1 []]
theorem law12_Large (l:Ds) (hl:l.length≤9223372036854775807) (h:List Ob):acw C n_law12_Large [zCon,dsV l] h=some (.ret (.bool (l12L l)),h):=by
 unfold l12L
 by_cases c:(20:Int)<l.length
 ·have e:decide ((20:Int)<l.length)=true:=by simpa using c
  rw [e,Bool.true_or]
  refine acw_pure (a2:=[zConS,dsV l]) (h':=[.row 6 [zConS]]) (v:=.bool true) (v':=.bool true) (CT T_law12_Large) rfl rfl ?_ rfl (by simp)
  simp [runW_fin,F_law12_Large,i_law12_Large,zConS,c]
 ·have e:decide ((20:Int)<l.length)=false:=by simpa using c
  rw [e,Bool.false_or]
  obtain ⟨fr',h',k⟩:=l12_loop (l:=l) (by omega) l.length 0 [.row 6 [zConS]] (by omega)
  rw [List.drop_zero] at k
  simp only [Int.cast_ofNat_Int] at k
  refine acw_pure (a2:=[zConS,dsV l]) (h':=h') (v:=.bool (l.any bigD)) (v':=.bool (l.any bigD)) (CT T_law12_Large) rfl rfl ?_ rfl (by simp)
  unfold zConS at k ⊢
  cases hb:l.any bigD with
  | true=>
   rw [hb,if_pos rfl] at k
   simp [runW_fin,F_law12_Large,i_law12_Large,c,k]
  | false=>
   rw [hb,if_neg (by simp)] at k
   simp [runW_fin,F_law12_Large,i_law12_Large,c,k]
def l17L (cs:List Con) (l:Ds):Bool:=(gLargeB cs []||decide (20<(cs.length:Int)))||l12L l
theorem gLarge0 (cs:List Con) (h:List Ob):acw C n_law11_Large [consV cs,.nsl 1] h=some (.ret (.bool (gLargeB cs [])),h):=
 acw_of_frz (a2:=[consV cs,intsV []]) (CT T_law11_Large) rfl rfl rfl (gLarge cs [] []) rfl
theorem law17_Large (cs:List Con) (l:Ds) (hl:l.length≤9223372036854775807) (h:List Ob):acw C n_law17_Large [consV cs,dsV l] h=some (.ret (.bool (l17L cs l)),h):=by
 have k1:=fun h=>gLarge0 cs h
 have k2:=fun h=>law12_Large l hl h
 unfold zCon at k2
 unfold l17L
 refine acw_ex (v:=.bool _) (CT T_law17_Large) rfl rfl (fun _=>rfl) (by simp) ⟨[],?_⟩
 cases c1:gLargeB cs [] with
 | true=>
  rw [c1] at k1
  simp [runW_fin,F_law17_Large,i_law17_Large,k1]
 | false=>
  rw [c1] at k1
  by_cases c2:(20:Int)<cs.length
  ·have e:decide ((20:Int)<cs.length)=true:=by simpa using c2
   rw [e]
   simp [runW_fin,F_law17_Large,i_law17_Large,k1,c2]
  ·have e:decide ((20:Int)<cs.length)=false:=by simpa using c2
   rw [e]
   simp [runW_fin,F_law17_Large,i_law17_Large,k1,c2,k2]
theorem l17_inv {cs:List Con} {l:Ds} (h:l17L cs l=false) (hlive:∀ d∈l,d.live<18446744073709551616):cs.length≤20∧(∀ c∈cs,c150 c)∧DsOK l∧l.length≤20:=by
 unfold l17L l12L gLargeB at h
 simp only [Bool.or_eq_false_iff,decide_eq_false_iff_not] at h
 obtain ⟨⟨⟨h1,h2,h3⟩,h4⟩,h5,h6⟩:=h
 refine ⟨by omega,fun c hc=>?_,⟨by omega,fun d hd=>⟨hlive d hd,?_⟩⟩,by omega⟩
 ·have:=List.any_eq_false.1 h3 c hc
  unfold largeC at this
  simp only [Bool.or_eq_true,decide_eq_true_eq,not_or] at this
  exact ⟨by omega,by omega,by omega⟩
 ·have:=List.any_eq_false.1 h6 d hd
  unfold bigD at this
  simp only [decide_eq_true_eq] at this
  omega
theorem left_in (row:List Int) (i:Nat) (hi:i<row.length) (xs:List Int) (hx:xs.length≤1000) (q15 q16 q17:V) (h:List Ob):∀ (n j:Nat) (b:Bool),j+n=xs.length →
  evw C y0 i_law12_Left_l0 [(0,intsV row),(5,iv i),(7,.bool b),(15,q15),(16,q16),(17,q17),(23,intsV xs),(24,iv xs.length),(25,iv j)] h =
   some (.ext 2,[(0,intsV row),(5,iv i),(7,.bool (b||(xs.drop j).any fun v=>v==row[i])),(15,q15),(16,q16),(17,q17),(23,intsV xs),(24,iv xs.length),(25,iv xs.length),(26,.bool false)],h):=by
 intro n
 induction n with
 | zero=>
  intro j b hj
  have:j=xs.length:=by omega
  subst this
  rw [r_law12_Left_0,List.drop_length]
  simp [b_law12_Left_0]
 | succ n ih=>
  intro j b hj
  have hlt:j<xs.length:=by omega
  obtain ⟨v,hv⟩:∃ v,v=xs[j]:=⟨_,rfl⟩
  obtain ⟨r,hr⟩:∃ v,v=row[i]:=⟨_,rfl⟩
  have hv1:xs[j]? = some v:=by simp [hlt,hv]
  have hv2:∀ h:j<xs.length,xs[j]'h=v:=fun _=>hv.symm
  have hr1:row[i]? = some r:=by simp [hi,hr]
  have hr2:∀ h:i<row.length,row[i]'h=r:=fun _=>hr.symm
  have hj4:(j:Int)<xs.length:=by omega
  have hi4:(i:Int)<row.length:=by omega
  have hwr:=wrap_succ hlt (by omega)
  have ih:=ih (j+1) (b||v==r) (by omega)
  simp only [Int.natCast_add,Int.cast_ofNat_Int] at ih
  rw [List.drop_eq_getElem_cons hlt,List.any_cons,←hv,←Bool.or_assoc]
  rw [←hr] at ih ⊢
  rw [←ih,r_law12_Left_0]
  cases b<;>simp [b_law12_Left_0,hlt,hi,hv1,hv2,hr1,hr2,hj4,hi4,hwr]
end Go.RR.FX
namespace Go.RR
end Go.RR
namespace Go.RR.M
open Go Go.RR
theorem rmay_loop (d:Dm) (hl:d.vals.length≤64):∀ (k i:Nat) (p:Option Int),i+k=d.vals.length→(∀ (h:0<i) (h':i-1<d.vals.length),p=some d.vals[i-1])→(i=0→p=none) →
  ∃ fr',evw C y0 i_ref04_May_l0 [(1,.ptr 0 0 0 1),(3,iv i)] [.row 2 [domV d]]=some (if rising p (d.vals.drop i)=true then (.ext 0,(1,.ptr 0 0 0 1)::fr',[.row 2 [domV d]]) else (.ret,[(2,.bool false)],[.row 2 [domV d]]))
 | 0,i,p,e,hp,h0=>by
  obtain rfl:i=d.vals.length:=by omega
  rw [r_ref04_May_0,List.drop_length]
  refine ⟨[(3,iv d.vals.length),(14,.bool false)],?_⟩
  simp [b_ref04_May_0,rising]
 | k+1,i,p,e,hp,h0=>by
  have hlt:i<d.vals.length:=by omega
  have h2:(i:Int)<d.vals.length:=by omega
  have h3:d.vals[i]? = some d.vals[i]:=by simp [hlt]
  have hw:=wrap_succ (i:=i) (n:=d.vals.length) hlt (by omega)
  obtain ⟨fr',ih⟩:=rmay_loop d hl k (i+1) (some d.vals[i]) (by omega) (fun _ _=>rfl) (by omega)
  simp only [Int.natCast_add,Int.cast_ofNat_Int] at ih
  rw [r_ref04_May_0,List.drop_eq_getElem_cons hlt]
  simp only [rising]
  by_cases c1:d.vals[i] < -1048576
  ·have c1':¬(-1048576≤d.vals[i]):=by omega
   exact ⟨[],by simp [b_ref04_May_0,h2,h3,c1,c1']⟩
  have c1':-1048576≤d.vals[i]:=by omega
  by_cases c2:1048576<d.vals[i]
  ·have c2':¬(d.vals[i]≤1048576):=by omega
   exact ⟨[],by simp [b_ref04_May_0,h2,h3,c1,c1',c2,c2']⟩
  have c2':d.vals[i]≤1048576:=by omega
  by_cases c4:0<i
  ·have hlt':i-1<d.vals.length:=by omega
   have hp1:=hp c4 hlt'
   subst hp1
   have w2:IntKind.i64.wrap ((i:Int)-1)=((i-1:Nat):Int):=by rw [wrap64 (by omega) (by omega)];omega
   have h5:d.vals[i-1]? = some d.vals[i-1]:=by simp [hlt']
   by_cases c5:d.vals[i]≤d.vals[i-1]
   ·have c5':¬(d.vals[i-1]<d.vals[i]):=by omega
    exact ⟨[],by simp [b_ref04_May_0,h2,h3,c1,c1',c2,c2',c4,w2,h5,c5,c5']⟩
   ·have c5':d.vals[i-1]<d.vals[i]:=by omega
    refine ⟨fr',?_⟩
    simp only [c1',c2',c5',decide_true,Bool.true_and,←ih]
    simp [b_ref04_May_0,h2,h3,c1,c2,c4,w2,h5,c5,hw]
  ·have hi0:i=0:=by omega
   have hp0:=h0 hi0
   subst hp0
   refine ⟨fr',?_⟩
   simp only [c1',c2',decide_true,Bool.true_and,←ih]
   simp [b_ref04_May_0,h2,h3,c1,c2,c4,hw]
theorem rtop_loop (d:Dm) (hl:d.vals.length≤64):∀ (k i:Nat),i+k=d.vals.length →
  evw C y0 i_ref04_May_l1 [(1,.ptr 0 0 0 1),(4,uv (2 ^ i % 18446744073709551616)),(5,iv i)] [.row 2 [domV d]]=some (.ext 2,[(1,.ptr 0 0 0 1),(4,uv (2 ^ d.vals.length % 18446744073709551616)),(5,iv d.vals.length),(53,.bool false)],[.row 2 [domV d]])
 | 0,i,e=>by
  obtain rfl:i=d.vals.length:=by omega
  rw [r_ref04_May_1]
  simp [b_ref04_May_1]
 | k+1,i,e=>by
  have hlt:i<d.vals.length:=by omega
  have h2:(i:Int)<d.vals.length:=by omega
  have hw:=wrap_succ (i:=i) (n:=d.vals.length) hlt (by omega)
  have ih:=rtop_loop d hl k (i+1) (by omega)
  have hp:2 ^ i≤2 ^ 63:=Nat.pow_le_pow_right (by omega) (by omega)
  have hm:2 ^ i % 18446744073709551616=2 ^ i:=Nat.mod_eq_of_lt (by omega)
  have h9:2 ^ (i+1) % 18446744073709551616=(2*2 ^ i) % 18446744073709551616:=by rw [Nat.pow_succ,Nat.mul_comm]
  rw [h9] at ih
  rw [hm]
  obtain ⟨P,hP⟩:∃ P,P=2 ^ i:=⟨_,rfl⟩
  rw [←hP] at ih hp ⊢
  have hw2:IntKind.u64.wrap (2*(P:Int))=((2*P % 18446744073709551616:Nat):Int):=by
   unfold IntKind.wrap
   simp [IntKind.bits,IntKind.signed]
  obtain ⟨M,hM⟩:∃ M,M=2*P % 18446744073709551616:=⟨_,rfl⟩
  rw [←hM] at ih hw2
  simp only [Int.natCast_add,Int.cast_ofNat_Int] at ih
  rw [r_ref04_May_1,←ih]
  simp [b_ref04_May_1,h2,hw,hw2]
theorem ref04_May (d:Dm) (hd:d.live<18446744073709551616) (hn:d.vals.length≤1000000) (h:List Ob):acw C n_ref04_May [domV d] h=some (.ret (.bool (mayD d)),h):=by
 refine acw_ex (v:=.bool (mayD d)) (CT T_ref04_May) rfl rfl (fun _=>rfl) (by simp) ?_
 by_cases c1:(64:Int)<d.vals.length
 ·have e:mayD d=false:=by unfold mayD;simp;omega
  rw [e]
  simp [runW_fin,F_ref04_May,i_ref04_May,c1]
 have hl:d.vals.length≤64:=by omega
 obtain ⟨fr',lp⟩:=rmay_loop d hl d.vals.length 0 none (by omega) (by omega) (fun _=>rfl)
 simp only [List.drop_zero,Int.cast_ofNat_Int] at lp
 have lt:=rtop_loop d hl d.vals.length 0 (by omega)
 simp only [Nat.pow_zero] at lt
 cases cr:rising none d.vals with
 | false=>
  have e:mayD d=false:=by unfold mayD;rw [cr,Bool.and_false]
  rw [cr] at lp
  rw [e]
  simp at lp
  simp [runW_fin,F_ref04_May,i_ref04_May,c1,lp]
 | true=>
  rw [cr] at lp
  simp at lp
  by_cases c3:d.vals.length=64
  ·have e:mayD d=true:=mayD_iff.2 ⟨hl,by rw [c3];omega,cr⟩
   rw [e]
   have c3':(d.vals.length:Int)=64:=by omega
   obtain ⟨T,hT⟩:∃ T,T=2 ^ d.vals.length % 18446744073709551616:=⟨_,rfl⟩
   rw [←hT] at lt
   simp only [Nat.reduceMod,uv,Int.cast_ofNat_Int] at lt
   simp [runW_fin,F_ref04_May,i_ref04_May,c1,lp,lt,c3',ieq]
  ·have hp:2 ^ d.vals.length≤2 ^ 63:=Nat.pow_le_pow_right (by omega) (by omega)
   rw [Nat.mod_eq_of_lt (show 2 ^ d.vals.length<18446744073709551616 by omega)] at lt
   have c3':¬(d.vals.length:Int)=64:=by omega
   obtain ⟨P,hP⟩:∃ P,P=2 ^ d.vals.length:=⟨_,rfl⟩
   rw [←hP] at lt
   have e:mayD d=decide ((d.live:Int)<P):=by
    unfold mayD
    rw [cr,Bool.and_true,←hP]
    rw [show decide (d.vals.length≤64)=true by simp [hl],Bool.true_and]
    simp
   rw [e]
   simp only [Nat.reduceMod,uv,Int.cast_ofNat_Int] at lt
   simp [runW_fin,F_ref04_May,i_ref04_May,c1,lp,lt,c3',ieq]
end Go.RR.M
namespace Go.RR
theorem tmod2 (n:Nat):(n:Int).tmod 2=((n % 2:Nat):Int):=by
 simp [Int.tmod]
end Go.RR
namespace Go.RR.M
open Go Go.RR
theorem rlist_loop (d:Dm) (hn:d.vals.length≤64):∀ (m i left:Nat) (acc:List Int),i+m=d.vals.length→acc.length≤i→left<18446744073709551616→∃ L',
  evw C y0 i_ref04_List_l0 [(1,.ptr 0 0 0 1),(3,.own 1 0 acc.length acc.length),(4,uv left),(5,iv i)] [.row 2 [domV d],.row 1 (acc.map (V.int .i64))] =
   some (.ext 0,[(1,.ptr 0 0 0 1),(3,.own 1 0 (acc++leftR (d.vals.drop i) left).length (acc++leftR (d.vals.drop i) left).length),(4,uv L'),(5,iv d.vals.length),(17,.bool false)],[.row 2 [domV d],.row 1 ((acc++leftR (d.vals.drop i) left).map (V.int .i64))])
 | 0,i,left,acc,e,ha,hl=>by
  obtain rfl:i=d.vals.length:=by omega
  rw [List.drop_length,r_ref04_List_0]
  refine ⟨left,?_⟩
  simp [b_ref04_List_0,leftR]
 | m+1,i,left,acc,e,ha,hl=>by
  have hlt:i<d.vals.length:=by omega
  have h2:(i:Int)<d.vals.length:=by omega
  have h3:d.vals[i]? = some d.vals[i]:=by simp [hlt]
  have hw:=wrap_succ (i:=i) (n:=d.vals.length) hlt (by omega)
  have ht:=tmod2 left
  have hq:IntKind.u64.wrap ((left:Int) / 2)=((left / 2:Nat):Int):=by rw [wrapU (by omega) (by omega)];omega
  rw [List.drop_eq_getElem_cons hlt,leftR]
  obtain ⟨q,hqe⟩:∃ q,q=left / 2:=⟨_,rfl⟩
  rw [←hqe] at hq ⊢
  by_cases c:left % 2=1
  ·rw [if_pos c]
   rw [c] at ht
   obtain ⟨L',ih⟩:=rlist_loop d hn m (i+1) q (acc++[d.vals[i]]) (by omega) (by simp;omega) (by omega)
   have k4:bsfL (.int .i64 0) [iv d.vals[i]]=some (.sl 1 [iv d.vals[i]]):=rfl
   have k5:∀ nid,appV nid [.row 2 [domV d],.row 1 (acc.map (V.int .i64))] 1 8 (.own 1 0 acc.length acc.length) (.sl 1 [iv d.vals[i]])=some (.own 1 0 (acc.length+1) (acc.length+1),some (1,.row 1 (acc.map (V.int .i64)++[iv d.vals[i]]))):=fun nid=>appV_own rfl (by simp) rfl (by simp) (by simp) (by omega) (by omega)
   refine ⟨L',?_⟩
   rw [List.append_cons]
   simp only [Int.natCast_add,Int.cast_ofNat_Int] at ih ht
   rw [r_ref04_List_0,←ih]
   simp [b_ref04_List_0,h2,h3,ht,hq,k4,k5,hw,ieq]
  ·rw [if_neg c]
   rw [show left % 2=0 by omega] at ht
   obtain ⟨L',ih⟩:=rlist_loop d hn m (i+1) q acc (by omega) (by omega) (by omega)
   refine ⟨L',?_⟩
   simp only [Int.natCast_add,Int.cast_ofNat_Int] at ih ht
   rw [r_ref04_List_0,←ih]
   simp [b_ref04_List_0,h2,h3,ht,hq,hw,ieq]
theorem ref04_List (d:Dm) (hd:d.live<18446744073709551616) (hn:d.vals.length≤1000000) (h:List Ob):acw C n_ref04_List [domV d] h=some (.ret (intsV (listD d)),h):=by
 have k1:=ref04_May d hd hn
 unfold listD
 cases hm:mayD d with
 | false=>
  rw [hm] at k1
  rw [if_neg (by simp)]
  refine acw_pure (a2:=[domV d]) (h':=[.row 2 [domV d],.row 1 []]) (v:=.own 1 0 0 0) (CT T_ref04_List) rfl rfl ?_ rfl (by simp)
  simp [runW_fin,F_ref04_List,i_ref04_List,k1]
 | true=>
  obtain ⟨h1,h2,-⟩:=mayD_iff.1 hm
  rw [hm] at k1
  rw [if_pos rfl]
  obtain ⟨L',lp⟩:=rlist_loop d h1 d.vals.length 0 d.live [] (by omega) (by simp) hd
  rw [List.drop_zero,List.nil_append] at lp
  obtain ⟨R,hR⟩:∃ R,R=leftR d.vals d.live:=⟨_,rfl⟩
  rw [←hR] at lp ⊢
  simp only [List.length_nil,List.map_nil,Int.cast_ofNat_Int] at lp
  refine acw_pure (a2:=[domV d]) (h':=[.row 2 [domV d],.row 1 (R.map (V.int .i64))]) (v:=.own 1 0 R.length R.length) (CT T_ref04_List) rfl rfl ?_ (frz_own_ints rfl rfl 10) (by simp)
  simp [runW_fin,F_ref04_List,i_ref04_List,k1,lp]
end Go.RR.M
namespace Go.RR.FX
open Go Go.RR Go.RR.M
def leftB:List Int→Ds→Bool
 | [],[]=>true
 | x::r,d::s=>((listD d).any fun v=>v==x)&&leftB r s
 | _,_=>false
theorem leftB_len:∀ {row:List Int} {l:Ds},leftB row l=true→row.length=l.length
 | [],[],_=>rfl
 | [],_::_,h=>by simp [leftB] at h
 | _::_,[],h=>by simp [leftB] at h
 | x::r,d::s,h=>by
  simp only [leftB,Bool.and_eq_true] at h
  simp [leftB_len h.2]
theorem leftB_InR:∀ {row:List Int} {l:Ds},leftB row l=true↔InR row l
 | [],[]=>⟨fun _=>⟨rfl,fun i h=>by simp at h⟩,fun _=>rfl⟩
 | [],_::_=>⟨fun h=>by simp [leftB] at h,fun h=>by have:=h.1;simp at this⟩
 | _::_,[]=>⟨fun h=>by simp [leftB] at h,fun h=>by have:=h.1;simp at this⟩
 | x::r,d::s=>by
  have ih:=leftB_InR (row:=r) (l:=s)
  simp only [leftB,Bool.and_eq_true,ih,List.any_eq_true,beq_iff_eq]
  constructor
  ·rintro ⟨⟨v,hv,rfl⟩,h1,h2⟩
   refine ⟨by simp [h1],fun i hi hk=>?_⟩
   cases i with
   | zero=>exact hv
   | succ i=>exact h2 i (by simpa using hi) (by simpa using hk)
  ·rintro ⟨h1,h2⟩
   refine ⟨⟨x,h2 0 (by simp) (by simp),rfl⟩,by simpa using h1,fun i hi hk=>?_⟩
   have:=h2 (i+1) (by simpa using hi) (by simpa using hk)
   simpa using this
theorem left_out {l:Ds} (hl:DsOK l) (row:List Int) (hr:row.length=l.length):∀ (n i:Nat) (h:List Ob),i+n=l.length →
  ∃ fr' h',evw C y0 i_law12_Left_l1 [(0,intsV row),(15,dsV l),(16,iv l.length),(17,iv i)] h=some (if leftB (row.drop i) (l.drop i)=true then (.ext 0,fr',h') else (.ret,[(4,.bool false)],h')):=by
 intro n
 induction n with
 | zero=>
  intro i h hin
  have:i=l.length:=by omega
  subst this
  refine ⟨[(0,intsV row),(15,dsV l),(16,iv l.length),(17,iv l.length),(18,.bool false)],h,?_⟩
  have z1:row.drop l.length=[]:=by rw [←hr];exact List.drop_length
  have z2:l.drop l.length=[]:=List.drop_length
  simp only [z1,z2]
  rw [if_pos (show leftB [] []=true by simp [leftB]),r_law12_Left_1]
  simp [b_law12_Left_1]
 | succ n ih=>
  intro i h hin
  have hlt:i<l.length:=by omega
  have hlr:i<row.length:=by omega
  obtain ⟨d,hd⟩:∃ d,d=l[i]:=⟨_,rfl⟩
  have hd1:l[i]? = some d:=by simp [hlt,hd]
  have hd2:∀ h:i<l.length,l[i]'h=d:=fun _=>hd.symm
  have hi4:(i:Int)<l.length:=by omega
  have hn:=hl.n
  have hwr:=wrap_succ hlt (by omega)
  have hdk:=hl.d d (by rw [hd];exact List.getElem_mem hlt)
  have kl:=fun h=>ref04_List d hdk.1 hdk.2 h
  have hlen:=listD_len d
  have e1:=left_in row i hlr (listD d) (by omega) (dsV l) (iv l.length) (iv i) (h++[.row 2 [domV d]]) (listD d).length 0 false (by omega)
  simp only [Int.cast_ofNat_Int,List.drop_zero,Bool.false_or] at e1
  obtain ⟨fr',h',ih⟩:=ih (i+1) (h++[.row 2 [domV d]]) (by omega)
  simp only [Int.natCast_add,Int.cast_ofNat_Int] at ih
  rw [List.drop_eq_getElem_cons hlt,List.drop_eq_getElem_cons hlr,leftB,←hd]
  cases hb:(listD d).any fun v=>v==row[i] with
  | true=>
   rw [hb] at e1
   refine ⟨fr',h',?_⟩
   rw [Bool.true_and,←ih,r_law12_Left_1]
   simp [b_law12_Left_1,hlt,hd1,hd2,hi4,hwr,kl,e1]
  | false=>
   rw [hb] at e1
   refine ⟨[],h++[.row 2 [domV d]],?_⟩
   rw [Bool.false_and,if_neg (by simp),r_law12_Left_1]
   simp [b_law12_Left_1,hlt,hd1,hd2,hi4,hwr,kl,e1]
theorem law12_Left (row:List Int) (l:Ds) (hl:DsOK l) (h:List Ob):acw C n_law12_Left [intsV row,dsV l] h=some (.ret (.bool (leftB row l)),h):=by
 by_cases c:row.length=l.length
 ·obtain ⟨fr',h',e⟩:=left_out hl row c l.length 0 [] (by omega)
  rw [List.drop_zero,List.drop_zero] at e
  simp only [Int.cast_ofNat_Int] at e
  refine acw_ex (v:=.bool _) (CT T_law12_Left) rfl rfl (fun _=>rfl) (by simp) ⟨h',?_⟩
  have c2:((row.length:Int) != l.length)=false:=by rw [c];simp
  cases hb:leftB row l with
  | true=>
   rw [hb,if_pos rfl] at e
   simp [runW_fin,F_law12_Left,i_law12_Left,c2,e]
  | false=>
   rw [hb,if_neg (by simp)] at e
   simp [runW_fin,F_law12_Left,i_law12_Left,c2,e]
 ·have hb:leftB row l=false:=by
   rw [Bool.eq_false_iff]
   intro q
   exact c (leftB_len q)
  have c2:((row.length:Int) != l.length)=true:=by rw [bne_iff_ne];omega
  rw [hb]
  refine acw_ex (v:=.bool _) (CT T_law12_Left) rfl rfl (fun _=>rfl) (by simp) ⟨[],?_⟩
  simp [runW_fin,F_law12_Left,i_law12_Left,c2]
theorem leftR_sub:∀ {l:List Int} {a b:Nat},l.Pairwise (·<·)→a<2 ^ l.length→(∀ x,x∈leftR l a→x∈leftR l b)→∀ i,a.testBit i=true→b.testBit i=true
 | [],a,b,_,ha,_,i,h=>by
  have:a=0:=by simpa using ha
  subst this
  simp at h
 | v::r,a,b,hp,ha,h,i,hi=>by
  have hp2:=List.pairwise_cons.1 hp
  have nv:∀ k,v∉leftR r k:=fun k q=>by
   have:=hp2.1 v (leftR_mem r k v q)
   omega
  rw [List.length_cons,Nat.pow_succ] at ha
  have hpar:a % 2=1→b % 2=1:=fun q=>by
   have:=h v
   unfold leftR at this
   rw [if_pos q] at this
   rcases Nat.mod_two_eq_zero_or_one b with z|z
   ·rw [if_neg (by omega)] at this
    exact absurd (this (by simp)) (nv _)
   ·exact z
  cases i with
  | zero=>
   rw [Nat.testBit_zero] at hi ⊢
   simp only [decide_eq_true_eq] at hi ⊢
   exact hpar hi
  | succ i=>
   rw [Nat.testBit_succ] at hi ⊢
   refine leftR_sub (l:=r) (a:=a / 2) (b:=b / 2) hp2.2 (by omega) (fun x hx=>?_) i hi
   have:=h x
   unfold leftR at this
   by_cases q:a % 2=1
   ·rw [if_pos q,if_pos (hpar q),List.mem_cons,List.mem_cons] at this
    rcases this (.inr hx) with e|e
    ·subst e;exact absurd hx (nv _)
    ·exact e
   ·rw [if_neg q] at this
    have t:=this hx
    split at t
    ·rcases List.mem_cons.1 t with e|e
     ·subst e;exact absurd hx (nv _)
     ·exact e
    ·exact t
theorem LeD.bits {a b:Dm} (h:LeD a b) (i:Nat) (hi:a.live.testBit i=true):b.live.testBit i=true:=by
 have ma:=mayD_iff.1 h.ma
 have hs:=h.s
 unfold listD at hs
 rw [if_pos h.ma,if_pos h.mb,←h.v] at hs
 exact leftR_sub (rising_all ma.2.2).2.1 ma.2.1 hs i hi
theorem LeD.andNot {a b:Dm} (h:LeD a b):bin .andNot (.int .u64 (a.live:Int)) (.int .u64 (b.live:Int))=some (.int .u64 0):=by
 have la:=(mayD_ok h.ma).1
 have lb:=(mayD_ok h.mb).1
 have e:BitVec.ofInt 64 (a.live:Int)&&&~~~ BitVec.ofInt 64 (b.live:Int)=0#64:=by
  refine BitVec.eq_of_getLsbD_eq fun i hi=>?_
  rw [BitVec.getLsbD_and,BitVec.getLsbD_not,BitVec.ofInt_natCast,BitVec.ofInt_natCast,BitVec.getLsbD_ofNat,BitVec.getLsbD_ofNat]
  cases ta:a.live.testBit i with
  | false=>simp
  | true=>simp [h.bits i ta,hi]
 have e2:(BitVec.ofInt IntKind.u64.bits (a.live:Int)&&&~~~ BitVec.ofInt IntKind.u64.bits (b.live:Int)).toNat=0:=by
  show (BitVec.ofInt 64 (a.live:Int)&&&~~~ BitVec.ofInt 64 (b.live:Int)).toNat=0
  rw [e];rfl
 simp only [bin,binI,e2]
 rfl
end Go.RR.FX
namespace Go.RR.M
open Go Go.RR
theorem pair_loop {C:Cx} {b:IR} {α:Type} [DecidableEq α] (l m:List α) (hlm:l.length=m.length) (fr:Nat→Fr) (hp:List Ob→Prop) (e:Rs→List Ob→Rs) (fe:Fr) (rs:Fr)
  (he:∀ h,hp h→evw C y0 b (fr l.length) h=some (.ext 0,fe,h))
  (h1:∀ i (hi:i<l.length) (hi':i<m.length) h,hp h→∃ h',hp h'∧evw C y0 b (fr i) h=some (if l[i]=m[i] then (.nrm,fr (i+1),h') else (.ret,rs,h'))) :
  ∀ (d i:Nat) (h:List Ob),i+d=l.length→hp h→∃ h',hp h'∧evw C y0 (.loop b) (fr i) h=some (if l.drop i=m.drop i then (.ext 0,fe,h') else (.ret,rs,h')):=by
 intro d
 induction d with
 | zero=>
  intro i h hi hh
  have:i=l.length:=by omega
  subst this
  refine ⟨h,hh,?_⟩
  rw [w_loop,he h hh,List.drop_length,List.drop_eq_nil_of_le (by omega:m.length≤l.length)]
  rfl
 | succ d ih=>
  intro i h hi hh
  have hlt:i<l.length:=by omega
  have hlt':i<m.length:=by omega
  obtain ⟨h2,g2,e2⟩:=h1 i hlt hlt' h hh
  rw [w_loop,e2,List.drop_eq_getElem_cons hlt,List.drop_eq_getElem_cons hlt']
  by_cases c:l[i]=m[i]
  ·obtain ⟨h3,g3,e3⟩:=ih (i+1) h2 (by omega) g2
   refine ⟨h3,g3,?_⟩
   simp only [c,if_true,nxt_nrm,e3,List.cons.injEq,true_and]
  ·refine ⟨h2,g2,?_⟩
   simp only [c,if_false,nxt_ret,List.cons.injEq,false_and]
theorem ref02_same (l m:List Int) (hl:l.length≤4611686018427387904) (h:List Ob):acw C n_ref02_Same [intsV l,intsV m] h=some (.ret (.bool (decide (l=m))),h):=by
 refine acw_pure (h':=[]) (v:=.bool (decide (l=m))) (CT T_ref02_Same) rfl rfl ?_ rfl (by simp)
 by_cases hlm:l.length=m.length
 ·obtain ⟨h',hh,hloop⟩:=pair_loop (C:=C) (b:=b_ref02_Same_0) l m hlm (fun i=>[(0,intsV l),(1,intsV m),(5,iv i)]) (fun h=>h=[]) (fun r _=>r) [(0,intsV l),(1,intsV m),(5,iv l.length),(14,.bool false)] [(4,.bool false)] (by
   rintro h rfl
   simp [b_ref02_Same_0]) (by
   rintro i hi hi' h rfl
   have hw:=wrap_succ hi (by omega)
   refine ⟨[],rfl,?_⟩
   by_cases e:l[i]=m[i]
   ·simp [b_ref02_Same_0,hi,hi',e,ine,hw]
   ·simp [b_ref02_Same_0,hi,hi',e,ine]) l.length 0 [] (by omega) rfl
  subst hh
  simp only [List.drop_zero,Int.cast_ofNat_Int] at hloop
  have hloop:evw C y0 i_ref02_Same_l0 _ _=_:=hloop
  by_cases hb:l=m
  ·simp only [hb,if_true] at hloop
   simp [runW_fin,F_ref02_Same,i_ref02_Same,hb,hloop]
  ·simp only [hb,if_false] at hloop
   simp [runW_fin,F_ref02_Same,i_ref02_Same,hb,hloop,hlm]
 ·have h2:¬((l.length:Int)=m.length):=by omega
  have h4:¬(l=m):=fun e=>hlm (by rw [e])
  simp [runW_fin,F_ref02_Same,i_ref02_Same,h2,h4,ine]
theorem ref04_Same (d o:Dm) (hn:d.vals.length≤1000000) (h:List Ob):acw C n_ref04_Same [domV d,domV o] h=some (.ret (.bool (decide (d=o))),h):=by
 have k:=ref02_same d.vals o.vals (by omega)
 refine acw_ex (v:=.bool (decide (d=o))) (CT T_ref04_Same) rfl rfl (fun _=>rfl) (by simp) ?_
 obtain ⟨a,b⟩:=d
 obtain ⟨a',b'⟩:=o
 simp only [Dm.mk.injEq] at k ⊢
 by_cases c:b=b'
 ·subst c
  by_cases c2:a=a'
  ·subst c2
   simp at k
   simp [runW_fin,F_ref04_Same,i_ref04_Same,k,ieq]
  ·simp [c2] at k
   simp [runW_fin,F_ref04_Same,i_ref04_Same,k,c2,ieq]
 ·have c':¬(b:Int)=b':=by omega
  simp [runW_fin,F_ref04_Same,i_ref04_Same,c,c',ieq]
end Go.RR.M
namespace Go.RR.FX
open Go Go.RR Go.RR.M
theorem within_loop {a b:Ds} (hle:LeL a b) (hn:a.length≤1000):∀ (n i:Nat) (h:List Ob),i+n=a.length →
  ∃ h',evw C y0 i_law12_Within_l0 [(0,dsV a),(1,dsV b),(14,iv a.length),(15,iv i)] h=some (.ext 0,[(0,dsV a),(1,dsV b),(14,iv a.length),(15,iv a.length),(16,.bool false)],h'):=by
 intro n
 induction n with
 | zero=>
  intro i h hin
  have:i=a.length:=by omega
  subst this
  refine ⟨h,?_⟩
  rw [r_law12_Within_0]
  simp [b_law12_Within_0]
 | succ n ih=>
  intro i h hin
  have hlt:i<a.length:=by omega
  have hlb:i<b.length:=by have:=hle.1;omega
  obtain ⟨x,hx⟩:∃ d,d=a[i]:=⟨_,rfl⟩
  obtain ⟨y,hy⟩:∃ d,d=b[i]:=⟨_,rfl⟩
  have hxy:LeD x y:=by rw [hx,hy];exact hle.2 i hlt hlb
  have ha1:a[i]? = some x:=by simp [hlt,hx]
  have ha2:∀ h:i<a.length,a[i]'h=x:=fun _=>hx.symm
  have hb1:b[i]? = some y:=by simp [hlb,hy]
  have hb2:∀ h:i<b.length,b[i]'h=y:=fun _=>hy.symm
  have hi4:(i:Int)<a.length:=by omega
  have hi5:(i:Int)<b.length:=by omega
  have hwr:=wrap_succ hlt (by omega)
  have an:=hxy.andNot
  have ks:∀ h,acw C n_ref04_Same [.agg [intsV x.vals,.int .u64 0],.agg [intsV y.vals,.int .u64 0]] h=some (.ret (.bool true),h):=fun h=>by
   have:=ref04_Same ⟨x.vals,0⟩ ⟨y.vals,0⟩ (mayD_ok hxy.ma).2 h
   rw [show (decide ((⟨x.vals,0⟩:Dm)=⟨y.vals,0⟩))=true by simp [hxy.v]] at this
   exact this
  obtain ⟨h',ih⟩:=ih (i+1) (h++[.row 2 [.agg [intsV x.vals,.int .u64 0]],.row 2 [.agg [intsV y.vals,.int .u64 0]]]) (by omega)
  simp only [Int.natCast_add,Int.cast_ofNat_Int] at ih
  refine ⟨h',?_⟩
  have n1:(h.length==h.length+1)=false:=by simp
  have n2:(h.length+1==h.length)=false:=by simp
  rw [←ih,r_law12_Within_0]
  simp [n1,n2,b_law12_Within_0,hlt,hlb,ha1,ha2,hb1,hb2,hi4,hi5,hwr,ks,an]
theorem law12_Within {a b:Ds} (hle:LeL a b) (hn:a.length≤1000) (h:List Ob):acw C n_law12_Within [dsV a,dsV b] h=some (.ret (.bool true),h):=by
 obtain ⟨h',e⟩:=within_loop hle hn a.length 0 [] (by omega)
 simp only [Int.cast_ofNat_Int] at e
 have c:((a.length:Int) != b.length)=false:=by rw [hle.1];simp
 refine acw_ex (v:=.bool true) (CT T_law12_Within) rfl rfl (fun _=>rfl) (by simp) ⟨h',?_⟩
 simp [runW_fin,F_law12_Within,i_law12_Within,c,e]
def fewD (ms:List Nat) (i:Nat) (d:Dm):Dm:=match ms[i]? with
 | some m=>⟨d.vals,d.live&&&m⟩
 | none=>d
def fewL (ms:List Nat) (l:Ds):Ds:=l.mapIdx fun i d=>fewD ms i d
theorem and_bin {a m:Nat} (ha:a<18446744073709551616) (hm:m<18446744073709551616):bin .and (.int .u64 (a:Int)) (.int .u64 (m:Int))=some (.int .u64 ((a&&&m:Nat):Int)):=by
 have e:(BitVec.ofInt IntKind.u64.bits (a:Int)&&&BitVec.ofInt IntKind.u64.bits (m:Int)).toNat=a&&&m:=by
  show (BitVec.ofInt 64 (a:Int)&&&BitVec.ofInt 64 (m:Int)).toNat=_
  rw [BitVec.ofInt_natCast,BitVec.ofInt_natCast,BitVec.toNat_and,BitVec.toNat_ofNat,BitVec.toNat_ofNat,Nat.mod_eq_of_lt ha,Nat.mod_eq_of_lt hm]
 have le:a&&&m≤a:=Nat.and_le_left
 simp only [bin,binI,e]
 rw [wrapU (by omega) (by omega)]
 simp
theorem fewD_le {ms:List Nat} {i:Nat} {d:Dm} (hm:mayD d=true):LeD (fewD ms i d) d:=by
 unfold fewD
 cases h:ms[i]? with
 | none=>exact LeD.refl hm
 | some m=>
  have hb:=mayD_iff.1 hm
  have le:d.live&&&m≤d.live:=Nat.and_le_left
  have hm2:mayD ⟨d.vals,d.live&&&m⟩=true:=mayD_iff.2 ⟨hb.1,Nat.lt_of_le_of_lt le hb.2.1,hb.2.2⟩
  refine ⟨hm2,hm,rfl,fun x hx=>?_⟩
  unfold listD at hx ⊢
  rw [if_pos hm2] at hx
  rw [if_pos hm]
  have sub:∀ (l:List Int) (a b:Nat),(∀ i,a.testBit i=true→b.testBit i=true)→∀ x∈leftR l a,x∈leftR l b:=fun l=>by
   induction l with
   | nil=>intro a b _ x hx;exact hx
   | cons v r ih=>
    intro a b hab x hx
    unfold leftR at hx ⊢
    have h0:=hab 0
    rw [Nat.testBit_zero,Nat.testBit_zero] at h0
    simp only [decide_eq_true_eq] at h0
    have hr:=ih (a / 2) (b / 2) (fun i hi=>by
     rw [←Nat.testBit_succ] at hi ⊢
     exact hab (i+1) hi)
    by_cases q:a % 2=1
    ·rw [if_pos q] at hx
     rw [if_pos (h0 q)]
     rcases List.mem_cons.1 hx with rfl|hx
     ·simp
     ·exact List.mem_cons_of_mem _ (hr x hx)
    ·rw [if_neg q] at hx
     split
     ·exact List.mem_cons_of_mem _ (hr x hx)
     ·exact hr x hx
  refine sub d.vals _ _ (fun i hi=>?_) x hx
  rw [Nat.testBit_and] at hi
  simp only [Bool.and_eq_true] at hi
  exact hi.1
theorem few_le {ms:List Nat} {l:Ds} (ok:okL l):LeL (fewL ms l) l:=⟨by simp [fewL],fun i h1 h2=>by
 have e:(fewL ms l)[i]=fewD ms i l[i]:=by simp [fewL]
 rw [e]
 exact fewD_le (ok _ (List.getElem_mem h2))⟩
abbrev bitsV (ms:List Nat):V:=.sl 1 (ms.map fun (m:Nat)=>V.int .u64 (m:Int))
def fewP (ms:List Nat) (l:Ds) (i:Nat):Ds:=l.mapIdx fun j d=>if j<i then fewD ms j d else d
theorem fewP_all {ms:List Nat} {l:Ds}:fewP ms l l.length=fewL ms l:=by
 refine List.ext_getElem (by simp [fewP,fewL]) fun j h1 h2=>?_
 have hj:j<l.length:=by simpa [fewP] using h1
 simp [fewP,fewL,hj]
theorem fewP_zero {ms:List Nat} {l:Ds}:fewP ms l 0=l:=by
 refine List.ext_getElem (by simp [fewP]) fun j h1 h2=>?_
 simp [fewP]
theorem fewP_succ {ms:List Nat} {l:Ds} {i:Nat} (hi:i<l.length):fewP ms l (i+1)=(fewP ms l i).set i (fewD ms i l[i]):=by
 refine List.ext_getElem (by simp [fewP]) fun j h1 h2=>?_
 rw [List.getElem_set]
 by_cases c:i=j
 ·subst c
  simp [fewP]
 ·rw [if_neg c]
  simp only [fewP,List.getElem_mapIdx]
  by_cases d:j<i
  ·rw [if_pos d,if_pos (by omega)]
  ·rw [if_neg d,if_neg (by omega)]
theorem few_loop {ms:List Nat} (hms:ms.length≤9223372036854775807) (hm:∀ m∈ms,m<18446744073709551616) {l:Ds} (hl:DsOK l):∀ (n i:Nat),i+n=l.length →
  evw C y0 i_law12_Fewer_l0 [(1,bitsV ms),(5,.own 0 0 l.length l.length),(11,iv l.length),(12,iv i)] [.row 2 ((fewP ms l i).map domV)] =
   some (.ext 0,[(1,bitsV ms),(5,.own 0 0 l.length l.length),(11,iv l.length),(12,iv l.length),(13,.bool false)],[.row 2 ((fewL ms l).map domV)]):=by
 intro n
 induction n with
 | zero=>
  intro i hin
  have:i=l.length:=by omega
  subst this
  rw [fewP_all,r_law12_Fewer_0]
  simp [b_law12_Fewer_0]
 | succ n ih=>
  intro i hin
  have hlt:i<l.length:=by omega
  have hn:=hl.n
  obtain ⟨d,hd⟩:∃ d,d=l[i]:=⟨_,rfl⟩
  have hdk:=hl.d d (by rw [hd];exact List.getElem_mem hlt)
  have hi4:(i:Int)<l.length:=by omega
  have hwr:=wrap_succ hlt (by omega)
  have ih:=ih (i+1) (by omega)
  rw [fewP_succ hlt,←hd] at ih
  simp only [Int.natCast_add,Int.cast_ofNat_Int] at ih
  obtain ⟨P,hP⟩:∃ P,P=fewP ms l i:=⟨_,rfl⟩
  have hPl:P.length=l.length:=by rw [hP];simp [fewP]
  have hPi:P[i]? = some d:=by rw [hP];simp [fewP,hlt,hd]
  have hPi2:∀ h:i<P.length,P[i]'h=d:=fun h=>(List.getElem?_eq_some_iff.1 hPi).2
  rw [←hP] at ih ⊢
  have hiP:i<P.length:=by omega
  by_cases c:i<ms.length
  ·obtain ⟨m,hmm⟩:∃ m,m=ms[i]:=⟨_,rfl⟩
   have m1:ms[i]? = some m:=by simp [c,hmm]
   have m2:∀ h:i<ms.length,ms[i]'h=m:=fun _=>hmm.symm
   have ab:=and_bin hdk.1 (hm m (by rw [hmm];exact List.getElem_mem c))
   have ef:fewD ms i d=⟨d.vals,d.live&&&m⟩:=by unfold fewD;rw [m1]
   rw [ef] at ih
   have c4:(i:Int)<ms.length:=by omega
   rw [←ih,r_law12_Fewer_0]
   simp [b_law12_Fewer_0,hlt,hi4,hwr,c,c4,m1,m2,hPi,hPi2,hPl,hiP,ab]
  ·have ef:fewD ms i d=d:=by unfold fewD;rw [List.getElem?_eq_none (by omega)]
   have es:P.set i d=P:=by
    rw [←hPi2 hiP,List.set_getElem_self]
   rw [ef,es] at ih
   have c4:¬(i:Int)<ms.length:=by omega
   rw [←ih,r_law12_Fewer_0]
   simp [b_law12_Fewer_0,hlt,hi4,hwr,c4]
theorem law12_Fewer {ms:List Nat} (hms:ms.length≤9223372036854775807) (hm:∀ m∈ms,m<18446744073709551616) {l:Ds} (hl:DsOK l) (h:List Ob):acw C n_law12_Fewer [dsV l,bitsV ms] h=some (.ret (dsV (fewL ms l)),h):=by
 have e:=few_loop hms hm hl l.length 0 (by omega)
 rw [fewP_zero] at e
 simp only [Int.cast_ofNat_Int] at e
 have hn:=hl.n
 have f:frz [.row 2 ((fewL ms l).map domV)] fdepth (.own 0 0 l.length l.length)=some (dsV (fewL ms l)):=frz_own2 (ds:=fewL ms l) rfl (by simp [fewL]) 6
 refine acw_pure (h':=[.row 2 ((fewL ms l).map domV)]) (v:=.own 0 0 l.length l.length) (v':=dsV (fewL ms l)) (CT T_law12_Fewer) rfl rfl ?_ f (by simp)
 cases l with
 | nil=>
  have ap:∀ nid,appV nid [.row 2 []] 2 32 (.own 0 0 0 0) (.sl 2 [])=some (.own 0 0 0 0,none):=fun nid=>by
   simp [appV,op1,src,elems,rowOf]
  simp at e ⊢
  simp [runW_fin,F_law12_Fewer,i_law12_Fewer,ap,e]
 | cons d r=>
  have ap:∀ nid,appV nid [.row 2 []] 2 32 (.own 0 0 0 0) (dsV (d::r))=some (.own 0 0 (r.length+1) (r.length+1),some (0,.row 2 ((d::r).map domV))):=fun nid=>by
   simp only [List.length_cons] at hn
   have h1:(0+((d::r).map domV).length)*32≤70368744177664:=by simp;omega
   have h2:0+((d::r).map domV).length≤70368744177664:=by simp;omega
   have h0:¬((d::r).map domV)=[]:=by simp
   have hs:src [.row 2 []] (dsV (d::r))=some (2,(d::r).map domV):=rfl
   unfold appV
   simp only [op1,ev_c,hs,if_true]
   simp [rowOf,comb]
   omega
  have ap2:∀ nid,appV nid [.row 2 []] 2 32 (.own 0 0 0 0) (.sl 2 (domV d::r.map domV))=some (.own 0 0 (r.length+1) (r.length+1),some (0,.row 2 (domV d::r.map domV))):=ap
  simp at e ⊢
  simp [runW_fin,F_law12_Fewer,i_law12_Fewer,ap2,e]
theorem tot_take {l:Ds} {i:Nat} (h:i<l.length):tot (l.take (i+1))=tot (l.take i)+sizeD l[i]:=by
 unfold tot
 rw [List.take_succ_eq_append_getElem h,List.map_append,List.sum_append]
 simp only [List.map_cons,List.map_nil,List.sum_cons,List.sum_nil,Nat.add_zero]
theorem tot_1000:∀ {l:Ds},tot l≤l.length*64
 | []=>by simp [tot]
 | d::r=>by
  have ih:=tot_1000 (l:=r)
  have h1:tot (d::r)=sizeD d+tot r:=by simp [tot]
  have h2:=listD_len d
  rw [h1,List.length_cons,Nat.succ_mul]
  unfold sizeD
  omega
theorem size_loop {l:Ds} (hl:DsOK l) (q0 q2 q3 q9 q10:V):∀ (n i:Nat) (h:List Ob),i+n=l.length →
  ∃ h',evw C y0 i_law17_FixSound_l0 [(0,q0),(1,dsV l),(2,q2),(3,q3),(9,q9),(10,q10),(12,iv (tot (l.take i))),(39,dsV l),(40,iv l.length),(41,iv i)] h =
   some (.ext 0,[(0,q0),(1,dsV l),(2,q2),(3,q3),(9,q9),(10,q10),(12,iv (tot l)),(39,dsV l),(40,iv l.length),(41,iv l.length),(42,.bool false)],h'):=by
 intro n
 induction n with
 | zero=>
  intro i h hin
  have:i=l.length:=by omega
  subst this
  rw [List.take_length,r_law17_FixSound_0]
  refine ⟨h,?_⟩
  simp [b_law17_FixSound_0]
 | succ n ih=>
  intro i h hin
  have hlt:i<l.length:=by omega
  have hn:=hl.n
  obtain ⟨d,hd⟩:∃ d,d=l[i]:=⟨_,rfl⟩
  have hd1:l[i]? = some d:=by simp [hlt,hd]
  have hd2:∀ h:i<l.length,l[i]'h=d:=fun _=>hd.symm
  have hdk:=hl.d d (by rw [hd];exact List.getElem_mem hlt)
  have ks:=fun h=>dom_Size d hdk.1 hdk.2 h
  have hi4:(i:Int)<l.length:=by omega
  have hwr:=wrap_succ hlt (by omega)
  have t1:=tot_1000 (l:=l.take (i+1))
  have t2:=tot_take hlt
  rw [←hd] at t2
  rw [List.length_take] at t1
  have hw2:IntKind.i64.wrap ((tot (l.take i):Int)+(sizeD d:Int))=(tot (l.take (i+1)):Int):=by
   rw [wrap64 (by omega) (by omega),t2]
   omega
  obtain ⟨h',ih⟩:=ih (i+1) (h++[.row 2 [domV d]]) (by omega)
  simp only [Int.natCast_add,Int.cast_ofNat_Int] at ih
  refine ⟨h',?_⟩
  rw [←ih,r_law17_FixSound_0]
  simp [b_law17_FixSound_0,hlt,hd1,hd2,hi4,hwr,ks,hw2]
theorem fix_Wiped_1 (d:Dm) (hd:d.live<18446744073709551616∧d.vals.length≤1000000) (h:List Ob):acw C n_fix_Wiped_1 [domV d] h=some (.ret (.bool (decide (sizeD d=0))),h):=by
 have ks:=fun h=>dom_Size d hd.1 hd.2 h
 refine acw_ex (v:=.bool _) (CT T_fix_Wiped_1) rfl rfl (fun _=>rfl) (by simp) ⟨[.row 2 [domV d]],?_⟩
 have e:((sizeD d:Int)==0)=decide (sizeD d=0):=by
  rw [Bool.eq_iff_iff,beq_iff_eq,decide_eq_true_eq];omega
 simp [runW_fin,F_fix_Wiped_1,i_fix_Wiped_1,ks,e]
def wipedL (l:Ds):Bool:=l.any fun d=>decide (sizeD d=0)
theorem fix_Wiped (l:Ds) (hl:DsOK l) (h:List Ob):acw C n_fix_Wiped [dsV l] h=some (.ret (.bool (wipedL l)),h):=by
 have km:=fun h=>contains_dom (fun d=>decide (sizeD d=0)) n_fix_Wiped_1 l (fun d hd h=>fix_Wiped_1 d (hl.d d hd) h) hl.n h
 refine acw_ex (v:=.bool _) (CT T_fix_Wiped) rfl rfl (fun _=>rfl) (by simp) ⟨[],?_⟩
 unfold wipedL
 simp [runW_fin,F_fix_Wiped,i_fix_Wiped,km]
def lessC (a b:Int):Con:=⟨1,[a,b],[1,-1],2,0,[]⟩
theorem aw_less (a b:Int) (h:List Ob):acw C n_law17_awake_1 [iv a,iv b] h=some (.ret (conV (lessC a b)),h):=by
 refine acw_pure (h':=[.row 6 [.agg [iv 1,.own 1 0 2 2,.own 2 0 2 2,iv 2,iv 0,.nsl 1]],.row 1 [iv a,iv b],.row 1 [iv 1,iv (-1)]]) (v:=.agg [iv 1,.own 1 0 2 2,.own 2 0 2 2,iv 2,iv 0,.nsl 1]) (v':=conV (lessC a b)) (CT T_law17_awake_1) rfl rfl ?_ rfl (by simp)
 simp [runW_fin,F_law17_awake_1,i_law17_awake_1]
def dA:Dm:=⟨[1,2,3],7⟩
def cs1:List Con:=[lessC 0 1,lessC 1 2]
def ds1:Ds:=[dA,dA,dA]
def as1:Ds:=[⟨[1,2,3],1⟩,⟨[1,2,3],2⟩,⟨[1,2,3],4⟩]
def cs2:List Con:=[lessC 0 1,lessC 1 0]
def ds2:Ds:=[dA,dA]
def as2:Ds:=[⟨[1,2,3],0⟩,⟨[1,2,3],0⟩]
theorem c150_less {a b:Int}:c150 (lessC a b):=⟨by simp [lessC],by simp [lessC],by simp [lessC]⟩
theorem ds_A:∀ {n:Nat},n≤1000→DsOK (List.replicate n dA):=fun hn=>⟨by simpa using hn,fun d hd=>by
 rw [(List.mem_replicate.1 hd).2]
 exact ⟨by decide,by decide⟩⟩
theorem r1:rightAll cs1 ds1=true:=by kernel_rfl
theorem r2:rightAll cs2 ds2=true:=by kernel_rfl
theorem s1:stepD (lessC 0 1) (stepD (lessC 1 2) (stepD (lessC 0 1) ds1))=as1:=by kernel_rfl
theorem f1:fixed cs1 as1:=by
 intro c hc
 simp only [cs1,List.mem_cons,List.not_mem_nil,or_false] at hc
 rcases hc with rfl|rfl<;>kernel_rfl
theorem f2:fixed cs2 as2:=by
 intro c hc
 simp only [cs2,List.mem_cons,List.not_mem_nil,or_false] at hc
 rcases hc with rfl|rfl<;>kernel_rfl
theorem s2:stepD (lessC 1 0) (stepD (lessC 0 1) (stepD (lessC 1 0) (stepD (lessC 0 1) ds2)))=as2:=by kernel_rfl
theorem rc_of {cs:List Con} {l:Ds} (h:rightAll cs l=true):okL l∧RCs cs l.length∧l.length≤16:=by
 unfold rightAll at h
 simp only [Bool.and_eq_true,decide_eq_true_eq] at h
 obtain ⟨⟨h16,hRB⟩,hma⟩:=h
 exact ⟨mayAll_ok hma,fun c hc=>RC.of (List.all_eq_true.1 hRB c hc),h16⟩
theorem two1 {a:Ds} (h:StepsN cs1 ds1 2 a) (hf:fixed cs1 a):False:=by
 cases h with
 | step h2 hc2=>
  cases h2 with
  | step h1 hc1=>
   cases h1
   have m0:lessC 0 1∈cs1:=by simp [cs1]
   have m1:lessC 1 2∈cs1:=by simp [cs1]
   have g0:=hf _ m0
   have g1:=hf _ m1
   simp only [cs1,List.mem_cons,List.not_mem_nil,or_false] at hc1 hc2
   rcases hc1 with rfl|rfl<;>rcases hc2 with rfl|rfl
   ·exact absurd g1 (of_decide_eq_false (by kernel_rfl))
   ·exact absurd g0 (of_decide_eq_false (by kernel_rfl))
   ·exact absurd g1 (of_decide_eq_false (by kernel_rfl))
   ·exact absurd g0 (of_decide_eq_false (by kernel_rfl))
theorem awake (h:List Ob):acw C n_law17_awake [] h=some (.ret (.bool true),h):=by
 have kl:=fun a b h=>aw_less a b h
 have hD1:DsOK ds1:=ds_A (n:=3) (by omega)
 have hD2:DsOK ds2:=ds_A (n:=2) (by omega)
 obtain ⟨a,n,e,ra,kr⟩:=fix_Run cs1 (by decide) (fun c hc=>by
  simp only [cs1,List.mem_cons,List.not_mem_nil,or_false] at hc
  rcases hc with rfl|rfl<;>exact c150_less) ds1 hD1
 unfold RunA at ra
 rw [r1,if_pos rfl] at ra
 obtain ⟨rfl,st,fx,m,rfl,hm1,hm2,sn⟩:=ra
 obtain ⟨ok1,rc1,-⟩:=rc_of r1
 obtain rfl:a=as1:=Steps.one ok1 rc1 st fx (by
  rw [←s1]
  exact .step (.step (.step .refl (by simp [cs1])) (by simp [cs1])) (by simp [cs1])) f1
 have hm:2<m:=by
  rcases Nat.lt_or_ge 2 m with k|k
  ·exact k
  ·have:m=2:=by have:2≤m:=hm1;omega
   subst this
   exact (two1 sn fx).elim
 obtain ⟨b,f,rb,ko⟩:=fix_Order cs2 (by decide) (fun c hc=>by
  simp only [cs2,List.mem_cons,List.not_mem_nil,or_false] at hc
  rcases hc with rfl|rfl<;>exact c150_less) ds2 hD2 [1,-1] (by decide)
 unfold OrdA at rb
 rw [r2,if_pos rfl] at rb
 obtain ⟨rfl,st2,fx2⟩:=rb
 obtain ⟨ok2,rc2,-⟩:=rc_of r2
 obtain rfl:b=as2:=Steps.one ok2 rc2 st2 fx2 (by
  rw [←s2]
  exact .step (.step (.step (.step .refl (by simp [cs2])) (by simp [cs2])) (by simp [cs2])) (by simp [cs2])) f2
 have hDa:DsOK as1:=ds_ok (Steps.le ok1 st).okl (by decide)
 have hDb:DsOK as2:=ds_ok (Steps.le ok2 st2).okl (by decide)
 have w1:=fun h=>fix_Wiped as1 hDa h
 have w2:=fun h=>fix_Wiped as2 hDb h
 rw [show wipedL as1=false by kernel_rfl] at w1
 rw [show wipedL as2=true by kernel_rfl] at w2
 have kz:∀ h,acw C n_fix_Step [.agg [iv 0,.nsl 1,.nsl 1,iv 0,iv 0,.nsl 1],.nsl 2] h=some (.ret (.tup [dsV [],iv 1]),h):=fun h=>
  acw_of_frz (a2:=[zConS,dsV []]) (CT T_fix_Step) rfl rfl rfl (fix_Step ⟨0,[],[],0,0,[]⟩ ⟨by simp,by simp,by simp⟩ [] ⟨by simp,fun d hd=>by simp at hd⟩ []) rfl
 obtain ⟨z,nz,ez,rz,kzr⟩:=fix_Run [⟨0,[],[],0,0,[]⟩] (by decide) (fun c hc=>by
  simp only [List.mem_cons,List.not_mem_nil,or_false] at hc
  subst hc
  exact ⟨by simp,by simp,by simp⟩) [] ⟨by simp,fun d hd=>by simp at hd⟩
 unfold RunA at rz
 rw [if_neg (by decide)] at rz
 obtain ⟨rfl,rfl,rfl⟩:=rz
 have kzr:∀ h,acw C n_fix_Run [.sl 6 [.agg [iv 0,.sl 1 [],.sl 1 [],iv 0,iv 0,.sl 1 []]],.nsl 2] h=some (.ret (.tup [dsV [],iv 0,iv 1]),h):=fun h=>
  acw_of_frz (a2:=[.sl 6 [zConS],dsV []]) (CT T_fix_Run) rfl rfl rfl (kzr []) rfl
 have hm':(2:Int)<m:=by omega
 refine acw_ex (v:=.bool true) (CT T_law17_awake) rfl rfl (fun _=>rfl) (by simp) ⟨[.row 2 [domV dA]],?_⟩
 have b1:bsfL (.int .i64 0) [iv 1,iv 2,iv 3]=some (intsV [1,2,3]):=rfl
 have b2:bsfL (.int .i64 0) [iv 1,iv (-1)]=some (intsV [1,-1]):=rfl
 have b3:bsfL (.agg [iv 0,.nsl 1,.nsl 1,iv 0,iv 0,.nsl 1]) [conV (lessC 0 1),conV (lessC 1 2)]=some (consV cs1):=rfl
 have b4:bsfL (.agg [iv 0,.nsl 1,.nsl 1,iv 0,iv 0,.nsl 1]) [conV (lessC 0 1),conV (lessC 1 0)]=some (consV cs2):=rfl
 have b5:bsfL (.agg [.nsl 1,.int .u64 0]) [domV dA,domV dA,domV dA]=some (dsV ds1):=rfl
 have b6:bsfL (.agg [.nsl 1,.int .u64 0]) [domV dA,domV dA]=some (dsV ds2):=rfl
 have b7:bsfL (.agg [iv 0,.nsl 1,.nsl 1,iv 0,iv 0,.nsl 1]) [.agg [iv 0,.nsl 1,.nsl 1,iv 0,iv 0,.nsl 1]]=some (.sl 6 [zConS]):=rfl
 simp [cs1,ds1,as1,cs2,ds2,as2,lessC,dA,zConS,conV,domV,consV,dsV,intsV] at kr ko w1 w2 kz kzr kl b1 b2 b3 b4 b5 b6 b7
 simp [runW_fin,F_law17_awake,i_law17_awake,kl,kr,ko,w1,w2,kz,kzr,hm',b1,b2,b3,b4,b5,b6,b7,dA]
theorem right_few {cs:List Con} {l:Ds} {ms:List Nat} (h:rightAll cs l=true):rightAll cs (fewL ms l)=true:=by
 obtain ⟨ok,-,-⟩:=rc_of h
 have hle:=few_le (ms:=ms) ok
 have hlen:(fewL ms l).length=l.length:=hle.1
 have hm:=may_all hle.okl
 unfold rightAll at h ⊢
 rw [hlen]
 simp only [Bool.and_eq_true] at h ⊢
 exact ⟨h.1,hm⟩
theorem sound (cs:List Con) (l:Ds) (row:List Int) (ms:List Nat) (hl1:l.length≤9223372036854775807) (hlive:∀ d∈l,d.live<18446744073709551616) (hrow:row.length≤9223372036854775807) (hms:ms.length≤9223372036854775807) (hm:∀ m∈ms,m<18446744073709551616) (h:List Ob) :
  acw C n_law17_FixSound [consV cs,dsV l,intsV row,bitsV ms] h=some (.ret (.bool true),h):=by
 have k0:=awake
 have kL:=fun h=>law17_Large cs l hl1 h
 cases c1:l17L cs l with
 | true=>
  rw [c1] at kL
  refine acw_ex (v:=.bool true) (CT T_law17_FixSound) rfl rfl (fun _=>rfl) (by simp) ⟨[],?_⟩
  simp [runW_fin,F_law17_FixSound,i_law17_FixSound,k0,kL]
 | false=>
  rw [c1] at kL
  obtain ⟨hcl,hcs,hl,hl20⟩:=l17_inv c1 hlive
  obtain ⟨a,n,e,ra,kr⟩:=fix_Run cs hcl hcs l hl
  unfold RunA at ra
  cases c2:rightAll cs l with
  | false=>
   rw [c2,if_neg (by simp)] at ra
   obtain ⟨rfl,rfl,rfl⟩:=ra
   simp only [dsV,List.map_nil] at kr
   refine acw_ex (v:=.bool true) (CT T_law17_FixSound) rfl rfl (fun _=>rfl) (by simp) ⟨[],?_⟩
   simp [runW_fin,F_law17_FixSound,i_law17_FixSound,k0,kL,kr]
  | true=>
   rw [c2,if_pos rfl] at ra
   obtain ⟨rfl,st,fx,m,rfl,hm1,hm2,-⟩:=ra
   obtain ⟨ok,rc,h16⟩:=rc_of c2
   have tb:=tot_bd h16
   obtain ⟨h1,e1⟩:=size_loop hl (consV cs) (intsV row) (bitsV ms) (dsV a) (iv m) l.length 0 [] (by omega)
   simp only [List.take_zero,Int.cast_ofNat_Int] at e1
   have t0:tot ([]:Ds)=0:=rfl
   rw [t0] at e1
   simp only [Int.cast_ofNat_Int] at e1
   have kf:=fun h=>law12_Fewer hms hm hl h
   have fle:=few_le (ms:=ms) ok
   have hlf:DsOK (fewL ms l):=ds_ok fle.okl (by have:=fle.1;omega)
   obtain ⟨b,n2,e2,rb,kr2⟩:=fix_Run cs hcl hcs (fewL ms l) hlf
   unfold RunA at rb
   rw [right_few c2,if_pos rfl] at rb
   obtain ⟨rfl,st2,fx2,m2,rfl,-⟩:=rb
   have ale:=Steps.le ok st
   have ble:=Steps.le fle.okl st2
   have ba:LeL b a:=Steps.ge ok rc st (ble.trans fle) fx2
   have kw1:=fun h=>law12_Within ale (by have:=ale.1;omega) h
   have kw2:=fun h=>law12_Within ba (by have:=ale.1;have:=ba.1;omega) h
   have kl1:=fun h=>law12_Left row l hl h
   have hla:DsOK a:=ds_ok ale.okl (by have:=ale.1;omega)
   have kl2:=fun h=>law12_Left row a hla h
   have hN:cs.length*(tot l+1)≤20*1025:=Nat.mul_le_mul hcl (by omega)
   have hw1:IntKind.i64.wrap ((tot l:Int)+1)=(tot l:Int)+1:=wrap64 (by omega) (by omega)
   have hc:(cs.length:Int)*((tot l:Int)+1)=((cs.length*(tot l+1):Nat):Int):=by simp
   have hw2:IntKind.i64.wrap ((cs.length:Int)*((tot l:Int)+1))=(cs.length:Int)*((tot l:Int)+1):=by rw [hc];exact wrap64 (by omega) (by omega)
   have hg1:¬(cs.length:Int)*((tot l:Int)+1)<m:=by rw [hc];omega
   have hg2:¬(m:Int)<cs.length:=by omega
   refine acw_ex (v:=.bool true) (CT T_law17_FixSound) rfl rfl (fun _=>rfl) (by simp) ⟨h1,?_⟩
   cases c3:leftB row l with
   | false=>
    rw [c3] at kl1
    simp [runW_fin,F_law17_FixSound,i_law17_FixSound,k0,kL,kr,kr2,e1,kf,kw1,kw2,kl1,hw1,hw2,hg1,hg2]
   | true=>
    rw [c3] at kl1
    have hrl:=leftB_len c3
    have ka:=fun h=>rAll cs row (by omega) (by omega) hcs h
    cases c4:allB cs row with
    | false=>
     rw [c4] at ka
     simp [runW_fin,F_law17_FixSound,i_law17_FixSound,k0,kL,kr,kr2,e1,kf,kw1,kw2,kl1,ka,hw1,hw2,hg1,hg2]
    | true=>
     rw [c4] at ka
     have c5:leftB row a=true:=leftB_InR.2 (Steps.sound ok rc st (leftB_InR.1 c3) (by
      unfold allB at c4
      simp only [Bool.and_eq_true,List.all_eq_true] at c4
      exact c4.2))
     rw [c5] at kl2
     simp [runW_fin,F_law17_FixSound,i_law17_FixSound,k0,kL,kr,kr2,e1,kf,kw1,kw2,kl1,ka,kl2,hw1,hw2,hg1,hg2]
abbrev domSh:Sh:=.st (.cons intsSh (.cons (.int .u64) .nil))
theorem has_dom {vs:List V} (h:Has domSh vs):∃ s:Dm,domSh.mk vs=domV s∧s.live<18446744073709551616:=by
 unfold domSh at h
 rw [Has] at h
 simp only [HasF] at h
 obtain ⟨a1,b1,rfl,h1,a2,b2,rfl,h2,rfl⟩:=h
 obtain ⟨l1,rfl,-⟩:=has_ints h1
 obtain ⟨n2,rfl,h3,h4⟩:=has_u64 h2
 obtain ⟨m,rfl⟩:=Int.eq_ofNat_of_zero_le h3
 exact ⟨⟨l1,m⟩,rfl,by simp only;omega⟩
theorem map_of2 {α:Type} {enc:α→V} {p:α→Prop}:∀ {xs:List V},(∀ x∈xs,∃ a,x=enc a∧p a)→∃ l:List α,xs=l.map enc∧∀ a∈l,p a
 | [],_=>⟨[],rfl,fun a ha=>by simp at ha⟩
 | x::r,h=>by
  obtain ⟨a,ha,pa⟩:=h x (by simp)
  obtain ⟨l,hl,pl⟩:=map_of2 (xs:=r) fun y hy=>h y (by simp [hy])
  exact ⟨a::l,by rw [ha,hl];rfl,fun b hb=>by
   rcases List.mem_cons.1 hb with rfl|hb
   ·exact pa
   ·exact pl b hb⟩
theorem has_doms {vs:List V} (h:Has (.sl domSh) vs):∃ l:Ds,vs=[dsV l]∧l.length≤maxLen∧∀ d∈l,d.live<18446744073709551616:=by
 simp only [Has] at h
 obtain ⟨xs,rfl,hl,hx⟩:=h
 obtain ⟨l,rfl,hp⟩:=map_of2 (enc:=domV) (p:=fun d=>d.live<18446744073709551616) (xs:=xs) fun x hx'=>by
  obtain ⟨cs,rfl,hc⟩:=hx x hx'
  exact has_dom hc
 exact ⟨l,rfl,by simpa using hl,hp⟩
theorem has_u64s {vs:List V} (h:Has (.sl (.int .u64)) vs):∃ l:List Nat,vs=[bitsV l]∧l.length≤maxLen∧∀ m∈l,m<18446744073709551616:=by
 simp only [Has] at h
 obtain ⟨xs,rfl,hl,hx⟩:=h
 obtain ⟨l,rfl,hp⟩:=map_of2 (enc:=fun (m:Nat)=>V.int .u64 (m:Int)) (p:=fun m=>m<18446744073709551616) (xs:=xs) fun x hx'=>by
  obtain ⟨cs,rfl,hc⟩:=hx x hx'
  obtain ⟨n2,rfl,h3,h4⟩:=has_u64 (by simpa only [Has] using hc)
  obtain ⟨m,rfl⟩:=Int.eq_ofNat_of_zero_le h3
  exact ⟨m,rfl,by omega⟩
 exact ⟨l,rfl,by simpa using hl,hp⟩
theorem max_ok:maxLen≤9223372036854775807:=by decide
theorem soundL (cs:List Con) (l:Ds) (row:List Int) (ms:List Nat) (l0:cs.length≤maxLen) (l1:l.length≤maxLen) (y1:∀ d∈l,d.live<18446744073709551616) (l2:row.length≤maxLen) (l3:ms.length≤maxLen) (y3:∀ m∈ms,m<18446744073709551616) (h:List Ob) :
  acw C n_law17_FixSound [consV cs,dsV l,intsV row,bitsV ms] h=some (.ret (.bool true),h):=
 sound cs l row ms (Nat.le_trans l1 max_ok) y1 (Nat.le_trans l2 max_ok) (Nat.le_trans l3 max_ok) y3 h
end Go.RR.FX
